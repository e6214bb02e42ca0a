/- NameParts in plain lists. -/
import Derived.Test.YtjmlppkleeegkaaDoorPlain5
namespace Go.Proofs.YtjmlppkleeegkaaDoor.Nm
open Go.RowKit Go.Lib

def sL : Nat → List UInt8
  | 0 => [114, 101, 102, 115]
  | k + 1 => sL k ++ [47, 112, 97 + UInt8.ofNat k, 195, 169]
def sgL : Nat → List UInt8
  | 0 => [126]
  | 1 => [94]
  | 2 => [58]
  | 3 => [63]
  | 4 => [42]
  | 5 => [91]
  | 6 => [92]
  | 7 => [32]
  | 8 => [127]
  | 9 => [1]
  | 10 => [46, 46]
  | 11 => [64, 123]
  | 12 => [47, 47]
  | 13 => [47, 46]
  | 14 => [46, 108, 111, 99, 107, 47]
  | _ => [255]

theorem sL_length : ∀ k, (sL k).length = 4 + 5 * k
  | 0 => rfl
  | k + 1 => by rw [sL, List.length_append, sL_length k]; simp; omega
def okPut (l : List UInt8) (k : Nat) : Bool := decide (k < 5) || (decide (k < l.length) && decide (128 ≤ l.getD k 0)) || (List.range 16).all fun b => !(validL (l.take k ++ sgL b ++ l.drop k))
set_option maxRecDepth 100000 in
theorem put1 : (List.range 10).all (okPut (sL 1)) = true := by decide +kernel
set_option maxRecDepth 100000 in
theorem put2 : (List.range 15).all (okPut (sL 2)) = true := by decide +kernel
set_option maxRecDepth 100000 in
theorem put3 : (List.range 20).all (okPut (sL 3)) = true := by decide +kernel
set_option maxRecDepth 100000 in
theorem put4 : (List.range 25).all (okPut (sL 4)) = true := by decide +kernel
set_option maxRecDepth 100000 in
theorem put5 : (List.range 30).all (okPut (sL 5)) = true := by decide +kernel
set_option maxRecDepth 100000 in
theorem put6 : (List.range 35).all (okPut (sL 6)) = true := by decide +kernel
set_option maxRecDepth 100000 in
theorem put7 : (List.range 40).all (okPut (sL 7)) = true := by decide +kernel
set_option maxRecDepth 100000 in
theorem put8 : (List.range 45).all (okPut (sL 8)) = true := by decide +kernel
def endsL : List (List UInt8) := [[47], [46, 108, 111, 99, 107], [46]]
def okEnds (l : List UInt8) : Bool := validL l && endsL.all fun e => !(validL (l ++ e))
set_option maxRecDepth 100000 in
theorem ends_ok : ∀ n < 8, okEnds (sL (n + 1)) = true := by decide +kernel
theorem put_any : ∀ n < 8, (List.range (4 + 5 * (n + 1) + 1)).all (okPut (sL (n + 1))) = true
  | 0, _ => put1 | 1, _ => put2 | 2, _ => put3 | 3, _ => put4 | 4, _ => put5 | 5, _ => put6 | 6, _ => put7 | 7, _ => put8
  | n + 8, h => by omega
theorem put_bad {n k b : Nat} (hn : n < 8) (h5 : 5 ≤ k) (hk : k ≤ 4 + 5 * (n + 1)) (hc : k = 4 + 5 * (n + 1) ∨ (sL (n + 1)).getD k 0 < 128) (hb : b < 16) :
    validL ((sL (n + 1)).take k ++ sgL b ++ (sL (n + 1)).drop k) = false := by
  have h := List.all_eq_true.1 (put_any n hn) k (List.mem_range.2 (by omega))
  unfold okPut at h
  have e1 : decide (k < 5) = false := decide_eq_false (by omega)
  have e2 : (decide (k < (sL (n + 1)).length) && decide (128 ≤ (sL (n + 1)).getD k 0)) = false := by
    rw [sL_length]
    rcases hc with rfl | hc
    · simp
    · rw [decide_eq_false (p := 128 ≤ (sL (n + 1)).getD k 0) (by rw [UInt8.not_le]; exact hc)]
      simp
  rw [e1, e2, Bool.false_or, Bool.false_or, List.all_eq_true] at h
  have := h b (List.mem_range.2 hb)
  simpa using this
theorem ends_bad {n : Nat} (hn : n < 8) : validL (sL (n + 1)) = true ∧ validL (sL (n + 1) ++ [47]) = false ∧ validL (sL (n + 1) ++ [46, 108, 111, 99, 107]) = false ∧ validL (sL (n + 1) ++ [46]) = false := by
  have h := ends_ok n hn
  unfold okEnds endsL at h
  simp only [Bool.and_eq_true, List.all_cons, List.all_nil, Bool.not_eq_true'] at h
  exact ⟨h.1, h.2.1, h.2.2.1, h.2.2.2.1⟩
theorem sgL_le : ∀ b < 16, (sgL b).length ≤ 6 := by decide +kernel
end Go.Proofs.YtjmlppkleeegkaaDoor.Nm
