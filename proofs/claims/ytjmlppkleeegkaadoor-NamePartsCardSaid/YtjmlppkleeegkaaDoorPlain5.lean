/- NameStars in plain lists: patterns, what they map. -/
import Derived.Test.YtjmlppkleeegkaaDoorO
namespace Go.Proofs.YtjmlppkleeegkaaDoor.Nm
open Go.RowKit Go.Lib

def xL : Nat → List UInt8
  | 0 => [114, 101, 102, 115, 47, 104, 101, 97, 100, 115, 47]
  | 1 => [114, 101, 102, 115, 47, 116, 97, 103, 115, 47, 118]
  | 2 => [114, 101, 102, 115, 47, 114, 101, 109, 111, 116, 101, 115, 47, 111, 47]
  | _ => [114, 101, 102, 115, 47, 120, 45]
def eL : Nat → List UInt8
  | 0 => []
  | 1 => [47, 122]
  | 2 => [46, 49]
  | _ => [45, 113]

theorem parse_mk {a b : List UInt8} {f : Bool} (hb : (sideL b).1 = true) (hne : a ≠ []) (h4 : (sideL a).1 = true) (h5 : (sideL a).2 = (sideL b).2) : parseL (textL f a b) = some (f, a, b) := by
  have ha58 : (58 : UInt8) ∉ a := (good_parts h4).2.1
  have hhead : hasPrefix (a ++ 58 :: b) [43] = false := by
    obtain ⟨t, rfl⟩ := (good_parts h4).2.2
    rfl
  have h1 : noPlus (textL f a b) = a ++ 58 :: b := by
    unfold noPlus textL trimPrefix
    cases f with
    | true => rfl
    | false => simp only [Bool.false_eq_true, if_false]; rw [if_neg (by rw [hhead]; simp)]
  have h2 : plus (textL f a b) = f := by
    unfold plus textL
    cases f with
    | true => rfl
    | false => exact hhead
  unfold parseL
  rw [h1, h2]
  have h3 : srcDst (a ++ 58 :: b) = (a, b, true) := by
    unfold srcDst
    rw [at1_mk a b ha58]
    simp
  rw [h3]
  simp only
  rw [if_neg (by rw [hb]; simp)]
  rw [if_neg (by simp [hne, h4, h5])]

theorem pat_side : ∀ i < 4, ∀ j < 4, sideL (xL i ++ 42 :: eL j) = (true, true) := by decide +kernel
theorem pat_no : ∀ i < 4, (42 : UInt8) ∉ xL i := by decide +kernel
theorem xL_le : ∀ i < 4, (xL i).length ≤ 15 ∧ xL i ≠ [] := by decide +kernel
theorem eL_le : ∀ i < 4, (eL i).length ≤ 2 := by decide +kernel
theorem pat_parse (f : Bool) {i j i' j' : Nat} (hi : i < 4) (hj : j < 4) (hi' : i' < 4) (hj' : j' < 4) :
    parseL (textL f (xL i ++ 42 :: eL j) (xL i' ++ 42 :: eL j')) = some (f, xL i ++ 42 :: eL j, xL i' ++ 42 :: eL j') := by
  refine parse_mk (by rw [pat_side _ hi' _ hj']) (by simp) (by rw [pat_side _ hi _ hj]) (by rw [pat_side _ hi' _ hj', pat_side _ hi _ hj])

theorem suffix_app (a b : List UInt8) : hasSuffix (a ++ b) b = true := by unfold hasSuffix; simp
theorem prefix_app (a b : List UInt8) : hasPrefix (a ++ b) a = true := by unfold hasPrefix; simp
theorem map_pat {x e x' e' s : List UInt8} (h : (42 : UInt8) ∉ x) (h' : (42 : UInt8) ∉ x') :
    mapL (x ++ 42 :: e) (x' ++ 42 :: e') (x ++ (s ++ e)) = if validL (x' ++ (s ++ e')) then some (x' ++ (s ++ e')) else none := by
  have hr : rep1 s (x' ++ 42 :: e') = x' ++ (s ++ e') := by
    unfold rep1
    rw [at1_mk x' e' h']
    simp
  unfold mapL
  rw [at1_mk x e h]
  simp only
  have e1 : (x ++ 42 :: e).take x.length = x := by simp
  have e2 : (x ++ 42 :: e).drop (x.length + 1) = e := by simp
  have e3 : (x ++ (s ++ e)).drop x.length = s ++ e := by simp
  rw [e1, e2, e3, if_neg (by rw [prefix_app]; simp), if_neg (by rw [suffix_app]; simp)]
  have e4 : (s ++ e).take ((x ++ (s ++ e)).length - x.length - e.length) = s := by
    rw [show (x ++ (s ++ e)).length - x.length - e.length = s.length by simp]
    simp
  rw [e4, hr]
theorem map_nil {x e d : List UInt8} (h : (42 : UInt8) ∉ x) (hx : x ≠ []) : mapL (x ++ 42 :: e) d [] = none := by
  unfold mapL
  rw [at1_mk x e h]
  simp only
  rw [if_pos (by
    have e1 : (x ++ 42 :: e).take x.length = x := by simp
    rw [e1]
    cases x with
    | nil => exact absurd rfl hx
    | cons a b => rfl)]
end Go.Proofs.YtjmlppkleeegkaaDoor.Nm
