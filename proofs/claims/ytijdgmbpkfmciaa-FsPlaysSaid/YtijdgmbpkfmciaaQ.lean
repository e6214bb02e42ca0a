/- The file system: what a crash leaves, in plain words. -/
import Derived.Test.YtijdgmbpkfmciaaP
namespace Go.Proofs.Ytijdgmbpkfmciaa.Fs
open Go.RowKit Go.Maps Go.ChangeMaps Go.WideMaps Go.Joins Go.Sort

def replay (D : Dm) (cs : List Chg) : Dm := cs.foldl app D
theorem replay_next (D : Dm) (cs : List Chg) (k : Nat) (h : k < cs.length) : replay D (cs.take (k + 1)) = app (replay D (cs.take k)) (cs[k]'h) := by
  unfold replay
  rw [List.take_add_one, List.getElem?_eq_getElem h, List.foldl_append]
  rfl

/-- How many bytes behind the lasting ones are kept. -/
def keepN (data : List Int) (i : Nat) (x : List UInt8 × Nat) : Nat :=
  if h : i < data.length then (min (max (data[i]'h) 0) ((x.1.length : Int) - x.2)).toNat else 0
def cutFile (data : List Int) (i : Nat) (x : List UInt8 × Nat) : List UInt8 × Nat := (x.1.take (x.2 + keepN data i x), (x.1.take (x.2 + keepN data i x)).length)
/-- The files behind the first k names' cuts. -/
def cutUpto (data : List Int) (D : Dm) (L : List (List UInt8)) (s : St) : Nat → St
  | 0 => s
  | k + 1 => let s' := cutUpto data D L s k; let f := look D ⟨(L.getD k []).toArray⟩ - 1; setFile s' f (cutFile data k (s'.files f))
def crashS (s : St) (names : Int) (data : List Int) : St :=
  let D := replay s.lasting (s.changes.take (min (max names 0) (s.changes.length : Int)).toNat)
  let s' := cutUpto data D (keysOf D) { s with names := D } (keysOf D).length
  { s' with lasting := D, changes := [], dead := false, fuse := -1 }
end Go.Proofs.Ytijdgmbpkfmciaa.Fs
