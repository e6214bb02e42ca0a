/- The file system: a change of names. -/
import Derived.Test.YtijdgmbpkfmciaaB
import Derived.Deep.RegionHeld3
namespace Go.Proofs.Ytijdgmbpkfmciaa.Fs
open Go.RowKit Go.Maps Go.ChangeMaps Go.WideMaps Go.Joins

def Applied (w : World) (m : Nat) (D : Dm) (e : Ending) (w' : World) : Prop := e = .returned (.tuple #[]) ∧ w'.ownsMap Try.prog 9 ptrR m (Maps.size D) D ∧ Turn w w' [m]

theorem turn_grown_alloc {w w1 : World} {o : Obj} {m : Nat} (h : (w.alloc o).grownBy w1 (some m)) : Turn w w1 [m] :=
  (Turn.alloc w o [m]).trans (Turn.of_grown h) (fun b hb => .inl (by simpa using hb))

set_option maxHeartbeats 1000000 in
set_option maxRecDepth 100000 in
theorem applyC (m n : Nat) (D : Dm) (s : ByteArray) (f : Nat) (w : World) (hown : w.ownsMap Try.prog 9 ptrR m n D) (hn : n < maxLen) (hs : s.size ≤ maxLen) :
    Calls Try.prog 105 #[.agg #[.string s, .pointer (some ⟨f, 0, none⟩)], .map (some m)] w fun e w' => Applied w m (app D (.create s f)) e w' := by
  go_enter Try.func105, Try.ntmps105
  go_wp2_with (first | (at_mapUpdate; refine wpList_mapUpdate_own _ rfl _ _ _ 58 rfl 9 63 law Try.underlying58 ptrR m n _ rfl (hown.alloc _) hn _ _ _ rfl rfl (hkey hs) _ [] (ptrR_V (f + 1)) ?_; intro w1 h1 g1))
  exact bodyPost_ret (v := .tuple #[]) (by simp [results, Try.results105]) rfl ⟨rfl, owns_tight h1, turn_grown_alloc g1⟩

set_option maxHeartbeats 1000000 in
set_option maxRecDepth 100000 in
theorem applyD (m n : Nat) (D : Dm) (s : ByteArray) (w : World) (hown : w.ownsMap Try.prog 9 ptrR m n D) (hs : s.size ≤ maxLen) :
    Calls Try.prog 107 #[.agg #[.string s], .map (some m)] w fun e w' => Applied w m (app D (.remove s)) e w' := by
  go_enter Try.func107, Try.ntmps107
  go_wp2_with (first | (at_delete; refine wpList_delete_own _ rfl _ _ 58 9 rfl 63 law Try.underlying58 ptrR m n _ rfl (hown.alloc _) _ _ rfl (hkey hs) ?_; intro w1 h1 g1))
  exact bodyPost_ret (v := .tuple #[]) (by simp [results, Try.results107]) rfl ⟨rfl, owns_tight h1, turn_grown_alloc g1.grown⟩

set_option maxHeartbeats 1000000 in
set_option maxRecDepth 100000 in
theorem applyR (m n : Nat) (D : Dm) (a b : ByteArray) (w : World) (hown : w.ownsMap Try.prog 9 ptrR m n D) (hn : n < maxLen) (ha : a.size ≤ maxLen) (hb : b.size ≤ maxLen) :
    Calls Try.prog 106 #[.agg #[.string a, .string b], .map (some m)] w fun e w' => Applied w m (app D (.rename a b)) e w' := by
  have hL := fun o => (look_run (hown.alloc o) ha).1
  go_enter Try.func106, Try.ntmps106
  have hmlt := hown.lt
  go_wp2_with (first
    | (at_mapUpdate; refine wpList_mapUpdate_own _ rfl _ _ _ 58 rfl 9 63 law Try.underlying58 ptrR m n _ rfl (hown.alloc _) hn _ _ _ rfl rfl (hkey hb) _ [] (ptrR_V (look D a)) ?_; intro w1 h1 g1; have hc0 : w1.cell? ⟨w.heap.size, 0, none⟩ = some (.string a) := (by rw [World.cell?_of_block (g1.block w.heap.size (by simp) (by simp; omega))]; simp [go_sem]))
    | (at_delete; refine wpList_delete_own _ rfl _ _ 58 9 rfl 63 law Try.underlying58 ptrR m (n + 1) _ rfl h1 _ _ rfl (hkey ha) ?_; intro w2 h2 g2))
  exact bodyPost_ret (v := .tuple #[]) (by simp [results, Try.results106]) rfl ⟨rfl, owns_tight h2, (turn_grown_alloc g1).trans (Turn.of_grown g2.grown) (fun b hb => .inl (by simpa using hb))⟩

/-- A change's method, whichever it is. -/
def fnOf : Chg → Nat
  | .create _ _ => 105
  | .rename _ _ => 106
  | .remove _ => 107
def rcv : Chg → Value
  | .create s f => .agg #[.string s, .pointer (some ⟨f, 0, none⟩)]
  | .rename a b => .agg #[.string a, .string b]
  | .remove a => .agg #[.string a]
def tyOf : Chg → Nat
  | .create _ _ => 68
  | .rename _ _ => 80
  | .remove _ => 82
def small : Chg → Prop
  | .create s _ => s.size ≤ maxLen
  | .rename a b => a.size ≤ maxLen ∧ b.size ≤ maxLen
  | .remove a => a.size ≤ maxLen
theorem chgV_eq (c : Chg) : chgV c = .iface (tyOf c) (rcv c) := by cases c <;> rfl
theorem apply_any (c : Chg) (m n : Nat) (D : Dm) (w : World) (hown : w.ownsMap Try.prog 9 ptrR m n D) (hn : n < maxLen) (hs : small c) :
    Calls Try.prog (fnOf c) #[rcv c, .map (some m)] w fun e w' => Applied w m (app D c) e w' := by
  cases c with
  | create s f => exact applyC m n D s f w hown hn hs
  | rename a b => exact applyR m n D a b w hown hn hs.1 hs.2
  | remove a => exact applyD m n D a w hown hs
end Go.Proofs.Ytijdgmbpkfmciaa.Fs
