/- The file system: the names, rising. -/
import Derived.Test.YtijdgmbpkfmciaaH
import Derived.Test.YtijdgmbpkfmciaaLib2
namespace Go.Proofs.Ytijdgmbpkfmciaa.Fs
open Go.RowKit Go.Maps Go.ChangeMaps Go.WideMaps Go.Joins Go.Sort

def keysOf (D : Dm) : List (List UInt8) := (strKeys D).mergeSort leB

theorem ownsRow_zero {w : World} {b : Nat} {e : TypeId} {v : Value} {n : Nat} {xs : List Value} (h : w.ownsRow b e 1 v n xs) : w.ownsRow 0 e 1 v n xs := by
  obtain ⟨h0, h⟩ := h
  refine ⟨h0, ?_⟩
  rcases h with h | ⟨g, cap, cur, h1, h2, h3⟩
  · exact .inl h
  · exact .inr ⟨g, cap, cur, h1, Nat.zero_le _, h3⟩

set_option maxHeartbeats 1000000 in
set_option maxRecDepth 100000 in
theorem sorted_any (g : Gh) (s : St) (w : World) (h : Rep w g s) (hsz : Maps.size s.names ≤ 1000000000) :
    Calls Try.prog 37 #[.pointer (some ⟨g.p, 0, none⟩)] w fun e w' => ∃ v, e = .returned v ∧ w'.ownsRow w.heap.size 9 1 v (keysOf s.names).length ((keysOf s.names).map encStr) ∧ Below w.heap.size w w' := by
  obtain ⟨-, h1, -⟩ := fs_cells h.cells
  have cK := callsIn_wide.1 (Try.maps_Keys_55 (some g.m) w)
  have cS := callsIn_wide.1 (Try.slices_Sorted_keys_54_55 g.m _ s.names ptrR w h.nm (by unfold maxLen; omega) (by omega))
  have CS := Lib.hid cS
  have CK := Lib.hid cK
  clear cS cK h
  go_enter Try.func37, Try.ntmps37
  go_wp2_with (first
    | (go_at_call 55; refine CK.out.mono ?_; rintro e w' ⟨rfl, rfl⟩)
    | (go_at_call 54; refine CS.out.mono ?_; rintro e w' ⟨v, ss, rfl, hS, hrow, hnil, hb⟩))
  go_ret
  refine ⟨v, rfl, ?_, ((Below.refl _ w).alloc (Nat.le_refl _) _).trans (hb.mono (by simp))⟩
  have e1 : ss.mergeSort (fun x y => decide (x ≤ y)) = keysOf s.names := mergeSort_of_perm hS
  have e2 : ss.length = (keysOf s.names).length := by rw [keysOf, List.length_mergeSort, hS.length_eq]
  rw [e1, e2] at hrow
  obtain ⟨h0, hrow⟩ := hrow
  refine ⟨h0, ?_⟩
  rcases hrow with hrow | ⟨g', cap, cur, r1, r2, r3⟩
  · exact .inl hrow
  · exact .inr ⟨g', cap, cur, r1, by simp at r2; omega, r3⟩


set_option maxHeartbeats 1000000 in
set_option maxRecDepth 100000 in
theorem clipS_any (a : Option Addr) (n c : Nat) (w : World) (h : n ≤ c) :
    Calls Try.prog 40 #[.slice a n c] w fun e w' => e = .returned (.slice a n n) ∧ w' = w := by
  have h1 : (n : Int) ≤ (c : Int) := by omega
  cases a with
  | none =>
    go_enter Try.func40, Try.ntmps40
    go_wp2
    go_ret
    exact ⟨rfl, rfl⟩
  | some a =>
    go_enter Try.func40, Try.ntmps40
    go_wp2
    go_ret
    exact ⟨rfl, rfl⟩
set_option maxHeartbeats 1000000 in
set_option maxRecDepth 100000 in
theorem clipB_any (a : Option Addr) (n c : Nat) (w : World) (h : n ≤ c) :
    Calls Try.prog 38 #[.slice a n c] w fun e w' => e = .returned (.slice a n n) ∧ w' = w := by
  have h1 : (n : Int) ≤ (c : Int) := by omega
  cases a with
  | none =>
    go_enter Try.func38, Try.ntmps38
    go_wp2
    go_ret
    exact ⟨rfl, rfl⟩
  | some a =>
    go_enter Try.func38, Try.ntmps38
    go_wp2
    go_ret
    exact ⟨rfl, rfl⟩
end Go.Proofs.Ytijdgmbpkfmciaa.Fs
