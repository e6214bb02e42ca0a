/- Walks: the document's sides of refspecs. -/
import Derived.Test.YtjmlppkleeegkaaDoorG
import Derived.Deep.RegionWith
import Derived.StillTailTactics
namespace Go.Proofs.YtjmlppkleeegkaaDoor.Nm
open Go.RowKit Go.Lib
open Go (below_drewN)

theorem data_app (a b : ByteArray) : (a ++ b).data.toList = a.data.toList ++ b.data.toList := by simp

theorem ext_to (s : ByteArray) (j : Nat) : (s.extract 0 j).data.toList = s.data.toList.take j := by rw [Lib.extract_data]; simp
theorem ext_from (s : ByteArray) (j : Nat) : (s.extract j s.size).data.toList = s.data.toList.drop j := by
  rw [Lib.extract_data, List.take_of_length_le (by rw [List.length_drop, ← Lib.size_eq]; omega)]

theorem starL_range (l : List UInt8) : starL l = -2 ∨ starL l = -1 ∨ ∃ j : Nat, starL l = j ∧ j < l.length := by
  rw [starL_eq]
  cases e : at1 42 l with
  | none => simp
  | some j =>
    obtain ⟨_, _, h⟩ := at1_some e
    by_cases h2 : (42 : UInt8) ∈ l.drop (j + 1)
    · simp [h2]
    · right; right; exact ⟨j, by simp [h2], h⟩

set_option maxHeartbeats 2000000 in
set_option maxRecDepth 100000 in
theorem may_any (s : ByteArray) (w : World) (hs : s.size ≤ 140737488351232) :
    Calls Tryd.prog 34 #[.string s] w fun e w' => e = .returned (.tuple #[.bool (sideL s.data.toList).1, .bool (sideL s.data.toList).2]) ∧ Below w.heap.size w w' := by
  rw [← may_side]
  have cS := star_any s w (by omega)
  obtain ⟨A1, hA1⟩ : ∃ A, (mayL s.data.toList).1 = A := ⟨_, rfl⟩
  obtain ⟨A2, hA2⟩ : ∃ A, (mayL s.data.toList).2 = A := ⟨_, rfl⟩
  rw [hA1, hA2]
  rcases starL_range s.data.toList with h | h | ⟨j, h, hj⟩
  · unfold mayL at hA1 hA2
    rw [h, if_pos rfl] at hA1 hA2
    rw [h] at cS
    have H1 := Lib.hid hA1
    have H2 := Lib.hid hA2
    clear hA1 hA2 h
    go_enter Tryd.func34, Tryd.ntmps34
    go_wp2_with (go_at_call 35; refine cS.mono ?_; rintro e w' ⟨rfl, rfl⟩)
    go_ret2
    exact ⟨by rw [← H1.out, ← H2.out]; rfl, Below.refl _ _⟩
  · unfold mayL at hA1 hA2
    rw [h, if_neg (by omega), if_pos (by omega)] at hA1 hA2
    rw [h] at cS
    have cV := rvalid_any s w (by omega)
    simp only at hA1 hA2
    rw [hA1] at cV
    have H2 := Lib.hid hA2
    clear hA1 hA2 h
    go_enter Tryd.func34, Tryd.ntmps34
    go_wp2_with (first | (go_at_call 35; refine cS.mono ?_; rintro e w' ⟨rfl, rfl⟩) | (go_at_call 12; refine cV.mono ?_; rintro e w' ⟨rfl, hb⟩))
    go_ret2
    exact ⟨by rw [← H2.out]; rfl, hb⟩
  · unfold mayL at hA1 hA2
    rw [h, if_neg (by omega), if_neg (by omega)] at hA1 hA2
    rw [h] at cS
    rw [← Lib.size_eq] at hj
    have b1 : (j : Int) < (s.size : Int) := by omega
    have b2 : (j : Int) + 1 ≤ (s.size : Int) := by omega
    have e1 : (s.extract 0 j).size = j := by rw [ByteArray.size_extract]; omega
    have z2 : (s.extract (j + 1) s.size).size = s.size - (j + 1) := by rw [ByteArray.size_extract]; omega
    have z1 : (s.extract 0 j ++ (⟨#[120]⟩ : ByteArray)).size = j + 1 := by rw [size_app, e1]; rfl
    have cV : ∀ w, Calls Tryd.prog 12 #[.string (s.extract 0 j ++ (⟨#[120]⟩ : ByteArray) ++ s.extract (j + 1) s.size)] w fun e w' => e = .returned (.bool A1) ∧ Below w.heap.size w w' := by
      intro w
      have := rvalid_any (s.extract 0 j ++ (⟨#[120]⟩ : ByteArray) ++ s.extract (j + 1) s.size) w (by rw [size_app, z1, z2]; omega)
      have ed : (s.extract 0 j ++ (⟨#[120]⟩ : ByteArray) ++ s.extract (j + 1) s.size).data.toList = s.data.toList.take j ++ [120] ++ s.data.toList.drop (j + 1) := by
        rw [data_app, data_app, ext_to, ext_from]
      rw [ed] at this
      simp only [Int.toNat_natCast] at hA1
      rw [hA1] at this
      exact this
    have H2 := Lib.hid hA2
    have e2 : j + 1 ≤ 9223372036854775807 := by omega
    have e3 : j + 1 + (s.size - (j + 1)) ≤ 9223372036854775807 := by omega
    clear hA1 hA2 h
    go_enter Tryd.func34, Tryd.ntmps34
    go_wp2_with (first | (go_at_call 35; refine cS.mono ?_; rintro e w' ⟨rfl, rfl⟩))
    have f1 : (j : Int) ≤ (s.size : Int) := by omega
    have f2 : j ≤ s.size := by omega
    have f3 : (0 : Int) ≤ (j : Int) := by omega
    have f4 : j + 1 ≤ s.size := by omega
    have g1 : (9223372036854775807 < j + 1) = False := eq_false (by omega)
    have g2 : (9223372036854775807 < j + 1 + (s.size - (j + 1))) = False := eq_false (by omega)
    have g6 : (9223372036854775807 < s.size) = False := eq_false (by omega)
    have g3 : IntKind.i64.wrap ((j : Int) + 1) = (j : Int) + 1 := IntWalk.i64_in _ (by omega)
    have g4 : (0 : Int) ≤ (j : Int) + 1 := by omega
    have g5 : ((j : Int) + 1).toNat = j + 1 := by omega
    go_still_tail 9, (by kernel_rfl)
    change wpList _ _ _ _ _ w'.drew
    go_wp2_with (go_at_call 12; refine (cV _).mono ?_; rintro e w2 ⟨rfl, hb⟩)
    go_ret2
    exact ⟨by rw [← H2.out]; rfl, (show Below w'.heap.size w' w'.drew from (Below.refl _ _).drew).trans hb⟩
end Go.Proofs.YtjmlppkleeegkaaDoor.Nm
