/- The law NameValid walked; what a row's start gives. -/
import Derived.Test.YtjmlppkleeegkaaDoorM
import Derived.Test.YtjmlppkleeegkaaDoorRows
import Derived.Lib.LaidIn
import Derived.Lib.LaidU8T
import Derived.PinnedBridge
import Derived.Deep.DeepHandedRow
import Derived.Deep.DeepWitnessRowRef
import Derived.ProofKit
import Derived.SizedLaws
import Derived.HandedShaped
import Derived.Shelf.Lay
namespace Go.Proofs.YtjmlppkleeegkaaDoor.Nm
open Go.RowKit Go.Lib
open Go (below_drewN)

set_option maxHeartbeats 2000000 in
set_option maxRecDepth 1000000 in
theorem law_valid (s t : ByteArray) (w : World) (hG : Glob w) (hs : s.size ≤ 140737488351232) (ht : t.size ≤ 140737488351232) :
    Calls Tryd.prog 4 #[.string s, .string t] w fun e w' => e = .returned (.bool true) ∧ Below w.heap.size w w' := by
  have c1 := valid_any s w hG (by omega)
  have c2 : ∀ w, Calls Tryd.prog 12 #[.string s] w _ := fun w => rvalid_any s w (by omega)
  have c3 : ∀ w, Calls Tryd.prog 13 #[.string s, .string t] w _ := fun w => under_any s t w hs ht
  have c4 : ∀ w, Calls Tryd.prog 14 #[.string s, .string t] w _ := fun w => runder_any s t w hs ht
  generalize validL s.data.toList = V at c1 c2
  generalize hasPrefix t.data.toList (s ++ (⟨#[47]⟩ : ByteArray)).data.toList = U at c3 c4
  have hV : (V == V) = true := by cases V <;> rfl
  have hU : (U == U) = true := by cases U <;> rfl
  go_enter Tryd.func4, Tryd.ntmps4
  go_wp2_with fail
  refine c1.mono ?_
  rintro e w1 ⟨rfl, hb1⟩
  go_wp2_with fail
  refine (c2 _).mono ?_
  rintro e w2 ⟨rfl, hb2⟩
  go_wp2_with fail
  refine (c3 _).mono ?_
  rintro e w3 ⟨rfl, rfl⟩
  go_wp2_with fail
  refine (c4 _).mono ?_
  rintro e w3 ⟨rfl, rfl⟩
  go_wp2_with fail
  have hG2 := (hG.below hb1).below hb2
  refine (awake_any _ hG2).mono ?_
  rintro e w4 ⟨rfl, hb4⟩
  go_wp2
  go_ret
  have hz1 := hb1.size
  have hz2 := hb2.size
  exact ⟨rfl, (hb1.trans (hb2.mono hz1)).trans (hb4.mono (by omega))⟩
end Go.Proofs.YtjmlppkleeegkaaDoor.Nm
