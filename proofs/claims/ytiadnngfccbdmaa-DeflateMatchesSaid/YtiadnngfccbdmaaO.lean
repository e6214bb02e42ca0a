/- Deflate: awake. -/
import Derived.Test.YtiadnngfccbdmaaM
import Derived.Lib.SlBytesConst
import Derived.Lib.BufferRead
namespace Go.Proofs.Ytiadnngfccbdmaa.Df
open Go.RowKit Go.Joins Go.Maps

theorem conv_news {w : World} {v : Value} {bs : List UInt8} (h : News w v (bs.map byteV)) : (convert 22 9 v).run Try.prog w = .ok (.string ⟨bs.toArray⟩) w := by
  rcases h with ⟨rfl, e⟩ | ⟨k, o, c, rfl, hc, _, h⟩
  · have : bs = [] := by simpa using e
    subst this
    exact Go.Lib.run_convert_nil_bytes w 22 9 5 0 Try.underlying22 Try.underlying5 Try.underlying9
  · rw [List.length_map]
    exact run_convert_bytes_back w 22 9 5 ⟨k, o, none⟩ c bs Try.underlying22 Try.underlying5 Try.underlying9 (fun j hj => by rw [addr_add]; exact h j _ (by rw [List.getElem?_map, List.getElem?_eq_getElem hj]; rfl))

set_option maxHeartbeats 4000000 in
set_option maxRecDepth 100000 in
theorem awake_any (w : World) : Calls Try.prog 6 #[] w fun e w' => e = .returned (.bool true) ∧ Below w.heap.size w w' := by
  have hcv := fun (w : World) (C : Array Value) (n c : Nat) => Go.Lib.run_convert_bytes_const (P := Try.prog) w 22 5 C n c Try.underlying22 Try.underlying5
  have hN : News (w.alloc (.cells #[.int .u8 97, .int .u8 98] 5 (2, 3))) (.slice (some ⟨w.heap.size, 0, none⟩) 2 2) (([97, 98] : List UInt8).map byteV) :=
    .inr ⟨w.heap.size, 0, 2, rfl, by decide, by simp, fun j u hj => by rw [cell_of_row _ _ _ _ _ _ (Go.MapKept.heap_alloc w (.cells #[.int .u8 97, .int .u8 98] 5 (2, 3))).1]; rw [Nat.zero_add, ← hj]; simp [byteV]⟩
  have CR := Lib.hid (raw0_any _ [97, 98] (by decide) _ hN)
  have hb0 : Below w.heap.size w (w.alloc (.cells #[.int .u8 97, .int .u8 98] 5 (2, 3))) := (Below.refl _ _).alloc (Nat.le_refl _) _
  have HB0 := Lib.hid hb0
  clear hN hb0
  go_enter Try.func6, Try.ntmps6
  go_wp2_with fail
  refine CR.out.mono ?_
  rintro e w1 ⟨r, rfl, h1, h2, h3⟩
  rw [show storedBs [97, 98] = [1, 2, 0, 253, 255, 97, 98] from rfl] at h1
  have hc1 := conv_news h1
  have HB1 := Lib.hid (HB0.out.trans (h3.mono HB0.out.size))
  have CZ := Lib.hid (zlib_none w1)
  clear h1 h2 h3 CR HB0 hcv
  go_wp2_with fail
  refine CZ.out.mono ?_
  rintro e w2 ⟨r2, rfl, h1, h2, h3⟩
  have hc2 := conv_news h1
  have HB2 := Lib.hid (HB1.out.trans (h3.mono HB1.out.size))
  clear h1 h2 h3 CZ hc1
  go_wp2_with fail
  go_ret
  exact ⟨rfl, HB2.out⟩
end Go.Proofs.Ytiadnngfccbdmaa.Df
