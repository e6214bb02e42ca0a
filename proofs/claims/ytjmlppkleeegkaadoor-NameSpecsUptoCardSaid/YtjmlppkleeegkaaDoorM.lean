/- Walks: what the document fixes (awake). -/
import Derived.Test.YtjmlppkleeegkaaDoorL
namespace Go.Proofs.YtjmlppkleeegkaaDoor.Nm
open Go.RowKit Go.Lib
open Go (below_drewN)

set_option maxRecDepth 100000 in
theorem aw_parse : parseL [43, 114, 101, 102, 115, 47, 104, 101, 97, 100, 115, 47, 42, 58, 114, 101, 102, 115, 47, 114, 101, 109, 111, 116, 101, 115, 47, 111, 47, 42] = some (true, [114, 101, 102, 115, 47, 104, 101, 97, 100, 115, 47, 42], [114, 101, 102, 115, 47, 114, 101, 109, 111, 116, 101, 115, 47, 111, 47, 42]) := by decide +kernel
set_option maxRecDepth 100000 in
theorem aw_map : mapL [114, 101, 102, 115, 47, 104, 101, 97, 100, 115, 47, 42] [114, 101, 102, 115, 47, 114, 101, 109, 111, 116, 101, 115, 47, 111, 47, 42] [114, 101, 102, 115, 47, 104, 101, 97, 100, 115, 47, 120, 47, 121] = some [114, 101, 102, 115, 47, 114, 101, 109, 111, 116, 101, 115, 47, 111, 47, 120, 47, 121] := by decide +kernel
theorem aw_v1 : validL [114, 101, 102, 115, 47, 104, 101, 97, 100, 115, 47, 97] = true := by decide +kernel
theorem aw_v2 : validL [114, 101, 102, 115, 47, 104, 101, 97, 100, 115, 47, 46, 97] = false := by decide +kernel
theorem aw_u : hasPrefix [114, 101, 102, 115, 47, 97, 47, 98] [114, 101, 102, 115, 47, 97, 47] = true := by decide +kernel

set_option maxHeartbeats 4000000 in
set_option maxRecDepth 1000000 in
theorem awake_any (w : World) (hG : Glob w) :
    Calls Tryd.prog 9 #[] w fun e w' => e = .returned (.bool true) ∧ Below w.heap.size w w' := by
  have hGs := hG.size
  have c8 : ∀ w, Glob w → Calls Tryd.prog 8 #[.string ⟨#[43, 114, 101, 102, 115, 47, 104, 101, 97, 100, 115, 47, 42, 58, 114, 101, 102, 115, 47, 114, 101, 109, 111, 116, 101, 115, 47, 111, 47, 42]⟩] w fun e w' => e = .returned (.tuple #[.agg #[.bool true, .string ⟨#[114, 101, 102, 115, 47, 104, 101, 97, 100, 115, 47, 42]⟩, .string ⟨#[114, 101, 102, 115, 47, 114, 101, 109, 111, 116, 101, 115, 47, 111, 47, 42]⟩], .int .i64 0]) ∧ Below w.heap.size w w' := fun w hG => by
    have := parse_any ⟨#[43, 114, 101, 102, 115, 47, 104, 101, 97, 100, 115, 47, 42, 58, 114, 101, 102, 115, 47, 114, 101, 109, 111, 116, 101, 115, 47, 111, 47, 42]⟩ w hG (by decide)
    rw [show (⟨#[43, 114, 101, 102, 115, 47, 104, 101, 97, 100, 115, 47, 42, 58, 114, 101, 102, 115, 47, 114, 101, 109, 111, 116, 101, 115, 47, 111, 47, 42]⟩ : ByteArray).data.toList = [43, 114, 101, 102, 115, 47, 104, 101, 97, 100, 115, 47, 42, 58, 114, 101, 102, 115, 47, 114, 101, 109, 111, 116, 101, 115, 47, 111, 47, 42] from rfl, aw_parse] at this
    exact this
  have c10 : ∀ w, Glob w → Calls Tryd.prog 10 #[.agg #[.bool true, .string ⟨#[114, 101, 102, 115, 47, 104, 101, 97, 100, 115, 47, 42]⟩, .string ⟨#[114, 101, 102, 115, 47, 114, 101, 109, 111, 116, 101, 115, 47, 111, 47, 42]⟩], .string ⟨#[114, 101, 102, 115, 47, 104, 101, 97, 100, 115, 47, 120, 47, 121]⟩] w fun e w' => e = .returned (.tuple #[.string ⟨#[114, 101, 102, 115, 47, 114, 101, 109, 111, 116, 101, 115, 47, 111, 47, 120, 47, 121]⟩, .bool true]) ∧ Below w.heap.size w w' := fun w hG => by
    have := map_any true ⟨#[114, 101, 102, 115, 47, 104, 101, 97, 100, 115, 47, 42]⟩ ⟨#[114, 101, 102, 115, 47, 114, 101, 109, 111, 116, 101, 115, 47, 111, 47, 42]⟩ ⟨#[114, 101, 102, 115, 47, 104, 101, 97, 100, 115, 47, 120, 47, 121]⟩ w hG (by decide) (by decide) (by decide)
    rw [show (⟨#[114, 101, 102, 115, 47, 104, 101, 97, 100, 115, 47, 42]⟩ : ByteArray).data.toList = [114, 101, 102, 115, 47, 104, 101, 97, 100, 115, 47, 42] from rfl, show (⟨#[114, 101, 102, 115, 47, 114, 101, 109, 111, 116, 101, 115, 47, 111, 47, 42]⟩ : ByteArray).data.toList = [114, 101, 102, 115, 47, 114, 101, 109, 111, 116, 101, 115, 47, 111, 47, 42] from rfl, show (⟨#[114, 101, 102, 115, 47, 104, 101, 97, 100, 115, 47, 120, 47, 121]⟩ : ByteArray).data.toList = [114, 101, 102, 115, 47, 104, 101, 97, 100, 115, 47, 120, 47, 121] from rfl, aw_map] at this
    exact this
  have c11a : ∀ w, Glob w → Calls Tryd.prog 11 #[.string ⟨#[114, 101, 102, 115, 47, 104, 101, 97, 100, 115, 47, 97]⟩] w fun e w' => e = .returned (.bool true) ∧ Below w.heap.size w w' := fun w hG => by
    have := valid_any ⟨#[114, 101, 102, 115, 47, 104, 101, 97, 100, 115, 47, 97]⟩ w hG (by decide)
    rw [show (⟨#[114, 101, 102, 115, 47, 104, 101, 97, 100, 115, 47, 97]⟩ : ByteArray).data.toList = [114, 101, 102, 115, 47, 104, 101, 97, 100, 115, 47, 97] from rfl, aw_v1] at this
    exact this
  have c11b : ∀ w, Glob w → Calls Tryd.prog 11 #[.string ⟨#[114, 101, 102, 115, 47, 104, 101, 97, 100, 115, 47, 46, 97]⟩] w fun e w' => e = .returned (.bool false) ∧ Below w.heap.size w w' := fun w hG => by
    have := valid_any ⟨#[114, 101, 102, 115, 47, 104, 101, 97, 100, 115, 47, 46, 97]⟩ w hG (by decide)
    rw [show (⟨#[114, 101, 102, 115, 47, 104, 101, 97, 100, 115, 47, 46, 97]⟩ : ByteArray).data.toList = [114, 101, 102, 115, 47, 104, 101, 97, 100, 115, 47, 46, 97] from rfl, aw_v2] at this
    exact this
  have c13 : ∀ w, Calls Tryd.prog 13 #[.string ⟨#[114, 101, 102, 115, 47, 97]⟩, .string ⟨#[114, 101, 102, 115, 47, 97, 47, 98]⟩] w fun e w' => e = .returned (.bool true) ∧ w' = w := fun w => by
    have := under_any ⟨#[114, 101, 102, 115, 47, 97]⟩ ⟨#[114, 101, 102, 115, 47, 97, 47, 98]⟩ w (by decide) (by decide)
    rw [show (⟨#[114, 101, 102, 115, 47, 97, 47, 98]⟩ : ByteArray).data.toList = [114, 101, 102, 115, 47, 97, 47, 98] from rfl, show ((⟨#[114, 101, 102, 115, 47, 97]⟩ : ByteArray) ++ (⟨#[47]⟩ : ByteArray)).data.toList = [114, 101, 102, 115, 47, 97, 47] by decide +kernel, aw_u] at this
    exact this
  go_enter Tryd.func9, Tryd.ntmps9
  go_wp2_with fail
  refine (c8 _ hG).mono ?_
  rintro e w1 ⟨rfl, hb1⟩
  have hG1 := hG.below hb1
  have hz1 := hb1.size
  go_wp2_with fail
  refine (c10 _ (hG1.alloc _)).mono ?_
  rintro e w2 ⟨rfl, hb2⟩
  obtain ⟨hc2, hf2⟩ := bcell hb2
  have hG2 := (hG1.alloc _).below hb2
  have hz2 : w1.heap.size < w2.heap.size := by have h := hb2.size; simp at h; omega
  go_wp2_with fail
  refine (c11a _ hG2).mono ?_
  rintro e w3 ⟨rfl, hb3⟩
  have hG3 := hG2.below hb3
  have hz3 := hb3.size
  go_wp2_with fail
  refine (c11b _ hG3).mono ?_
  rintro e w4 ⟨rfl, hb4⟩
  have hG4 := hG3.below hb4
  have hz4 := hb4.size
  go_wp2_with fail
  refine (c13 _).mono ?_
  rintro e w5 ⟨rfl, rfl⟩
  go_wp2
  go_ret
  exact ⟨rfl, (((hb1.alloc hz1 _).trans (hb2.mono (by simp; omega))).trans (hb3.mono (by omega))).trans (hb4.mono (by omega))⟩
end Go.Proofs.YtjmlppkleeegkaaDoor.Nm
