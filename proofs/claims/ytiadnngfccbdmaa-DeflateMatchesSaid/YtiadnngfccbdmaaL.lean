/- Deflate: Adler of nothing. -/
import Derived.Test.YtiadnngfccbdmaaK
namespace Go.Proofs.Ytiadnngfccbdmaa.Df
open Go.RowKit Go.Joins Go.Maps

set_option maxHeartbeats 4000000 in
set_option maxRecDepth 100000 in
theorem begun_three (w : World) :
    Calls Try.prog 49 #[.int .i64 3] w fun e w' => e = .returned (.pointer (some ⟨w.heap.size, 0, none⟩)) ∧ w'.cell? ⟨w.heap.size, 0, none⟩ = some (.int .i64 3) ∧ w'.cell? ⟨w.heap.size, 265, none⟩ = some (.int .u32 1) ∧ w'.cell? ⟨w.heap.size, 266, none⟩ = some (.int .u32 0) ∧ w.heap.size < w'.heap.size ∧ Below w.heap.size w w' := by
  go_enter Try.func49, Try.ntmps49
  go_wp2_with fail
  go_ret
  refine ⟨rfl, ?_, ?_, ?_, by simp, (Below.refl _ _).alloc (Nat.le_refl _) _⟩
  · rw [cell_of_block (heap_alloc_new w _)]; kernel_rfl
  · rw [cell_of_block (heap_alloc_new w _)]; kernel_rfl
  · rw [cell_of_block (heap_alloc_new w _)]; kernel_rfl

set_option maxHeartbeats 4000000 in
set_option maxRecDepth 100000 in
theorem write_none (p : Nat) (w : World) (h0 : w.cell? ⟨p, 0, none⟩ = some (.int .i64 3)) :
    Calls Try.prog 50 #[.pointer (some ⟨p, 0, none⟩), .slice none 0 0] w fun e w' => e = .returned (.tuple #[]) ∧ w' = w := by
  go_enter Try.func50, Try.ntmps50
  go_wp2_with fail
  go_loopw [93] (fun a wr => a = .int .i64 0 ∧ wr = w) (fun _ _ => 0)
  case atStart => exact ⟨rfl, rfl⟩
  case round =>
    obtain ⟨rfl, rfl⟩ := hrel
    go_wp2_with fail
    refine bodyPost_end (v := .tuple #[]) (by simp [results, Try.results50]) rfl ?_
    exact ⟨rfl, rfl⟩

set_option maxHeartbeats 4000000 in
set_option maxRecDepth 100000 in
theorem four_one (B : Nat) (v : Value) (w : World) (h : w.ownsRow B 5 1 v 0 []) (hB : B ≤ w.heap.size) :
    Calls Try.prog 62 #[v, .int .u32 1] w fun e w' => ∃ v', e = .returned v' ∧ w'.ownsRow B 5 1 v' 4 (([0, 0, 0, 1] : List UInt8).map byteV) ∧ Below B w w' := by
  obtain ⟨i0, hi, hz0, hz1, hz2⟩ := info_parts info5
  obtain ⟨va, vl, vc, hvv⟩ := slice_of_row h
  subst hvv
  obtain rfl := owned_len h
  have hA := ownsRow_alloc h (.cells #[.int .u8 0, .int .u8 0, .int .u8 0, .int .u8 1] 5)
  have hN := World.news_of_block (heap_alloc_new w (.cells #[.int .u8 0, .int .u8 0, .int .u8 0, .int .u8 1] 5))
  have hge := Lib.hid (own_ge h)
  clear h
  go_enter Try.func62, Try.ntmps62
  go_wp2_with (first | (at_builtin; refine wpList_append_own_at _ rfl (.tmp 5) (.tmp 17) 22 rfl B 5 i0 (.int .u8 0) 1 1 Try.underlying22 hi hz0 hz1 hz2 rfl (by decide) _ _ _ rfl hA ⟨w.heap.size, 0, none⟩ 4 4 [.int .u8 0, .int .u8 0, .int .u8 0, .int .u8 1] rfl rfl hN (by simp [Value.oneCell']) (by decide) (by decide) (by simp; omega) ?_; intro v' w2 hown hgrow hnl hat))
  go_ret
  refine ⟨_, rfl, hown, ?_⟩
  refine ((Below.refl w.heap.size w).alloc (Nat.le_refl _) (.cells #[.int .u8 0, .int .u8 0, .int .u8 0, .int .u8 1] 5)).mono hB |>.trans ?_
  exact ⟨hgrow.os, hgrow.tape, hgrow.output, hgrow.size, fun k hk => hgrow.block k (by simp; omega) fun e => by have := (hge.out k e).1; omega⟩
end Go.Proofs.Ytiadnngfccbdmaa.Df
