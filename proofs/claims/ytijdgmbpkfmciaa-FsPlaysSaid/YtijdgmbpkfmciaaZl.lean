/- The file system: Copy. -/
import Derived.Test.YtijdgmbpkfmciaaZn
namespace Go.Proofs.Ytijdgmbpkfmciaa.Fs
open Go.RowKit Go.Maps Go.ChangeMaps Go.WideMaps Go.Joins Go.Sort

def cp5 (w : World) (s : St) : World := ((((w.alloc (.cells #[.int .i64 s.quota, .map (some (w.heap.size + 1 + 1 + 1)), .map (some (w.heap.size + 1 + 1 + 1 + 1)), .slice none 0 0, .int .i64 s.fuse, .bool s.dead] 61)).alloc (.map #[] 0)).alloc (.cells #[.map (some (w.heap.size + 1))] 83)).alloc (.map #[] 0)).alloc (.map #[] 0)
def cpG (w : World) : Gh := { p := w.heap.size, m := w.heap.size + 1 + 1 + 1, l := w.heap.size + 1 + 1 + 1 + 1, cv := .slice none 0 0, ids := [], bv := fun _ => .slice none 0 0 }
def cpS (s : St) : St := { s with names := .map [], lasting := .map [], changes := [], files := fun _ => ([], 0) }
theorem cp5_size (w : World) (s : St) : (cp5 w s).heap.size = w.heap.size + 1 + 1 + 1 + 1 + 1 := by simp [cp5]
theorem cp_start {w : World} {g : Gh} {s : St} (h : Rep w g s) : Cp w (cp5 w s) g s (cpG w) (cpS s) (w.heap.size + 1 + 1) (w.heap.size + 1) [] := by
  have hb : Below w.heap.size w (cp5 w s) := (((((Below.refl _ _).alloc (Nat.le_refl _) _).alloc (by simp) _).alloc (by simp; omega) _).alloc (by simp; omega) _).alloc (by simp; omega) _
  have hh : (cp5 w s).heap = ((((w.heap.push (.cells #[.int .i64 s.quota, .map (some (w.heap.size + 1 + 1 + 1)), .map (some (w.heap.size + 1 + 1 + 1 + 1)), .slice none 0 0, .int .i64 s.fuse, .bool s.dead] 61)).push (.map #[] 0)).push (.cells #[.map (some (w.heap.size + 1))] 83)).push (.map #[] 0)).push (.map #[] 0) := rfl
  have e0 : (cp5 w s).heap[w.heap.size]? = some (.cells #[.int .i64 s.quota, .map (some (w.heap.size + 1 + 1 + 1)), .map (some (w.heap.size + 1 + 1 + 1 + 1)), .slice none 0 0, .int .i64 s.fuse, .bool s.dead] 61 (0, 0)) := by
    rw [hh]; simp only [Array.getElem?_push, Array.size_push]; (repeat rw [if_neg (by omega)]); (first | rw [if_pos (by omega)] | rfl | simp)
  have e1 : (cp5 w s).heap[w.heap.size + 1]? = some (.map #[] 0) := by rw [hh]; simp only [Array.getElem?_push, Array.size_push]; (repeat rw [if_neg (by omega)]); (first | rw [if_pos (by omega)] | rfl | simp)
  have e2 : (cp5 w s).heap[w.heap.size + 1 + 1]? = some (.cells #[.map (some (w.heap.size + 1))] 83 (0, 0)) := by rw [hh]; simp only [Array.getElem?_push, Array.size_push]; (repeat rw [if_neg (by omega)]); (first | rw [if_pos (by omega)] | rfl | simp)
  have e3 : (cp5 w s).heap[w.heap.size + 1 + 1 + 1]? = some (.map #[] 0) := by rw [hh]; simp only [Array.getElem?_push, Array.size_push]; (repeat rw [if_neg (by omega)]); (first | rw [if_pos (by omega)] | rfl | simp)
  have e4 : (cp5 w s).heap[w.heap.size + 1 + 1 + 1 + 1]? = some (.map #[] 0) := by rw [hh]; simp only [Array.getElem?_push, Array.size_push]; (repeat rw [if_neg (by omega)]); (first | rw [if_pos (by omega)] | rfl | simp)
  have own : ∀ b, (cp5 w s).heap[b]? = some (.map #[] 0) → (cp5 w s).ownsMap Try.prog 9 ptrR b 0 (.map []) := fun b hb => by
    have h0 := World.ownsMap_made (H := Unit) w Try.prog 9 ptrR
    obtain ⟨es, c, h1, h2⟩ := h0
    rw [(MapKept.heap_alloc w _).1] at h1
    injection h1 with h1
    injection h1 with h1 h1'
    subst h1 h1'
    exact ⟨_, _, hb, h2⟩
  have hf : ∀ b ∈ foot (cpG w), w.heap.size ≤ b ∧ b < w.heap.size + 5 ∧ b ≠ w.heap.size + 1 ∧ b ≠ w.heap.size + 1 + 1 := fun b hb => by
    rcases mem_foot.1 hb with e | e | e | e | e | ⟨k, hk, e⟩
    · simp [cpG] at e; omega
    · simp [cpG] at e; omega
    · simp [cpG] at e; omega
    · simp [cpG, blkOf, Value.ownBlock] at e
    · simp [cpG] at e
    · simp [cpG] at hk
  refine ⟨hb, h, ⟨e0, own _ e3, own _ e4, World.ownsRow_nil _ _ _ _, fun f hf => by simp [cpG] at hf, ?_, fun b hb' => by have := (hf b hb').2.1; rw [cp5_size]; omega⟩, fun b hb' => (hf b hb').1, by rw [cell_of_block e2]; rfl, ⟨_, _, e1, rfl⟩, ⟨by omega, fun hm => (hf _ hm).2.2.2 rfl, by omega⟩, ⟨by omega, fun hm => (hf _ hm).2.2.1 rfl⟩, fun p hp => absurd hp (by simp), fun p hp => absurd hp (by simp), fun a b y ha => by simp at ha⟩
  show (foot (cpG w)).Nodup
  simp [foot, head, fps, cpG, blkOf, Value.ownBlock]
  omega
end Go.Proofs.Ytijdgmbpkfmciaa.Fs
