/- Deflate: plain, Raw at level 0. -/
import Derived.Test.YtiadnngfccbdmaaJ
namespace Go.Proofs.Ytiadnngfccbdmaa.Df
open Go.RowKit Go.Joins Go.Maps

set_option maxHeartbeats 4000000 in
set_option maxRecDepth 100000 in
theorem plain_any (u : Value) (src : List UInt8) (hls : src.length ≤ 65535) (w : World) (hu : News w u (src.map byteV)) :
    Calls Try.prog 14 #[u] w (Gave w (storedBs src)) := by
  obtain ⟨ua, uc, hul⟩ := hu.len
  rw [List.length_map] at hul
  subst hul
  have huS : ∀ b, (Value.slice ua src.length uc).ownBlock = some b → b < w.heap.size := fun b hb => by
    rcases hu with ⟨e, _⟩ | ⟨k, o, c, e, _, hk, _⟩
    · rw [e] at hb; simp [Value.ownBlock] at hb
    · rw [e] at hb
      have : k = b := by simpa [Value.ownBlock] using hb
      omega
  have HU := Lib.hid hu
  have z1 : ¬ (65535 : Int) < (src.length : Int) := by omega
  clear hu
  go_enter Try.func14, Try.ntmps14
  go_wp2_with fail
  go_loopw [0, 3] (fun a b wr => a = .slice ua src.length uc ∧ b = .slice none 0 0 ∧ wr = w) (fun _ _ _ => 0)
  case atStart => exact ⟨rfl, rfl, rfl⟩
  case round =>
    obtain ⟨rfl, rfl, rfl⟩ := hrel
    have hW : Hid (∀ (A : Array Value) (c : Nat), A[0]? = some (.iface 65 (.agg #[.slice ua src.length uc])) → Calls Try.prog 16 #[.slice (some ⟨wr.heap.size + 1, 0, none⟩) 1 c] ((wr.alloc (.cells #[.iface 65 (.agg #[.slice ua src.length uc])] 70)).alloc (.cells A 70)).drew (Gave wr (storedBs src))) := Lib.hid fun A c hA => by
      have hb : Below wr.heap.size wr ((wr.alloc (.cells #[.iface 65 (.agg #[.slice ua src.length uc])] 70)).alloc (.cells A 70)).drew := (((Below.refl _ _).alloc (Nat.le_refl _) _).alloc (by simp) _).drew
      have hk : ((wr.alloc (.cells #[.iface 65 (.agg #[.slice ua src.length uc])] 70)).alloc (.cells A 70)).drew.heap[wr.heap.size + 1]? = some (.cells A 70 (0, 0)) := by
        have := heap_alloc_new (wr.alloc (.cells #[.iface 65 (.agg #[.slice ua src.length uc])] 70)) (.cells A 70)
        rw [show (wr.alloc (.cells #[.iface 65 (.agg #[.slice ua src.length uc])] 70)).heap.size = wr.heap.size + 1 by simp] at this
        exact this
      refine (written_one (wr.heap.size + 1) c (.slice ua src.length uc) src hls _ (by rw [cell_of_block hk]; exact hA) (HU.out.frame hb.size fun b hb' => hb.block b (huS b hb'))).mono ?_
      rintro e w2 ⟨r, rfl, h1, h2, h3⟩
      exact ⟨r, rfl, h1, fun b hb' => by have := h2 b hb'; have := hb.size; omega, hb.trans (h3.mono hb.size)⟩
    go_wp2_with fail
    refine (hW.out _ _ ?_).mono ?_
    · rw [Array.getElem?_append_left (by decide : 0 < 1)]; rfl
    rintro e w2 ⟨r, rfl, h⟩
    have H := Lib.hid h
    clear h hW
    go_wp2_with fail
    go_ret
    exact ⟨r, rfl, H.out⟩

set_option maxHeartbeats 2000000 in
set_option maxRecDepth 100000 in
theorem raw0_any (u : Value) (src : List UInt8) (hls : src.length ≤ 65535) (w : World) (hu : News w u (src.map byteV)) :
    Calls Try.prog 8 #[u, .int .i64 0] w (Gave w (storedBs src)) := by
  have CP := Lib.hid (plain_any u src hls w hu)
  clear hu
  go_enter Try.func8, Try.ntmps8
  go_wp2_with fail
  refine CP.out.mono ?_
  rintro e w2 ⟨r, rfl, h⟩
  have H := Lib.hid h
  clear h CP
  go_wp2_with fail
  go_ret
  exact ⟨r, rfl, H.out⟩
end Go.Proofs.Ytiadnngfccbdmaa.Df
