/- Deflate: written, plain, Raw at level 0. -/
import Derived.Test.YtiadnngfccbdmaaI
import Derived.StillTailTactics
namespace Go.Proofs.Ytiadnngfccbdmaa.Df
open Go.RowKit Go.Joins Go.Maps

theorem ahead65 (v : Value) (w : World) : (nilAhead 264 65 v "stemma/deflate.write").run Try.prog w = .ok (some false) w := by kernel_rfl
theorem meth65 (v : Value) (w : World) : (method 264 65 v "stemma/deflate.write").run Try.prog w = .ok (98, v) w := by kernel_rfl

theorem assert65 (v : Value) (w : World) : (Instr.typeAssert (.iface 65 v) 70 65 true).run Try.prog w = .ok (.tuple #[v, .bool true]) w := by kernel_rfl
attribute [local go_sem] ahead65 meth65 assert65
/-- A block of stored bytes. -/
def storedBs (src : List UInt8) : List UInt8 := [1] ++ four src.length ++ src

set_option maxHeartbeats 4000000 in
set_option maxRecDepth 100000 in
theorem written_one (k c : Nat) (u : Value) (src : List UInt8) (hls : src.length ≤ 65535) (w : World) (hc : w.cell? ⟨k, 0, none⟩ = some (.iface 65 (.agg #[u]))) (hu : News w u (src.map byteV)) :
    Calls Try.prog 16 #[.slice (some ⟨k, 0, none⟩) 1 c] w (Gave w (storedBs src)) := by
  obtain ⟨ua, uc, hul⟩ := hu.len
  rw [List.length_map] at hul
  subst hul
  have huS : ∀ b, (Value.slice ua src.length uc).ownBlock = some b → b < w.heap.size := fun b hb => by
    rcases hu with ⟨e, _⟩ | ⟨k, o, c, e, _, hk, _⟩
    · rw [e] at hb; simp [Value.ownBlock] at hb
    · rw [e] at hb
      have : k = b := by simpa [Value.ownBlock] using hb
      omega
  have hA : Ws (w.alloc (.cells #[.slice none 0 0, .int .u64 0, .int .i64 0] 68)) w.heap.size (.slice none 0 0) [] 0 0 :=
    ⟨⟨heap_alloc_new w _, World.ownsRow_nil _ _ _ _⟩, by decide, by decide⟩
  have huA : News (w.alloc (.cells #[.slice none 0 0, .int .u64 0, .int .i64 0] 68)) (.slice ua src.length uc) (src.map byteV) := hu.frame (by simp) fun b hb => Below.heap_alloc w _ b (huS b hb)
  have hcA : (w.alloc (.cells #[.slice none 0 0, .int .u64 0, .int .i64 0] 68)).cell? ⟨k, 0, none⟩ = some (.iface 65 (.agg #[.slice ua src.length uc])) := Go.Lib.cell?_alloc_some _ hc
  have hBA : Below w.heap.size w (w.alloc (.cells #[.slice none 0 0, .int .u64 0, .int .i64 0] 68)) := (Below.refl _ _).alloc (Nat.le_refl _) _
  have HA := Lib.hid hA
  have HUA := Lib.hid huA
  have HBA := Lib.hid hBA
  have hsz : (w.alloc (.cells #[.slice none 0 0, .int .u64 0, .int .i64 0] 68)).heap.size = w.heap.size + 1 := by simp
  obtain ⟨wa, hwa⟩ : ∃ wa, w.alloc (.cells #[.slice none 0 0, .int .u64 0, .int .i64 0] 68) = wa := ⟨_, rfl⟩
  rw [hwa] at HA HUA HBA hsz hcA
  have HSZ := Lib.hid hsz
  have HWA := Lib.hid hwa
  have z1 : (src.length : Int) ≤ 65535 := by omega
  clear hA huA hBA hu hc hwa hsz
  go_enter Try.func16, Try.ntmps16
  go_wp2_with fail
  rw [HWA.out]
  have CS : Hid (∀ w', Below wa.heap.size wa w' → Calls Try.prog 98 #[.agg #[.slice ua src.length uc], .pointer (some ⟨w.heap.size, 0, none⟩), .bool true] w' fun e w2 => e = .returned (.tuple #[]) ∧ ∃ v', Ws w2 w.heap.size v' (storedBs src) 0 0 ∧ Below w.heap.size w w2) := Lib.hid fun w' hb => by
    have hW : Ws w' w.heap.size (.slice none 0 0) [] 0 0 := ⟨⟨(hb.block _ (by rw [HSZ.out]; omega)).trans HA.out.wr.cells, World.ownsRow_nil _ _ _ _⟩, by decide, by decide⟩
    refine (stored_any w.heap.size (.slice none 0 0) (.slice ua src.length uc) src hls w' hW (HUA.out.frame hb.size fun b hb' => hb.block b (by have := huS b hb'; rw [HSZ.out]; omega)) (fun b hb' => ⟨by have := huS b hb'; omega, by simp [Value.ownBlock]⟩)).mono ?_
    rintro e w2 ⟨rfl, v', h1, h2⟩
    exact ⟨rfl, v', h1, HBA.out.trans ((hb.mono (by rw [HSZ.out]; omega)).trans (h2.turn.below (by have := hb.size; have := HSZ.out; omega) (fun b hb' => by simp [Value.ownBlock] at hb'; omega)))⟩
  clear HA HUA
  go_loopw [10] (fun a wr => (a = .int .i64 0 ∧ wr = wa) ∨ (a = .int .i64 1 ∧ ∃ v', Hid (Ws wr w.heap.size v' (storedBs src) 0 0 ∧ Below w.heap.size w wr))) (fun a _ => 1 - (RowKit.intOf a).toNat)
  case atStart => exact .inl ⟨rfl, rfl⟩
  case round =>
    rcases hrel with ⟨rfl, rfl⟩ | ⟨rfl, v', HW⟩
    · have h65 := ahead65
      have m65 := meth65
      go_wp2_with fail
      refine (CS.out _ ((Below.refl _ _).alloc (Nat.le_refl _) _)).mono ?_
      rintro e w2 ⟨rfl, v2, hw2, hb2⟩
      have HW2 := Lib.hid (And.intro hw2 hb2)
      clear hw2 hb2 CS
      go_wp2_with fail
      go_roundw
      case measure => simp [RowKit.intOf]
      case rel => exact .inr ⟨rfl, v2, HW2⟩
    · have CB := Lib.hid (bytes_any w.heap.size v' (storedBs src) 0 0 (by simp [storedBs, four]; omega) wr HW.out.1)
      have HB := Lib.hid HW.out.2
      clear HW CS
      go_wp2_with fail
      refine CB.out.mono ?_
      rintro e w3 ⟨r, rfl, hr, hr2, hr3⟩
      go_wp2_with fail
      go_ret
      exact ⟨r, rfl, by simpa [alignBs] using hr, fun b hb => by have := hr2 b hb; have := HB.out.size; omega, HB.out.trans (hr3.mono HB.out.size)⟩
end Go.Proofs.Ytiadnngfccbdmaa.Df
