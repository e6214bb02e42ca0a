/- The file system: Copy's 'twin'. -/
import Derived.Test.YtijdgmbpkfmciaaZh
import Derived.Deep.RegionHeldLaw
namespace Go.Proofs.Ytijdgmbpkfmciaa.Fs
open Go.RowKit Go.Maps Go.ChangeMaps Go.WideMaps Go.Joins

theorem slice_of_owns {w : World} {b e s n : Nat} {v : Value} {xs : List Value} (h : w.ownsRow b e s v n xs) : ∃ a l c, v = .slice a l c := by
  rcases h.2 with ⟨h, _⟩ | ⟨g, cap, cur, h, _⟩
  · exact ⟨_, _, _, h⟩
  · exact ⟨_, _, _, h⟩
/-- A file as it lies: its block, its row. -/
structure FileAt (w : World) (x : Nat) (bv : Value) (bs : List UInt8) (sy : Nat) : Prop where
  cells : w.heap[x]? = some (.cells #[bv, .int .i64 sy] 66 (0, 0))
  row : Row w 5 bv (bs.map byteV)
  lt : ∀ b ∈ blkOf bv, b < w.heap.size
theorem FileAt.fileB {w : World} {x : Nat} {bv : Value} {bs : List UInt8} {sy : Nat} (h : FileAt w x bv bs sy) : FileB w x := ⟨_, h.cells⟩
theorem FileB.turn {w w' : World} {F : List Nat} {x : Nat} (h : FileB w x) (ht : Turn w w' F) (hF : x ∉ F) : FileB w' x := by
  obtain ⟨ca, h⟩ := h
  exact ⟨ca, (ht.block x (Array.getElem?_eq_some_iff.1 h).1 hF).trans h⟩

set_option maxHeartbeats 4000000 in
set_option maxRecDepth 100000 in
/-- One that has its twin. -/
theorem twin_old (tb t x y : Nat) (D : List (Nat × Nat)) (w : World) (hb : w.cell? ⟨tb, 0, none⟩ = some (.map (some t))) (hm : PMap w t D) (hx : FileB w x) (hD : ∀ p ∈ D, FileB w p.1) (hl : D.lookup x = some y) :
    Calls Try.prog 42 #[.pointer (some ⟨x, 0, none⟩), .pointer (some ⟨tb, 0, none⟩)] w fun e w' => e = .returned (.pointer (some ⟨y, 0, none⟩)) ∧ w' = w := by
  have hlk := lookup_ptr hm hx hD
  rw [hl] at hlk
  unfold pV at hlk
  clear hm hx hD hl
  go_enter Try.func42, Try.ntmps42
  go_wp2_with fail
  go_ret
  exact ⟨rfl, rfl⟩

set_option maxHeartbeats 4000000 in
set_option maxRecDepth 100000 in
/-- One that has none yet: it is made. -/
theorem twin_new (tb t x : Nat) (D : List (Nat × Nat)) (bv : Value) (bs : List UInt8) (sy : Nat) (w : World) (hb : w.cell? ⟨tb, 0, none⟩ = some (.map (some t))) (hm : PMap w t D) (hx : FileAt w x bv bs sy) (hn : bs.length ≤ 1000000000) (hD : ∀ p ∈ D, FileB w p.1) (hl : D.lookup x = none)
    (htb : tb ≠ t) (htx : x ≠ t) (htD : ∀ p ∈ D, p.1 ≠ t) :
    Calls Try.prog 42 #[.pointer (some ⟨x, 0, none⟩), .pointer (some ⟨tb, 0, none⟩)] w fun e w' => ∃ y bv', e = .returned (.pointer (some ⟨y, 0, none⟩)) ∧ PMap w' t (D ++ [(x, y)]) ∧ Turn w w' [t] ∧ w.heap.size ≤ y ∧ FileAt w' y bv' bs sy ∧ (∀ b ∈ blkOf bv', w.heap.size ≤ b ∧ b ≠ y) := by
  have hlk := lookup_ptr hm hx.fileB hD
  rw [hl] at hlk
  unfold pV at hlk
  obtain ⟨f0, f1, ff⟩ := file_cells hx.cells
  have CC := Lib.hid (clone_any bv (bs.map byteV) w.drew hx.row (oneCell_bytes _) (by rw [List.length_map]; exact hn) hx.lt)
  have HX := Lib.hid hx
  have HM := Lib.hid hm
  have HD := Lib.hid hD
  have HLK := Lib.hid hl
  have hl1 := World.block_lt_of_cell? w _ hb
  have hl2 := World.block_lt_of_cell? w _ f0
  clear hx hm hD hl
  go_enter Try.func42, Try.ntmps42
  go_wp2_with fail
  have STEP : Hid (∀ (w2 : World) (v2 : Value), Below w.heap.size w w2 → ∃ w3, (Instr.mapUpdate 83 (.map (some t)) (.pointer (some ⟨x, 0, none⟩)) (.pointer (some ⟨w2.heap.size, 0, none⟩))).run Try.prog (w2.alloc (.cells #[v2, .int .i64 sy] 66)) = .ok () w3 ∧ PMap w3 t (D ++ [(x, w2.heap.size)]) ∧ Turn (w2.alloc (.cells #[v2, .int .i64 sy] 66)) w3 [t] ∧ w3.cell? ⟨tb, 0, none⟩ = some (.map (some t)) ∧ w3.cell? ⟨x, 0, none⟩ = some bv ∧ w3.cell? ⟨x, 1, none⟩ = some (.int .i64 sy) ∧ (Instr.lookup 83 (.map (some t)) (.pointer (some ⟨x, 0, none⟩)) false).run Try.prog w3 = .ok (.pointer (some ⟨w2.heap.size, 0, none⟩)) w3) := Lib.hid fun w2 v2 hb2 => by
    have hbA : Below w.heap.size w (w2.alloc (.cells #[v2, .int .i64 sy] 66)) := hb2.alloc hb2.size _
    have lt_ : ∀ z, FileB w z → z < w.heap.size := fun z ⟨_, hz⟩ => (Array.getElem?_eq_some_iff.1 hz).1
    have hmA := HM.out.frame (hbA.block t (by obtain ⟨_, _, h, _⟩ := HM.out; exact (Array.getElem?_eq_some_iff.1 h).1))
    have fA : ∀ z, FileB w z → FileB (w2.alloc (.cells #[v2, .int .i64 sy] 66)) z := fun z hz => by
      obtain ⟨ca, h⟩ := hz
      exact ⟨ca, (hbA.block z (lt_ z ⟨ca, h⟩)).trans h⟩
    obtain ⟨w3, h1, h2, h3⟩ := update_ptr (y := w2.heap.size) hmA (fA x HX.out.fileB) (fun p hp => fA p.1 (HD.out p hp)) HLK.out
    have c3 : ∀ (z o : Nat) (u : Value), z ≠ t → w.cell? ⟨z, o, none⟩ = some u → w3.cell? ⟨z, o, none⟩ = some u := fun z o u hz hc => by
      have hzl := World.block_lt_of_cell? w _ hc
      have hk : w3.heap[z]? = w.heap[z]? := (h3.block z (Nat.lt_of_lt_of_le hzl hbA.size) (by simpa using hz)).trans (hbA.block z hzl)
      exact (World.cell?_of_block (a := ⟨z, o, none⟩) hk).trans hc
    have f3 : ∀ z, FileB w z → z ≠ t → FileB w3 z := fun z hz hzt => (fA z hz).turn h3 (by simpa using hzt)
    refine ⟨w3, h1, h2, h3, c3 tb 0 _ htb hb, c3 x 0 _ htx f0, c3 x 1 _ htx f1, ?_⟩
    have hl3 := lookup_ptr h2 (f3 x HX.out.fileB htx) (fun p hp => by
      rcases List.mem_append.1 hp with h | h
      · exact f3 p.1 (HD.out p h) (htD p h)
      · rw [List.mem_singleton.1 h]; exact f3 x HX.out.fileB htx)
    rw [List.lookup_append, HLK.out] at hl3
    simpa [pV] using hl3
  go_region_held_law (fun w' => w'.cell? ⟨tb, 0, none⟩ = some (.map (some t)) ∧ w'.cell? ⟨x, 0, none⟩ = some bv ∧ w'.cell? ⟨x, 1, none⟩ = some (.int .i64 sy)) (first | exact ⟨hb, f0, f1⟩ | exact ⟨k3b, k3x, k3y⟩ | exact ⟨Go.Lib.cell?_alloc_some _ ((hbel.cell (p := ⟨tb, 0, none⟩) hl1).trans hb), Go.Lib.cell?_alloc_some _ ((hbel.cell (p := ⟨x, 0, none⟩) hl2).trans f0), Go.Lib.cell?_alloc_some _ ((hbel.cell (p := ⟨x, 1, none⟩) hl2).trans f1)⟩ | exact ⟨(hbel.cell (p := ⟨tb, 0, none⟩) hl1).trans hb, (hbel.cell (p := ⟨x, 0, none⟩) hl2).trans f0, (hbel.cell (p := ⟨x, 1, none⟩) hl2).trans f1⟩ | trace_state) ((go_at_call 41; refine CC.out.mono ?_; rintro e w2 ⟨v2', rfl, hown', hbel0⟩; have hbel : Below w.heap.size w w2 := ⟨hbel0.os, hbel0.tape, hbel0.output, hbel0.size, hbel0.block⟩; obtain ⟨va, vl, vc, hvv⟩ := slice_of_owns hown'; have hown := hvv ▸ hown'; clear hown'; subst hvv; obtain ⟨w3, hup, hp3, ht3, k3b, k3x, k3y, hlk3⟩ := STEP.out w2 (.slice va vl vc) hbel))
  go_wp2_with fail
  go_ret
  have hownB : ∀ b ∈ blkOf (.slice va vl vc), w.heap.size ≤ b ∧ b < w2.heap.size := fun b hb' => by
    rcases hown.2 with ⟨h1, _⟩ | ⟨g, cap, cur, h1, h2, h3, _⟩
    · rw [h1] at hb'; simp [blkOf, Value.ownBlock] at hb'
    · rw [h1] at hb'
      have : b = g := by simpa [blkOf, Value.ownBlock] using hb'
      subst this
      exact ⟨h2, (Array.getElem?_eq_some_iff.1 h3).1⟩
  have htl : t < w.heap.size := by obtain ⟨_, _, h, _⟩ := HM.out; exact (Array.getElem?_eq_some_iff.1 h).1
  have hbs := hbel.size
  have hA3 : ∀ z, z < w2.heap.size → z ≠ t → w3.heap[z]? = w2.heap[z]? := fun z hz hzt => (ht3.block z (by simp; omega) (by simpa using hzt)).trans (Below.heap_alloc w2 _ z hz)
  refine ⟨w2.heap.size, .slice va vl vc, rfl, hp3, ?_, hbs, ⟨?_, ?_, ?_⟩, fun b hb' => ⟨(hownB b hb').1, by have := (hownB b hb').2; omega⟩⟩
  · exact (((Turn.of_below hbel [t]).trans (Turn.alloc w2 (.cells #[.slice va vl vc, .int .i64 sy] 66) [t]) (fun b hb' => .inl hb'))).trans ht3 (fun b hb' => .inl hb')
  · exact (ht3.block w2.heap.size (by simp) (by simp; omega)).trans (MapKept.heap_alloc w2 _).1
  · have hrow2 : Row w2 5 (.slice va vl vc) (bs.map byteV) := row_of_exact (n := (bs.map byteV).length) ⟨hown.1, hown.2.imp id (fun ⟨g, cap, cur, h1, _, h3⟩ => ⟨g, cap, cur, h1, Nat.zero_le _, h3⟩)⟩
    exact hrow2.frame fun b hb' => hA3 b (hownB b hb').2 (by have := (hownB b hb').1; omega)
  · exact fun b hb' => by have := (hownB b hb').2; have := ht3.size; simp at this; omega
end Go.Proofs.Ytijdgmbpkfmciaa.Fs
