/- The file system: awake walked. -/
import Derived.Test.YtijdgmbpkfmciaaV
import Derived.Lib.SlBytesConst
namespace Go.Proofs.Ytijdgmbpkfmciaa.Fs
open Go.RowKit Go.Maps Go.ChangeMaps Go.WideMaps Go.Joins Go.Sort

theorem news_nil (w : World) : News w (.slice none 0 0) ((([] : List Int)).map intV) := .inl ⟨rfl, rfl⟩

theorem news_cells (w : World) (bs : List UInt8) (fr : Nat × Nat) : News (w.alloc (.cells (bs.map byteV).toArray 5 fr)) (.slice (some ⟨w.heap.size, 0, none⟩) bs.length bs.length) (bs.map byteV) := by
  refine .inr ⟨_, bs.length, by rw [List.length_map], by simp, fun j u hj => ?_⟩
  have h : (w.alloc (.cells (bs.map byteV).toArray 5 fr)).heap[w.heap.size]? = some (.cells (bs.map byteV).toArray 5 fr) := (MapKept.heap_alloc w _).1
  rw [add_head, World.cell?]
  simp only [h]
  simpa using hj

theorem row_lt {w : World} {e : TypeId} {v : Value} {xs : List Value} (h : Row w e v xs) : ∀ b ∈ blkOf v, b < w.heap.size := by
  intro b hb
  rcases h with ⟨rfl, _⟩ | ⟨b', cap, cur, rfl, h1, _⟩
  · simp [blkOf, Value.ownBlock] at hb
  · have : b = b' := by simpa [blkOf, Value.ownBlock] using hb
    subst this
    exact (Array.getElem?_eq_some_iff.1 h1).1

set_option maxHeartbeats 4000000 in
set_option maxRecDepth 100000 in
theorem awake_any (w : World) : Calls Try.prog 15 #[] w fun e w' => e = .returned (.bool true) ∧ Below w.heap.size w w' := by
  have CN := Lib.hid (sys_new 100 w w (by omega) (by omega) (Below.refl _ _))
  have na : nmA.size ≤ maxLen := by unfold maxLen; decide
  go_enter Try.func15, Try.ntmps15
  go_wp2_with fail
  refine CN.out.mono ?_
  rintro e w1 ⟨P, g, rfl, -, HS, -, -⟩
  go_wp2_with fail
  refine (sys_create HS (by omega) nmA na).mono ?_
  rintro e w2 ⟨rfl, f, g2, -, -, HN⟩
  rw [(aw1_eq f).1]
  rw [(aw1_eq f).2] at HN
  have HS2 := HN.sys
  clear HN HS CN
  have hcv := fun (w : World) (C : Array Value) (n c : Nat) => Go.Lib.run_convert_bytes_const (P := Try.prog) w 27 5 C n c Try.underlying27 Try.underlying5
  have HS2' := Lib.hid HS2
  have HNW := Lib.hid (news_cells w2 [120, 121] (2, 3))
  clear HS2
  go_wp2_with fail
  have hbA := (Below.refl w2.heap.size w2).alloc (Nat.le_refl _) (.cells #[.int .u8 120, .int .u8 121] 5 (2, 3))
  have HSA := HS2'.out.below hbA
  have hfree : Free (w2.alloc (.cells #[.int .u8 120, .int .u8 121] 5 (2, 3))) g2 w2.heap.size := HS2'.out.free_new (Nat.le_refl _) (by simp)
  refine (sys_append HSA (by omega) nmA na (.slice (some ⟨w2.heap.size, 0, none⟩) 2 2) [120, 121] (by simp) HNW.out (fun _ b hb => by
    have : b = w2.heap.size := by simpa [blkOf, Value.ownBlock] using hb
    rw [this]; exact hfree)).mono ?_
  rintro e w3 ⟨rfl, g3, HN⟩
  rw [show ([120, 121] : List UInt8).length = 2 from rfl, (aw2_eq f).1]
  rw [(aw2_eq f).2] at HN
  have HS3 := HN.sys
  clear HN HSA hfree hbA hcv HNW HS2'
  go_wp2_with fail
  refine (sys_read HS3 nmA na).mono ?_
  rintro e w4 ⟨v4, rfl, hr4, hb4, hbl4⟩
  rw [ofE1 (aw2 f) f rfl rfl]
  rw [read2] at hr4
  obtain ⟨a4, c4, rfl⟩ := row_slice hr4
  have HS4 := HS3.below hbl4
  have hn4 := News.of_row hr4
  have HS3' := Lib.hid HS3
  clear HS3
  have hz4 := hbl4.size
  have hl4 : ∀ b ∈ blkOf (Value.slice a4 (List.map byteV [120, 121]).length c4), b < w4.heap.size := row_lt hr4
  clear hr4
  have hf4 : ∀ b ∈ blkOf (Value.slice a4 (List.map byteV [120, 121]).length c4), Free w4 g3 b := fun b hb => ⟨hl4 b hb, fun hm => by have h1 := HS3'.out.rep.lt b hm; have h2 := hb4 b hb; omega⟩
  go_wp2_with fail
  refine (sys_crash HS4 (by omega) 1 (.slice none 0 0) [] (news_nil _) (fun hx b hb => by simp [blkOf, Value.ownBlock] at hb) (by simp)).mono ?_
  rintro e w5 ⟨rfl, g5, HN⟩
  rw [aw3_eq] at HN
  have hn5 : News w5 _ _ := hn4.frame fun _ b hb => (HN.free (hf4 b hb)).2
  have hf5 : ∀ b ∈ blkOf (Value.slice a4 (List.map byteV [120, 121]).length c4), Free w5 g5 b := fun b hb => (HN.free (hf4 b hb)).1
  have HS5 := HN.sys
  clear HN HS4 hf4 hn4 hb4 hbl4 hl4 hz4 HS3'
  go_wp2_with fail
  refine (sys_read HS5 nmA na).mono ?_
  rintro e w6 ⟨v6, rfl, hr6, hb6, hbl6⟩
  rw [ofE1 (aw3 f) f rfl rfl]
  rw [read3] at hr6
  obtain ⟨a6, c6, rfl⟩ := row_slice hr6
  have HS6 := HS5.below hbl6
  have hn6 : News w6 _ _ := hn5.frame fun _ b hb => hbl6.block b (hf5 b hb).1
  have hcv := conv_news hn6
  clear HS5 hr6 hn5 hf5 hb6 hbl6 hn6
  simp only [List.length_map, List.length_cons, List.length_nil, Nat.zero_add] at hcv
  go_wp2_with fail
  refine (sys_create HS6 (by omega) nmA na).mono ?_
  rintro e w7 ⟨rfl, f', g7, -, -, HN⟩
  rw [(create3 f f').1]
  rw [(create3 f f').2] at HN
  have HS7 := HN.sys
  clear HN HS6 hcv
  go_wp2_with fail
  refine (sys_list HS7 (by omega) ⟨#[]⟩).mono ?_
  rintro e w8 ⟨v8, rfl, hr8, hb8, hbl8⟩
  rw [listed3] at hr8
  obtain ⟨a8, c8, rfl⟩ := row_slice hr8
  have HB := Lib.hid ((HS7.below hbl8).bel)
  clear HS7 hr8 hb8 hbl8
  go_wp2_with fail
  go_ret
  exact ⟨rfl, HB.out⟩
end Go.Proofs.Ytijdgmbpkfmciaa.Fs
