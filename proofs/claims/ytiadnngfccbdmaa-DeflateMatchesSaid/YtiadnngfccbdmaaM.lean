/- Deflate: Adler of nothing, Zlib of nothing. -/
import Derived.Test.YtiadnngfccbdmaaL
import Derived.Deep.RegionHeld3
namespace Go.Proofs.Ytiadnngfccbdmaa.Df
open Go.RowKit Go.Joins Go.Maps

def z4 : Array Value := madeCells (Value.int .u8 0).cells (Int.toNat 4 * 1)
theorem z4_size : z4.size = 4 := by simp [z4, madeCells]
theorem mk_four (w : World) : (Instr.makeSlice 22 (.int .i64 0) (.int .i64 4)).run Try.prog w = .ok (.slice (some ⟨w.heap.size, 0, none⟩) 0 4) (w.alloc (.cells z4 5)) := by
  obtain ⟨i0, hi, hz0, hz1, hz2⟩ := info_parts info5
  have h := run_makeSlice (P := Try.prog) w 22 5 i0 (.int .u8 0) Try.underlying22 hi hz0 .i64 .i64 0 4 (by omega) (by omega) (by rw [hz1]; simp) (by rw [hz2]; omega) (by omega)
  rw [h, hz1]
  unfold z4
  simp
theorem four_row (w : World) (g : Nat) (h : w.heap[g]? = some (.cells z4 5 (0, 0))) (B : Nat) (hB : B ≤ g) : w.ownsRow B 5 1 (.slice (some ⟨g, 0, none⟩) 0 4) 0 [] :=
  ⟨rfl, .inr ⟨g, 4, _, rfl, hB, h, by omega, by decide, by rw [z4_size], by simp⟩⟩

set_option maxHeartbeats 4000000 in
set_option maxRecDepth 100000 in
theorem sum_three (p : Nat) (w : World) (h0 : w.cell? ⟨p, 0, none⟩ = some (.int .i64 3)) (h1 : w.cell? ⟨p, 265, none⟩ = some (.int .u32 1)) (h2 : w.cell? ⟨p, 266, none⟩ = some (.int .u32 0)) :
    Calls Try.prog 51 #[.pointer (some ⟨p, 0, none⟩)] w (Gave w [0, 0, 0, 1]) := by
  have hmk := mk_four
  have hp := World.block_lt_of_cell? w _ h1
  go_enter Try.func51, Try.ntmps51
  go_wp2_with fail
  go_region_held3 (fun w' => w'.cell? ⟨p, 265, none⟩ = some (.int .u32 1) ∧ w'.cell? ⟨p, 266, none⟩ = some (.int .u32 0) ∧ Below w.heap.size w w') (first | exact ⟨h1, h2, (Below.refl _ _).drew⟩ | exact ⟨Go.Lib.cell?_alloc_some _ h1, Go.Lib.cell?_alloc_some _ h2, ((Below.refl _ _).alloc (Nat.le_refl _) _).drew⟩ | exact ⟨(hb2.cell (p := ⟨p, 265, none⟩) hp).trans h1, (hb2.cell (p := ⟨p, 266, none⟩) hp).trans h2, hb2⟩) (first | (go_at_call 62; refine (four_one w.heap.size _ (w.alloc (.cells z4 5)).drew (four_row _ _ (heap_alloc_new w _) _ (Nat.le_refl _)) (by simp)).mono ?_; rintro e w2 ⟨v2, rfl, hown, hb⟩; have hb2 : Below w.heap.size w w2 := (((Below.refl w.heap.size w).alloc (Nat.le_refl _) _).drew).trans hb))
  go_wp2_with fail
  go_ret
  exact ⟨v2, rfl, News.of_own hown, fun b hb' => (own_ge hown b hb'.symm).1, hb2⟩

set_option maxHeartbeats 4000000 in
set_option maxRecDepth 100000 in
theorem whole_none (w : World) : Calls Try.prog 38 #[.int .i64 3, .slice none 0 0] w (Gave w [0, 0, 0, 1]) := by
  have CB := Lib.hid (begun_three w)
  go_enter Try.func38, Try.ntmps38
  go_wp2_with fail
  refine CB.out.mono ?_
  rintro e w1 ⟨rfl, k0, k1, k2, hlt, hb1⟩
  have CW := Lib.hid (write_none w.heap.size w1 k0)
  have CS := Lib.hid (sum_three w.heap.size w1 k0 k1 k2)
  have HB := Lib.hid hb1
  clear k0 k1 k2 hlt hb1 CB
  go_wp2_with fail
  refine CW.out.mono ?_
  rintro e w2 ⟨rfl, he⟩
  obtain rfl := he.symm
  go_wp2_with fail
  refine CS.out.mono ?_
  rintro e w3 ⟨r, rfl, h1, h2, h3⟩
  have H := Lib.hid (And.intro h1 (And.intro h2 h3))
  clear h1 h2 h3 CS CW
  go_wp2_with fail
  go_ret
  exact ⟨r, rfl, H.out.1, fun b hb => by have := H.out.2.1 b hb; have := HB.out.size; omega, HB.out.trans (H.out.2.2.mono HB.out.size)⟩

set_option maxHeartbeats 4000000 in
set_option maxRecDepth 100000 in
theorem number_one (u : Value) (w : World) (hu : News w u (([0, 0, 0, 1] : List UInt8).map byteV)) :
    Calls Try.prog 37 #[u] w fun e w' => e = .returned (.int .u32 1) ∧ ∃ m, w' = w.drewN m := by
  rcases hu with ⟨_, h⟩ | ⟨k, o, c, rfl, hc, hk, h⟩
  · cases h
  have c0 := h 0 _ rfl
  have c1 := h 1 _ rfl
  have c2 := h 2 _ rfl
  have c3 := h 3 _ rfl
  rw [show byteV 0 = .int .u8 0 from rfl] at c0 c1 c2
  rw [show byteV 1 = .int .u8 1 from rfl] at c3
  rw [Nat.add_zero] at c0
  rw [show (List.map byteV [0, 0, 0, 1]).length = 4 from rfl] at hc ⊢
  clear h
  go_enter Try.func37, Try.ntmps37
  go_wp2_with fail
  go_quiet (fail)
  go_wp2
  go_ret
  exact ⟨by kernel_rfl, nq, rfl⟩

set_option maxHeartbeats 4000000 in
set_option maxRecDepth 100000 in
theorem adler_none (w : World) : Calls Try.prog 23 #[.slice none 0 0] w fun e w' => e = .returned (.int .u32 1) ∧ Below w.heap.size w w' := by
  have CW := Lib.hid (whole_none w)
  go_enter Try.func23, Try.ntmps23
  go_wp2_with fail
  refine CW.out.mono ?_
  rintro e w1 ⟨r, rfl, h1, h2, h3⟩
  have CN := Lib.hid (number_one r w1 h1)
  have HB := Lib.hid h3
  clear h1 h2 h3 CW
  go_wp2_with fail
  refine CN.out.mono ?_
  rintro e w2 ⟨rfl, m, hm⟩
  have HM := Lib.hid hm
  clear hm CN
  go_wp2_with fail
  go_ret
  exact ⟨rfl, by rw [HM.out]; exact HB.out.trans ((Turn.drewN w1 m []).below HB.out.size (fun b hb => by cases hb))⟩

set_option maxHeartbeats 4000000 in
set_option maxRecDepth 100000 in
theorem zlib_none (w : World) : Calls Try.prog 10 #[.slice none 0 0, .int .i64 0] w (Gave w [120, 1, 1, 0, 0, 255, 255, 0, 0, 0, 1]) := by
  have CR : Hid (∀ w, Calls Try.prog 8 #[.slice none 0 0, .int .i64 0] w (Gave w (storedBs []))) := Lib.hid fun w => raw0_any (.slice none 0 0) [] (by decide) w (.inl ⟨rfl, rfl⟩)
  have CA : Hid (∀ w, Calls Try.prog 23 #[.slice none 0 0] w fun e w' => e = .returned (.int .u32 1) ∧ Below w.heap.size w w') := Lib.hid adler_none
  go_enter Try.func10, Try.ntmps10
  go_wp2_with fail
  have hrow0 : (w.alloc (.cells #[.int .u8 120, .int .u8 1] 5)).ownsRow w.heap.size 5 1 (.slice (some ⟨w.heap.size, 0, none⟩) 2 2) 2 (([120, 1] : List UInt8).map byteV) :=
    ⟨rfl, .inr ⟨w.heap.size, 2, _, rfl, Nat.le_refl _, heap_alloc_new w _, by omega, by decide, rfl, rfl⟩⟩
  have hB0 : Below w.heap.size w (w.alloc (.cells #[.int .u8 120, .int .u8 1] 5)) := (Below.refl _ _).alloc (Nat.le_refl _) _
  refine (CR.out _).mono ?_
  rintro e w2 ⟨r, rfl, h1, h2, h3⟩
  have hrow2 : w2.ownsRow w.heap.size 5 1 (.slice (some ⟨w.heap.size, 0, none⟩) 2 2) 2 (([120, 1] : List UInt8).map byteV) := ownsRow_frame hrow0 fun b hb => h3.block b (own_ge hrow0 b hb).2
  have HB2 := Lib.hid (hB0.trans (h3.mono hB0.size))
  have H1 := Lib.hid h1
  clear hrow0 hB0 h1 h2 h3 CR
  go_wp2_with (first | (at_builtin; refine wpList_append_news _ rfl (.tmp 18) (.tmp 21) rfl w.heap.size (.slice (some ⟨w.heap.size, 0, none⟩) 2 2) 2 (([120, 1] : List UInt8).map byteV) rfl hrow2 r ((storedBs []).map byteV) rfl H1.out (oneCell_bytes _) (by decide) (HB2.out.size) ?_; intro v3 w3 hown' hgrow _; rw [show 2 + ((storedBs []).map byteV).length = 7 from rfl] at hown'; obtain ⟨ua, ul, uc, hvv⟩ := slice_of_row hown'; have hown := hvv ▸ hown'; clear hown'; subst hvv; obtain rfl := (owned_len hown).symm; have hB3 : Below w.heap.size w w3 := HB2.out.trans ⟨hgrow.os, hgrow.tape, hgrow.output, hgrow.size, fun k hk => hgrow.block k (Nat.lt_of_lt_of_le hk HB2.out.size) (fun e => by simp [Value.ownBlock] at e; omega)⟩; have HOW := Lib.hid hown; have HB3 := Lib.hid hB3; clear hrow2 hgrow hown hB3))
  refine (CA.out _).mono ?_
  rintro e w4 ⟨rfl, hb4⟩
  have hrow4 : w4.ownsRow w.heap.size 5 1 (.slice ua 7 uc) 7 _ := ownsRow_frame HOW.out fun b hb => hb4.block b (own_ge HOW.out b hb).2
  have hB4 := HB3.out.trans (hb4.mono HB3.out.size)
  have hA4 := ownsRow_alloc hrow4 (.cells #[.int .u8 0, .int .u8 0, .int .u8 0, .int .u8 1] 5)
  have hN4 := World.news_of_block (heap_alloc_new w4 (.cells #[.int .u8 0, .int .u8 0, .int .u8 0, .int .u8 1] 5))
  have HB4 := Lib.hid hB4
  have HGE := Lib.hid (own_ge hrow4)
  obtain ⟨i0, hi, hz0, hz1, hz2⟩ := info_parts info5
  clear hrow4 hB4 hb4 CA HOW H1
  go_wp2_with (first | (at_builtin; refine wpList_append_own_at _ rfl (.tmp 25) (.tmp 37) 22 rfl w.heap.size 5 i0 (.int .u8 0) 1 1 Try.underlying22 hi hz0 hz1 hz2 rfl (by decide) _ _ _ rfl hA4 ⟨w4.heap.size, 0, none⟩ 4 4 [.int .u8 0, .int .u8 0, .int .u8 0, .int .u8 1] rfl rfl hN4 (by simp [Value.oneCell']) (by decide) (by decide) (by have := HB4.out.size; simp; omega) ?_; intro v5 w5 hown' hgrow _ _; rw [show 7 + 4 = 11 from rfl] at hown'; obtain ⟨ta, tl, tc, hvv⟩ := slice_of_row hown'; have hown := hvv ▸ hown'; clear hown'; subst hvv; obtain rfl := (owned_len hown).symm; obtain ⟨q1, q2, q3⟩ := News.shut hown; have q1' : (11 : Int) ≤ (tc : Int) := (by omega); have Q2 := Lib.hid q2; have Q3 := Lib.hid q3; have HG5 := Lib.hid hgrow; clear q2 q3 hgrow hown hA4 hN4))
  go_ret
  have e : ([120, 1, 1, 0, 0, 255, 255, 0, 0, 0, 1] : List UInt8).map byteV = List.map byteV [120, 1] ++ List.map byteV (storedBs []) ++ [Value.int IntKind.u8 0, Value.int IntKind.u8 0, Value.int IntKind.u8 0, Value.int IntKind.u8 1] := rfl
  refine ⟨_, rfl, by rw [e]; exact Q2.out, Q3.out, ?_⟩
  refine HB4.out.trans (((Below.refl w4.heap.size w4).alloc (Nat.le_refl _) (.cells #[.int .u8 0, .int .u8 0, .int .u8 0, .int .u8 1] 5)).mono HB4.out.size |>.trans ?_)
  exact ⟨HG5.out.os, HG5.out.tape, HG5.out.output, HG5.out.size, fun k hk => HG5.out.block k (by have := HB4.out.size; simp; omega) fun e => by have := (HGE.out k e).1; omega⟩
end Go.Proofs.Ytiadnngfccbdmaa.Df
