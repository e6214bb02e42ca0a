/- Deflate: 'enter' walked. -/
import Derived.Test.YtiadnngfccbdmaaB
namespace Go.Proofs.Ytiadnngfccbdmaa.Df
open Go.RowKit Go.Joins Go.Maps

set_option maxRecDepth 100000 in
theorem slice_from (k o n c i : Nat) (hi : i ≤ n) (hc : c ≠ i) (w : World) : (Instr.slice 22 (.slice (some ⟨k, o, none⟩) n c) (some (.int .i64 (i : Int))) none none).run Try.prog w = .ok (.slice (some ⟨k, o + i, none⟩) (n - i) (c - i)) w := by
  have hs : (sizeOf (Try.prog.elem 22)).run Try.prog w = .ok 1 w := by kernel_rfl
  rw [run_slice_l (P := Try.prog) w 22 (some ⟨k, o, none⟩) n c Try.underlying22 .i64 i (by omega) (by omega), hs]
  simp only [Result.andThen, sliced, Int.toNat_natCast, if_neg hc, Option.map_some, Nat.mul_one]
  congr 3
  unfold Addr.add
  split
  · rename_i e; subst e; simp
  · rfl

def Entered (w : World) (g : Wh) (bs : List UInt8) (D : Dm) (i : Nat) (e : Ending) (w' : World) : Prop :=
  e = .returned (.tuple #[]) ∧ ∃ D' pv', Mt w' g bs D' pv' ∧ HeadOk D' (i + 1) bs.length ∧ PrevOk pv' (i + 1) ∧ Maps.size D' ≤ Maps.size D + 1 ∧ Turn w w' [g.pr, g.mb]

set_option maxHeartbeats 4000000 in
set_option maxRecDepth 100000 in
theorem enter_any (g : Wh) (bs : List UInt8) (D : Dm) (pv : List Int) (i : Nat) (w : World) (h : Mt w g bs D pv) (hh : HeadOk D i bs.length) (hp : PrevOk pv i) (hl : bs.length ≤ 1000000) (hi : i ≤ 1000000) (hsz : Maps.size D ≤ 1000000) :
    Calls Try.prog 11 #[.int .i64 i, .pointer (some ⟨g.bb, 0, none⟩), .pointer (some ⟨g.pb, 0, none⟩), .pointer (some ⟨g.hb, 0, none⟩)] w (Entered w g bs D i) := by
  have hb := h.b
  have hpc := h.p
  have hhc := h.h
  have H := Lib.hid h
  have HH := Lib.hid hh
  have HP := Lib.hid hp
  by_cases hin : i + 3 ≤ bs.length
  · have s1 : ¬ (bs.length : Int) < (i : Int) + 3 := by omega
    have a0 := h.arr i (by omega)
    have a1 := h.arr (i + 1) (by omega)
    have a2 := h.arr (i + 2) (by omega)
    rw [← Nat.add_assoc] at a1 a2
    have C3 := Lib.hid (three_any g.k (g.o + i) (bs.length - i) (g.c - i) _ _ _ w (by omega) a0 a1 a2)
    obtain ⟨K, hK⟩ : ∃ K, K = key3 (bs[i]'(by omega)) (bs[i + 1]'(by omega)) (bs[i + 2]'(by omega)) := ⟨_, rfl⟩
    have hKw : (Lit.int .u32 K).wf = true := by rw [hK]; exact key3_wf _ _ _
    rw [← hK] at C3
    have hsl := slice_from g.k g.o bs.length g.c i (by omega) (by have := h.cap; omega)
    have hkey : keyOf Try.prog 37 (.int .u32 K) = some (.int .u32 K) := keyOf_int_mk Try.underlying37 hKw
    clear hK a0 a1 a2 h hh hp
    go_enter Try.func11, Try.ntmps11
    go_wp2_with fail
    refine C3.out.mono ?_
    rintro e w1 ⟨rfl, q, hq⟩
    have hT1 : Turn w w1 [] := by rw [hq]; exact Turn.drewN w q []
    have h1 := H.out.same hT1
    clear hq
    have hb1 := h1.b
    have hp1 := h1.p
    have hh1 := h1.h
    have hil : i < bs.length := by omega
    have s2 : (i : Int) < (bs.length : Int) := by omega
    have hrow := h1.row
    have hcell : ∃ z : Int, w1.cell? ⟨g.pr, i, none⟩ = some (.int .i64 z) := ⟨pv[i]'(by rw [h1.len]; exact hil), by
      rw [cell_of_block hrow]
      simp [h1.len, hil, intV]⟩
    obtain ⟨z0, hcell⟩ := hcell
    have hfz := fun o => unfrozen_of_block hrow o
    obtain ⟨x1, x2, x3, x4, x5⟩ := h1.a1
    have hT2 := turn_set w1 g.pr i (.int .i64 (-1))
    have h2 : Mt (w1.setCell ⟨g.pr, i, none⟩ (.int .i64 (-1))) g bs D (pv.set i (-1)) := by
      have hnx := block_setCell (i := i) hrow (.int .i64 (-1))
      rw [row_set] at hnx
      exact h1.turn (hT2.mono (fun b hb => by rw [List.mem_singleton.1 hb]; simp)) hnx (by simp [h1.len]) (owns_frame h1.own (hT2.block g.mb h1.own.lt (by simpa using x5)))
    have H2 := Lib.hid h2
    have HT2 := Lib.hid hT2
    have HT1 := Lib.hid hT1
    have own2 := h2.own
    clear h2 hT2 hT1 h1 hrow
    have hDm := H.out.own.isMap
    have hT12 : Turn w (w1.setCell ⟨g.pr, i, none⟩ (.int .i64 (-1))) [g.pr, g.mb] := (HT1.out.mono (F' := [g.pr, g.mb]) (fun b hb => by cases hb)).trans (HT2.out.mono (fun b hb => by rw [List.mem_singleton.1 hb]; simp))
    by_cases hhas : Maps.has D (.int .u32 K) = true
    · obtain ⟨c0, ca, cb, cc⟩ := HH.out K hhas
      have HCA := Lib.hid ca
      have hT3 := turn_set (w1.setCell ⟨g.pr, i, none⟩ (.int .i64 (-1))) g.pr i (.int .i64 (c0 : Int))
      have h3 : Mt ((w1.setCell ⟨g.pr, i, none⟩ (.int .i64 (-1))).setCell ⟨g.pr, i, none⟩ (.int .i64 (c0 : Int))) g bs D ((pv.set i (-1)).set i (c0 : Int)) := by
        have hnx := block_setCell (i := i) H2.out.row (.int .i64 (c0 : Int))
        rw [row_set] at hnx
        exact H2.out.turn (hT3.mono (fun b hb => by rw [List.mem_singleton.1 hb]; simp)) hnx (by rw [List.length_set]; exact H2.out.len) (owns_frame own2 (hT3.block g.mb own2.lt (by simpa using x5)))
      have hT13 := hT12.trans (hT3.mono (F' := [g.pr, g.mb]) (fun b hb => by rw [List.mem_singleton.1 hb]; simp))
      have H3 := Lib.hid h3
      have HT13 := Lib.hid hT13
      clear ca h3 hT3 hT13 hT12
      have hwi : (Lit.int .i64 (i : Int)).wf = true := by
        simp only [Lit.wf, IntKind.min, IntKind.max, IntKind.signed, IntKind.bits, Bool.and_eq_true, decide_eq_true_eq, if_true]
        omega
      go_wp2_with (first | (at_lookup; refine wpList_lookup_own_ok_int _ rfl _ _ 35 rfl 37 3 .i64 law Try.underlying35 Try.underlying3 (zeroE _) g.mb _ D rfl own2 _ _ rfl hkey ?_; intro c1 hat hwc; obtain rfl : (c0 : Int) = c1 := (by have := HCA.out.symm.trans hat; injection this with h1; injection h1); clear hat hwc) | (at_mapUpdate; refine wpList_mapUpdate_own _ rfl _ _ _ 35 rfl 37 3 law Try.underlying35 R3 g.mb _ D rfl H3.out.own (by unfold maxLen; omega) _ _ _ rfl rfl hkey (.lit (.int .i64 i)) [] (plainElem_int Try.underlying3 hwi) ?_; intro w4 ho4 g4))
      have hT4 : Turn _ w4 [g.pr, g.mb] := (Turn.of_grown g4).mono (fun b hb => by rw [show b = g.mb by simpa using hb]; simp)
      refine bodyPost_ret (v := .tuple #[]) (by simp [results, Try.results11]) rfl ⟨rfl, D.put (.int .u32 K) (.lit (.int .i64 i)), ((pv.set i (-1)).set i (c0 : Int)), H3.out.turn hT4 ?_ H3.out.len (owns_tight ho4), head_put hDm HH.out K hin, ?_, ?_, HT13.out.trans hT4⟩
      · exact (g4.block g.pr (Array.getElem?_eq_some_iff.1 H3.out.row).1 (by simpa using x5.symm)).trans H3.out.row
      · rw [List.set_set]; exact prev_set HP.out _ ⟨by omega, by omega⟩
      · rw [size_put (H.out.own.tidy law)]
        split <;> omega
    · have hhas' : Maps.has D (.int .u32 K) = false := by simpa using hhas
      clear hhas
      have HT12 := Lib.hid hT12
      clear hT12
      have hwi : (Lit.int .i64 (i : Int)).wf = true := by
        simp only [Lit.wf, IntKind.min, IntKind.max, IntKind.signed, IntKind.bits, Bool.and_eq_true, decide_eq_true_eq, if_true]
        omega
      go_wp2_with (first | (at_lookup; refine wpList_lookup_own_ok_int _ rfl _ _ 35 rfl 37 3 .i64 law Try.underlying35 Try.underlying3 (zeroE _) g.mb _ D rfl own2 _ _ rfl hkey ?_; intro c1 _ _) | (at_mapUpdate; refine wpList_mapUpdate_own _ rfl _ _ _ 35 rfl 37 3 law Try.underlying35 R3 g.mb _ D rfl H2.out.own (by unfold maxLen; omega) _ _ _ rfl rfl hkey (.lit (.int .i64 i)) [] (plainElem_int Try.underlying3 hwi) ?_; intro w4 ho4 g4))
      have hT4 : Turn _ w4 [g.pr, g.mb] := (Turn.of_grown g4).mono (fun b hb => by rw [show b = g.mb by simpa using hb]; simp)
      refine bodyPost_ret (v := .tuple #[]) (by simp [results, Try.results11]) rfl ⟨rfl, D.put (.int .u32 K) (.lit (.int .i64 i)), (pv.set i (-1)), H2.out.turn hT4 ?_ H2.out.len (owns_tight ho4), head_put hDm HH.out K hin, ?_, ?_, HT12.out.trans hT4⟩
      · exact (g4.block g.pr (Array.getElem?_eq_some_iff.1 H2.out.row).1 (by simpa using x5.symm)).trans H2.out.row
      · exact prev_set HP.out _ ⟨by omega, by omega⟩
      · rw [size_put (H.out.own.tidy law)]
        split <;> omega
  · have s1 : (bs.length : Int) < (i : Int) + 3 := by omega
    clear h hh hp
    go_enter Try.func11, Try.ntmps11
    go_wp2_with fail
    exact bodyPost_ret (v := .tuple #[]) (by simp [results, Try.results11]) rfl ⟨rfl, D, pv, H.out, head_next HH.out, prev_next HP.out (by rw [H.out.len]; exact hin), Nat.le_succ _, Turn.refl _ _⟩
end Go.Proofs.Ytiadnngfccbdmaa.Df
