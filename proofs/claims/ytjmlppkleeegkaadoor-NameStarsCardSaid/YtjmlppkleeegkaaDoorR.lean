/- The law NameStars walked: the walk. -/
import Derived.Test.YtjmlppkleeegkaaDoorQ
namespace Go.Proofs.YtjmlppkleeegkaaDoor.Nm
open Go.RowKit Go.Lib
open Go (below_drewN)

set_option maxHeartbeats 2000000 in
set_option maxRecDepth 1000000 in
theorem law_stars (a b : Int) (s : ByteArray) (w : World) (hG : Glob w) (hs : s.size ≤ 140737488351232) :
    Calls Tryd.prog 3 #[.int .i64 a, .int .i64 b, .string s] w fun e w' => e = .returned (.bool true) ∧ Below w.heap.size w w' := by
  have hGs := hG.size
  obtain ⟨i0, hi0, ei0⟩ := and3_nat a
  obtain ⟨j0, hj0, ej0⟩ := and3_nat (a / 4)
  obtain ⟨i1, hi1, ei1⟩ := and3_nat b
  obtain ⟨j1, hj1, ej1⟩ := and3_nat (b / 4)
  have a0 := xL_le i0 hi0
  have a1 := xL_le i1 hi1
  have b0 := eL_le j0 hj0
  have b1 := eL_le j1 hj1
  have hcs : ∀ s : ByteArray, s.size ≤ 60 → _ := fun s h => starAsk hi0 hj0 hi1 hj1 s h
  have x0 := cellX w hi0
  have x1 := cellX w hi1
  have y0 := cellE w hj0
  have y1 := cellE w hj1
  have zx0 : (S (xL i0)).size ≤ 15 := by rw [S_size]; exact a0.1
  have zx1 : (S (xL i1)).size ≤ 15 := by rw [S_size]; exact a1.1
  have zy0 : (S (eL j0)).size ≤ 2 := by rw [S_size]; exact b0
  have zy1 : (S (eL j1)).size ≤ 2 := by rw [S_size]; exact b1
  generalize S (xL i0) = X0 at x0 zx0 hcs
  generalize S (xL i1) = X1 at x1 zx1 hcs
  generalize S (eL j0) = Y0 at y0 zy0 hcs
  generalize S (eL j1) = Y1 at y1 zy1 hcs
  have zA : (X0 ++ (⟨#[42]⟩ : ByteArray) ++ Y0).size ≤ 18 := by rw [size_app, size_app]; have : (⟨#[42]⟩ : ByteArray).size = 1 := rfl; omega
  have zB : (X1 ++ (⟨#[42]⟩ : ByteArray) ++ Y1).size ≤ 18 := by rw [size_app, size_app]; have : (⟨#[42]⟩ : ByteArray).size = 1 := rfl; omega
  obtain ⟨w0, hw0⟩ : ∃ w0, w0 = (w.alloc oX).alloc oE := ⟨_, rfl⟩
  have hb0 : Below w.heap.size w w0 := by rw [hw0]; exact ((Below.refl _ _).alloc (Nat.le_refl _) _).alloc (by simp) _
  have hz0 : w0.heap.size = w.heap.size + 2 := by rw [hw0]; simp
  have hG0 := hG.below hb0
  rw [← hw0] at x0 x1 y0 y1
  have k0 : (i0 : Int) < 4 := by omega
  have k1 : (j0 : Int) < 4 := by omega
  have k2 : (i1 : Int) < 4 := by omega
  have k3 : (j1 : Int) < 4 := by omega
  have l0 : (0 : Int) ≤ (i0 : Int) := by omega
  have l1 : (0 : Int) ≤ (j0 : Int) := by omega
  have l2 : (0 : Int) ≤ (i1 : Int) := by omega
  have l3 : (0 : Int) ≤ (j1 : Int) := by omega
  have q0 : (X0 ++ (⟨#[42]⟩ : ByteArray)).size = X0.size + 1 := size_app _ _
  have q1 : (X1 ++ (⟨#[42]⟩ : ByteArray)).size = X1.size + 1 := size_app _ _
  have f0 : (9223372036854775807 < X0.size + 1) = False := eq_false (by omega)
  have f1 : (9223372036854775807 < X1.size + 1) = False := eq_false (by omega)
  have f2 : (9223372036854775807 < X0.size + 1 + Y0.size) = False := eq_false (by omega)
  have f3 : (9223372036854775807 < X1.size + 1 + Y1.size) = False := eq_false (by omega)
  by_cases hs60 : s.size ≤ 60
  · obtain ⟨okF, okT, hcp⟩ := hcs s hs60
    have M1 : ∀ w, Glob w → _ := fun w h => hcp.m1 w h
    have M2 : ∀ w, Glob w → _ := fun w h => hcp.m2 w h
    have VF : ∀ w, Glob w → _ := fun w h => hcp.vF w h
    have VT : ∀ w, Glob w → _ := fun w h => hcp.vT w h
    go_enter Tryd.func3, Tryd.ntmps3
    go_wp2_with fail
    change Code.wp _ _ _ _ ((w.alloc oX).alloc oE)
    rw [← hw0]
    clear hw0
    go_quiet (fail)
    have hGq : Glob (w0.drewN nq) := hG0.drewN _
    have hbq : Below w.heap.size w (w0.drewN nq) := _root_.Go.below_drewN hb0 nq
    have hzq : (w0.drewN nq).heap.size = w.heap.size + 2 := by rw [← hz0]; rfl
    replace x0 : (w0.drewN nq).cell? ⟨w.heap.size, i0, none⟩ = some (.string X0) := x0
    replace x1 : (w0.drewN nq).cell? ⟨w.heap.size, i1, none⟩ = some (.string X1) := x1
    replace y0 : (w0.drewN nq).cell? ⟨w.heap.size + 1, j0, none⟩ = some (.string Y0) := y0
    replace y1 : (w0.drewN nq).cell? ⟨w.heap.size + 1, j1, none⟩ = some (.string Y1) := y1
    generalize w0.drewN nq = wq at hGq hbq hzq x0 x1 y0 y1 ⊢
    clear hb0 hz0 hG0 q0 q1 f0 f1 f2 f3
    have P1 : ∀ w, Glob w → _ := fun w h => hcp.p1 w h
    have P2 : ∀ w, Glob w → _ := fun w h => hcp.p2 w h
    clear hcp
    generalize X0 ++ (⟨#[42]⟩ : ByteArray) ++ Y0 = A at *
    generalize X1 ++ (⟨#[42]⟩ : ByteArray) ++ Y1 = B at *
    have q0 : (A ++ (⟨#[58]⟩ : ByteArray)).size = A.size + 1 := size_app _ _
    have q1 : ((⟨#[43]⟩ : ByteArray) ++ B).size = 1 + B.size := size_app _ _
    have q2 : ((⟨#[43]⟩ : ByteArray) ++ B ++ (⟨#[58]⟩ : ByteArray)).size = 1 + B.size + 1 := by rw [size_app, q1]; rfl
    have f0 : (9223372036854775807 < A.size + 1) = False := eq_false (by omega)
    have f1 : (9223372036854775807 < A.size + 1 + B.size) = False := eq_false (by omega)
    have f2 : (9223372036854775807 < 1 + B.size) = False := eq_false (by omega)
    have f3 : (9223372036854775807 < 1 + B.size + 1) = False := eq_false (by omega)
    have f4 : (9223372036854775807 < 1 + B.size + 1 + A.size) = False := eq_false (by omega)
    go_wp2_with fail
    refine (P1 _ hGq).mono ?_
    rintro e w1 ⟨rfl, hb1⟩
    have hz1 := hb1.size
    have hG1 := hGq.below hb1
    have hb1' : Below wq.heap.size wq (w1.alloc (.cells #[.bool false, .string A, .string B] 25)) := hb1.alloc hz1 _
    have hP0 : (w1.alloc (.cells #[.bool false, .string A, .string B] 25)).cell? ⟨w1.heap.size, 0, none⟩ = some (.bool false) := by simp [go_sem]
    have hP1 : (w1.alloc (.cells #[.bool false, .string A, .string B] 25)).cell? ⟨w1.heap.size, 1, none⟩ = some (.string A) := by simp [go_sem]
    have hP2 : (w1.alloc (.cells #[.bool false, .string A, .string B] 25)).cell? ⟨w1.heap.size, 2, none⟩ = some (.string B) := by simp [go_sem]
    have hz1' : (w1.alloc (.cells #[.bool false, .string A, .string B] 25)).heap.size = w1.heap.size + 1 := by simp
    have hG1' := hG1.alloc (.cells #[.bool false, .string A, .string B] 25)
    go_wp2_with fail
    generalize w1.alloc (.cells #[.bool false, .string A, .string B] 25) = v1 at hb1' hP0 hP1 hP2 hz1' hG1' ⊢
    refine (P2 _ hG1').mono ?_
    rintro e w2 ⟨rfl, hb2⟩
    have hz2 := hb2.size
    have hG2 := hG1'.below hb2
    obtain ⟨v2, hv2⟩ : ∃ v2, v2 = w2.alloc (.cells #[.bool true, .string B, .string A] 25) := ⟨_, rfl⟩
    have hb2' : Below v1.heap.size v1 v2 := by rw [hv2]; exact hb2.alloc hz2 _
    have hQ0 : v2.cell? ⟨w2.heap.size, 0, none⟩ = some (.bool true) := by rw [hv2]; simp [go_sem]
    have hQ1 : v2.cell? ⟨w2.heap.size, 1, none⟩ = some (.string B) := by rw [hv2]; simp [go_sem]
    have hQ2 : v2.cell? ⟨w2.heap.size, 2, none⟩ = some (.string A) := by rw [hv2]; simp [go_sem]
    have hz2' : v2.heap.size = w2.heap.size + 1 := by rw [hv2]; simp
    have hG2' : Glob v2 := by rw [hv2]; exact hG2.alloc _
    have g0 : w2.cell? ⟨w1.heap.size, 0, none⟩ = some (.bool false) := by rw [(bcell hb2).1 _ _ (by omega), hP0]
    have g1 : w2.cell? ⟨w1.heap.size, 1, none⟩ = some (.string A) := by rw [(bcell hb2).1 _ _ (by omega), hP1]
    have g2 : w2.cell? ⟨w1.heap.size, 2, none⟩ = some (.string B) := by rw [(bcell hb2).1 _ _ (by omega), hP2]
    replace hP0 : v2.cell? ⟨w1.heap.size, 0, none⟩ = some (.bool false) := by rw [(bcell hb2').1 _ _ (by omega), hP0]
    replace hP1 : v2.cell? ⟨w1.heap.size, 1, none⟩ = some (.string A) := by rw [(bcell hb2').1 _ _ (by omega), hP1]
    replace hP2 : v2.cell? ⟨w1.heap.size, 2, none⟩ = some (.string B) := by rw [(bcell hb2').1 _ _ (by omega), hP2]
    have hbA : Below wq.heap.size wq v2 := hb1'.trans (hb2'.mono (by omega))
    replace x0 : v2.cell? ⟨w.heap.size, i0, none⟩ = some (.string X0) := by rw [(bcell hbA).1 _ _ (by omega), x0]
    replace x1 : v2.cell? ⟨w.heap.size, i1, none⟩ = some (.string X1) := by rw [(bcell hbA).1 _ _ (by omega), x1]
    replace y0 : v2.cell? ⟨w.heap.size + 1, j0, none⟩ = some (.string Y0) := by rw [(bcell hbA).1 _ _ (by omega), y0]
    replace y1 : v2.cell? ⟨w.heap.size + 1, j1, none⟩ = some (.string Y1) := by rw [(bcell hbA).1 _ _ (by omega), y1]
    have hbA' : Below w.heap.size w v2 := hbq.trans (hbA.mono (by omega))
    clear hb1 hb2 hb1' hG1 hG1' hG2 hbq hGq q0 q1 q2 f0 f1 f2 f3 f4
    have hle : decide ((60 : Int) < (s.size : Int)) = false := decide_eq_false (by omega)
    have q0 : (X0 ++ s).size = X0.size + s.size := size_app _ _
    have q1 : (X1 ++ s).size = X1.size + s.size := size_app _ _
    have f0 : (9223372036854775807 < X0.size + s.size) = False := eq_false (by omega)
    have f1 : (9223372036854775807 < X1.size + s.size) = False := eq_false (by omega)
    have f2 : (9223372036854775807 < X0.size + s.size + Y0.size) = False := eq_false (by omega)
    have f3 : (9223372036854775807 < X1.size + s.size + Y1.size) = False := eq_false (by omega)
    subst hv2
    go_wp2_with fail
    generalize w2.alloc (.cells #[.bool true, .string B, .string A] 25) = v2 at *
    go_quiet (fail)
    have hGr : Glob (v2.drewN nq) := hG2'.drewN _
    have hbr : Below w.heap.size w (v2.drewN nq) := Go.below_drewN hbA' nq
    have hzr : (v2.drewN nq).heap.size = w2.heap.size + 1 := by rw [← hz2']; rfl
    replace hP0 : (v2.drewN nq).cell? ⟨w1.heap.size, 0, none⟩ = some (.bool false) := hP0
    replace hP1 : (v2.drewN nq).cell? ⟨w1.heap.size, 1, none⟩ = some (.string A) := hP1
    replace hP2 : (v2.drewN nq).cell? ⟨w1.heap.size, 2, none⟩ = some (.string B) := hP2
    replace hQ0 : (v2.drewN nq).cell? ⟨w2.heap.size, 0, none⟩ = some (.bool true) := hQ0
    replace hQ1 : (v2.drewN nq).cell? ⟨w2.heap.size, 1, none⟩ = some (.string B) := hQ1
    replace hQ2 : (v2.drewN nq).cell? ⟨w2.heap.size, 2, none⟩ = some (.string A) := hQ2
    clear hG2' hbA' hbA
    generalize v2.drewN nq = vr at *
    clear x0 x1 y0 y1 q0 q1 f0 f1 f2 f3
    generalize X0 ++ s ++ Y0 = F at *
    generalize X1 ++ s ++ Y1 = T at *
    have hFF : (F == F) = true := beq_self F
    have hTT : (T == T) = true := beq_self T
    cases okT with
    | false =>
      simp only [Bool.false_eq_true, if_false, Bool.false_and] at M1 M2
      go_wp2_with fail
      refine (M1 _ hGr).mono ?_
      rintro e w3 ⟨rfl, hb3⟩
      have hG3 := hGr.below hb3
      have hz3 := hb3.size
      go_wp2_with fail
      refine (VT _ hG3).mono ?_
      rintro e w4 ⟨rfl, hb4⟩
      have hz4 := hb4.size
      have hG4 := hG3.below hb4
      have hb34 : Below vr.heap.size vr w4 := hb3.trans (hb4.mono hz3)
      replace hQ0 : w4.cell? ⟨w2.heap.size, 0, none⟩ = some (.bool true) := by rw [(bcell hb34).1 _ _ (by omega), hQ0]
      replace hQ1 : w4.cell? ⟨w2.heap.size, 1, none⟩ = some (.string B) := by rw [(bcell hb34).1 _ _ (by omega), hQ1]
      replace hQ2 : w4.cell? ⟨w2.heap.size, 2, none⟩ = some (.string A) := by rw [(bcell hb34).1 _ _ (by omega), hQ2]
      go_wp2_with fail
      refine (M2 _ hG4).mono ?_
      rintro e w5 ⟨rfl, hb5⟩
      have hG5 := hG4.below hb5
      have hz5 := hb5.size
      go_wp2_with fail
      refine (awake_any _ hG5).mono ?_
      rintro e w6 ⟨rfl, hb6⟩
      go_wp2
      go_ret
      exact ⟨rfl, ((hbr.trans (hb34.mono (by omega))).trans (hb5.mono (by omega))).trans (hb6.mono (by omega))⟩
    | true =>
      cases okF with
      | false =>
        simp only [Bool.false_eq_true, if_false, if_true, Bool.and_false] at M1 M2
        go_wp2_with fail
        refine (M1 _ hGr).mono ?_
        rintro e w3 ⟨rfl, hb3⟩
        have hG3 := hGr.below hb3
        have hz3 := hb3.size
        go_wp2_with fail
        refine (VT _ hG3).mono ?_
        rintro e w4 ⟨rfl, hb4⟩
        have hz4 := hb4.size
        have hG4 := hG3.below hb4
        have hb34 : Below vr.heap.size vr w4 := hb3.trans (hb4.mono hz3)
        replace hQ0 : w4.cell? ⟨w2.heap.size, 0, none⟩ = some (.bool true) := by rw [(bcell hb34).1 _ _ (by omega), hQ0]
        replace hQ1 : w4.cell? ⟨w2.heap.size, 1, none⟩ = some (.string B) := by rw [(bcell hb34).1 _ _ (by omega), hQ1]
        replace hQ2 : w4.cell? ⟨w2.heap.size, 2, none⟩ = some (.string A) := by rw [(bcell hb34).1 _ _ (by omega), hQ2]
        go_wp2_with fail
        refine (M2 _ hG4).mono ?_
        rintro e w5 ⟨rfl, hb5⟩
        have hG5 := hG4.below hb5
        have hz5 := hb5.size
        go_wp2_with fail
        refine (VF _ hG5).mono ?_
        rintro e w6 ⟨rfl, hb6⟩
        have hG6 := hG5.below hb6
        have hz6 := hb6.size
        go_wp2_with fail
        refine (awake_any _ hG6).mono ?_
        rintro e w7 ⟨rfl, hb7⟩
        go_wp2
        go_ret
        exact ⟨rfl, (((hbr.trans (hb34.mono (by omega))).trans (hb5.mono (by omega))).trans (hb6.mono (by omega))).trans (hb7.mono (by omega))⟩
      | true =>
        simp only [if_true, Bool.and_true] at M1 M2
        go_wp2_with fail
        refine (M1 _ hGr).mono ?_
        rintro e w3 ⟨rfl, hb3⟩
        have hG3 := hGr.below hb3
        have hz3 := hb3.size
        go_wp2_with fail
        refine (VT _ hG3).mono ?_
        rintro e w4 ⟨rfl, hb4⟩
        have hz4 := hb4.size
        have hG4 := hG3.below hb4
        have hb34 : Below vr.heap.size vr w4 := hb3.trans (hb4.mono hz3)
        replace hQ0 : w4.cell? ⟨w2.heap.size, 0, none⟩ = some (.bool true) := by rw [(bcell hb34).1 _ _ (by omega), hQ0]
        replace hQ1 : w4.cell? ⟨w2.heap.size, 1, none⟩ = some (.string B) := by rw [(bcell hb34).1 _ _ (by omega), hQ1]
        replace hQ2 : w4.cell? ⟨w2.heap.size, 2, none⟩ = some (.string A) := by rw [(bcell hb34).1 _ _ (by omega), hQ2]
        go_wp2_with fail
        refine (M2 _ hG4).mono ?_
        rintro e w5 ⟨rfl, hb5⟩
        have hG5 := hG4.below hb5
        have hz5 := hb5.size
        go_wp2_with fail
        refine (VF _ hG5).mono ?_
        rintro e w6 ⟨rfl, hb6⟩
        have hG6 := hG5.below hb6
        have hz6 := hb6.size
        go_wp2_with fail
        refine (awake_any _ hG6).mono ?_
        rintro e w7 ⟨rfl, hb7⟩
        go_wp2
        go_ret
        exact ⟨rfl, (((hbr.trans (hb34.mono (by omega))).trans (hb5.mono (by omega))).trans (hb6.mono (by omega))).trans (hb7.mono (by omega))⟩
  · obtain ⟨_, _, hcp⟩ := hcs ⟨#[]⟩ (by decide)
    go_enter Tryd.func3, Tryd.ntmps3
    go_wp2_with fail
    change Code.wp _ _ _ _ ((w.alloc oX).alloc oE)
    rw [← hw0]
    clear hw0
    go_quiet (fail)
    have hGq : Glob (w0.drewN nq) := hG0.drewN _
    have hbq : Below w.heap.size w (w0.drewN nq) := _root_.Go.below_drewN hb0 nq
    have hzq : (w0.drewN nq).heap.size = w.heap.size + 2 := by rw [← hz0]; rfl
    replace x0 : (w0.drewN nq).cell? ⟨w.heap.size, i0, none⟩ = some (.string X0) := x0
    replace x1 : (w0.drewN nq).cell? ⟨w.heap.size, i1, none⟩ = some (.string X1) := x1
    replace y0 : (w0.drewN nq).cell? ⟨w.heap.size + 1, j0, none⟩ = some (.string Y0) := y0
    replace y1 : (w0.drewN nq).cell? ⟨w.heap.size + 1, j1, none⟩ = some (.string Y1) := y1
    generalize w0.drewN nq = wq at hGq hbq hzq x0 x1 y0 y1 ⊢
    clear hb0 hz0 hG0 q0 q1 f0 f1 f2 f3
    have P1 : ∀ w, Glob w → _ := fun w h => hcp.p1 w h
    have P2 : ∀ w, Glob w → _ := fun w h => hcp.p2 w h
    clear hcp
    generalize X0 ++ (⟨#[42]⟩ : ByteArray) ++ Y0 = A at *
    generalize X1 ++ (⟨#[42]⟩ : ByteArray) ++ Y1 = B at *
    have q0 : (A ++ (⟨#[58]⟩ : ByteArray)).size = A.size + 1 := size_app _ _
    have q1 : ((⟨#[43]⟩ : ByteArray) ++ B).size = 1 + B.size := size_app _ _
    have q2 : ((⟨#[43]⟩ : ByteArray) ++ B ++ (⟨#[58]⟩ : ByteArray)).size = 1 + B.size + 1 := by rw [size_app, q1]; rfl
    have f0 : (9223372036854775807 < A.size + 1) = False := eq_false (by omega)
    have f1 : (9223372036854775807 < A.size + 1 + B.size) = False := eq_false (by omega)
    have f2 : (9223372036854775807 < 1 + B.size) = False := eq_false (by omega)
    have f3 : (9223372036854775807 < 1 + B.size + 1) = False := eq_false (by omega)
    have f4 : (9223372036854775807 < 1 + B.size + 1 + A.size) = False := eq_false (by omega)
    go_wp2_with fail
    refine (P1 _ hGq).mono ?_
    rintro e w1 ⟨rfl, hb1⟩
    have hz1 := hb1.size
    have hG1 := hGq.below hb1
    have hb1' : Below wq.heap.size wq (w1.alloc (.cells #[.bool false, .string A, .string B] 25)) := hb1.alloc hz1 _
    have hP0 : (w1.alloc (.cells #[.bool false, .string A, .string B] 25)).cell? ⟨w1.heap.size, 0, none⟩ = some (.bool false) := by simp [go_sem]
    have hP1 : (w1.alloc (.cells #[.bool false, .string A, .string B] 25)).cell? ⟨w1.heap.size, 1, none⟩ = some (.string A) := by simp [go_sem]
    have hP2 : (w1.alloc (.cells #[.bool false, .string A, .string B] 25)).cell? ⟨w1.heap.size, 2, none⟩ = some (.string B) := by simp [go_sem]
    have hz1' : (w1.alloc (.cells #[.bool false, .string A, .string B] 25)).heap.size = w1.heap.size + 1 := by simp
    have hG1' := hG1.alloc (.cells #[.bool false, .string A, .string B] 25)
    go_wp2_with fail
    generalize w1.alloc (.cells #[.bool false, .string A, .string B] 25) = v1 at hb1' hP0 hP1 hP2 hz1' hG1' ⊢
    refine (P2 _ hG1').mono ?_
    rintro e w2 ⟨rfl, hb2⟩
    have hz2 := hb2.size
    have hG2 := hG1'.below hb2
    obtain ⟨v2, hv2⟩ : ∃ v2, v2 = w2.alloc (.cells #[.bool true, .string B, .string A] 25) := ⟨_, rfl⟩
    have hb2' : Below v1.heap.size v1 v2 := by rw [hv2]; exact hb2.alloc hz2 _
    have hQ0 : v2.cell? ⟨w2.heap.size, 0, none⟩ = some (.bool true) := by rw [hv2]; simp [go_sem]
    have hQ1 : v2.cell? ⟨w2.heap.size, 1, none⟩ = some (.string B) := by rw [hv2]; simp [go_sem]
    have hQ2 : v2.cell? ⟨w2.heap.size, 2, none⟩ = some (.string A) := by rw [hv2]; simp [go_sem]
    have hz2' : v2.heap.size = w2.heap.size + 1 := by rw [hv2]; simp
    have hG2' : Glob v2 := by rw [hv2]; exact hG2.alloc _
    have g0 : w2.cell? ⟨w1.heap.size, 0, none⟩ = some (.bool false) := by rw [(bcell hb2).1 _ _ (by omega), hP0]
    have g1 : w2.cell? ⟨w1.heap.size, 1, none⟩ = some (.string A) := by rw [(bcell hb2).1 _ _ (by omega), hP1]
    have g2 : w2.cell? ⟨w1.heap.size, 2, none⟩ = some (.string B) := by rw [(bcell hb2).1 _ _ (by omega), hP2]
    replace hP0 : v2.cell? ⟨w1.heap.size, 0, none⟩ = some (.bool false) := by rw [(bcell hb2').1 _ _ (by omega), hP0]
    replace hP1 : v2.cell? ⟨w1.heap.size, 1, none⟩ = some (.string A) := by rw [(bcell hb2').1 _ _ (by omega), hP1]
    replace hP2 : v2.cell? ⟨w1.heap.size, 2, none⟩ = some (.string B) := by rw [(bcell hb2').1 _ _ (by omega), hP2]
    have hbA : Below wq.heap.size wq v2 := hb1'.trans (hb2'.mono (by omega))
    replace x0 : v2.cell? ⟨w.heap.size, i0, none⟩ = some (.string X0) := by rw [(bcell hbA).1 _ _ (by omega), x0]
    replace x1 : v2.cell? ⟨w.heap.size, i1, none⟩ = some (.string X1) := by rw [(bcell hbA).1 _ _ (by omega), x1]
    replace y0 : v2.cell? ⟨w.heap.size + 1, j0, none⟩ = some (.string Y0) := by rw [(bcell hbA).1 _ _ (by omega), y0]
    replace y1 : v2.cell? ⟨w.heap.size + 1, j1, none⟩ = some (.string Y1) := by rw [(bcell hbA).1 _ _ (by omega), y1]
    have hbA' : Below w.heap.size w v2 := hbq.trans (hbA.mono (by omega))
    clear hb1 hb2 hb1' hG1 hG1' hG2 hbq hGq q0 q1 q2 f0 f1 f2 f3 f4
    have hgt : (60 : Int) < (s.size : Int) := by omega
    subst hv2
    go_wp2_with fail
    refine (awake_any _ hG2').mono ?_
    rintro e w3 ⟨rfl, hb3⟩
    go_wp2
    go_ret
    exact ⟨rfl, hbA'.trans (hb3.mono (by omega))⟩
end Go.Proofs.YtjmlppkleeegkaaDoor.Nm
