/- The law NameBack walked. -/
import Derived.Test.YtjmlppkleeegkaaDoorN
import Derived.Test.YtjmlppkleeegkaaDoorPlain4
namespace Go.Proofs.YtjmlppkleeegkaaDoor.Nm
open Go.RowKit Go.Lib
open Go (below_drewN)

theorem parse_small {l a b : List UInt8} {f : Bool} (h : parseL l = some (f, a, b)) : a.length ≤ 100 ∧ b.length ≤ 100 := by
  obtain ⟨hb, ha⟩ := parse_good h
  refine ⟨?_, (good_parts hb).1⟩
  rcases ha with ⟨rfl, _⟩ | ⟨_, h1, _⟩
  · simp
  · exact (good_parts h1).1
theorem text_data (f : Bool) (a b : List UInt8) : (textB f (S a) (S b)).data.toList = textL f a b := by
  unfold textB textL
  cases f <;> simp [ByteArray.data_append]
theorem textL_le (f : Bool) (a b : List UInt8) : (textL f a b).length ≤ a.length + b.length + 2 := by
  unfold textL; cases f <;> simp <;> omega
theorem cell_alloc_old (w : World) {b o : Nat} {x : Obj} (h : b < w.heap.size) : (w.alloc x).cell? ⟨b, o, none⟩ = w.cell? ⟨b, o, none⟩ :=
  ((Below.refl w.heap.size w).alloc (Nat.le_refl _) x).cell (p := ⟨b, o, none⟩) h
theorem beq_self (A : ByteArray) : (A == A) = true := by show (A.data == A.data) = true; simp
theorem S_size (l : List UInt8) : (S l).size = l.length := by rw [Lib.size_eq, S_data]

set_option maxHeartbeats 2000000 in
set_option maxRecDepth 1000000 in
theorem law_back (s t : ByteArray) (w : World) (hG : Glob w) (hs : s.size ≤ 1048576) (ht : t.size ≤ 1048576) :
    Calls Tryd.prog 7 #[.string s, .string t] w fun e w' => e = .returned (.bool true) ∧ Below w.heap.size w w' := by
  have hGs := hG.size
  have c1 := parse_any s w hG (by omega)
  cases hp : parseL s.data.toList with
  | none =>
    rw [hp] at c1
    simp only [specV] at c1
    go_enter Tryd.func7, Tryd.ntmps7
    go_wp2_with fail
    refine c1.mono ?_
    rintro e w1 ⟨rfl, hb1⟩
    have hG1 := hG.below hb1
    have hz1 := hb1.size
    go_wp2_with fail
    refine (awake_any _ (hG1.alloc _)).mono ?_
    rintro e w2 ⟨rfl, hb2⟩
    go_wp2
    go_ret
    exact ⟨rfl, (hb1.alloc hz1 _).trans (hb2.mono (by simp; omega))⟩
  | some x =>
    obtain ⟨f, a, b⟩ := x
    rw [hp] at c1
    simp only [specV] at c1
    obtain ⟨ha, hb⟩ := parse_small hp
    have c2 : ∀ w, Calls Tryd.prog 18 #[.agg #[.bool f, .string (S a), .string (S b)]] w _ := fun w => text_any f (S a) (S b) w (by rw [S_size]; omega) (by rw [S_size]; omega)
    have hT : parseL (textB f (S a) (S b)).data.toList = some (f, a, b) := by rw [text_data]; exact parse_text hp
    have hTz : (textB f (S a) (S b)).size ≤ 202 := by
      rw [Lib.size_eq, text_data]
      have := textL_le f a b
      omega
    have c3 : ∀ w, Glob w → Calls Tryd.prog 8 #[.string (textB f (S a) (S b))] w _ := fun w hG => parse_any (textB f (S a) (S b)) w hG (by omega)
    simp only [hT, specV] at c3
    have c4 : ∀ w, Glob w → Calls Tryd.prog 10 #[.agg #[.bool f, .string (S a), .string (S b)], .string t] w _ := fun w hG => map_any f (S a) (S b) t w hG (by rw [S_size]; omega) (by rw [S_size]; omega) (by omega)
    simp only at c4
    have hm := @map_valid a b t.data.toList
    generalize textB f (S a) (S b) = T at c2 c3
    generalize S a = A at c1 c2 c3 c4
    generalize S b = B at c1 c2 c3 c4
    clear hT hTz
    have hF : (f == f) = true := by cases f <;> rfl
    have hA : (A == A) = true := beq_self A
    have hB : (B == B) = true := beq_self B
    cases hq : mapL a b t.data.toList with
    | none =>
      simp only [hq, mapV] at c4
      go_enter Tryd.func7, Tryd.ntmps7
      go_wp2_with fail
      refine c1.mono ?_
      rintro e w1 ⟨rfl, hb1⟩
      have hG1 := hG.below hb1
      have hz1 := hb1.size
      go_wp2_with fail
      refine (c2 _).mono ?_
      rintro e w2 ⟨rfl, hb2⟩
      have hG2 := (hG1.alloc _).below hb2
      obtain ⟨hc2, hf2⟩ := bcell hb2
      have hz2 : w1.heap.size < w2.heap.size := by have h := hb2.size; simp at h; omega
      go_wp2_with fail
      refine (c3 _ hG2).mono ?_
      rintro e w3 ⟨rfl, hb3⟩
      have hG3 := hG2.below hb3
      obtain ⟨hc3, hf3⟩ := bcell hb3
      have hz3 := hb3.size
      have e0 : ∀ o, (w3.alloc o).cell? ⟨w1.heap.size, 0, none⟩ = some (.bool f) := fun o => by
        rw [cell_alloc_old w3 (by omega), hc3 _ _ hz2, hc2 _ _ (by simp)]; simp [go_sem]
      have e1 : ∀ o, (w3.alloc o).cell? ⟨w1.heap.size, 1, none⟩ = some (.string A) := fun o => by
        rw [cell_alloc_old w3 (by omega), hc3 _ _ hz2, hc2 _ _ (by simp)]; simp [go_sem]
      have e2 : ∀ o, (w3.alloc o).cell? ⟨w1.heap.size, 2, none⟩ = some (.string B) := fun o => by
        rw [cell_alloc_old w3 (by omega), hc3 _ _ hz2, hc2 _ _ (by simp)]; simp [go_sem]
      go_wp2_with fail
      refine (c4 _ (hG3.alloc _)).mono ?_
      rintro e w4 ⟨rfl, hb4⟩
      obtain ⟨hc4, hf4⟩ := bcell hb4
      have hz4 : w3.heap.size < w4.heap.size := by have h := hb4.size; simp at h; omega
      have hG4 := (hG3.alloc _).below hb4
      have g0 : w4.cell? ⟨w1.heap.size, 0, none⟩ = some (.bool f) := by rw [hc4 _ _ (by simp; omega), e0]
      have g1 : w4.cell? ⟨w1.heap.size, 1, none⟩ = some (.string A) := by rw [hc4 _ _ (by simp; omega), e1]
      have g2 : w4.cell? ⟨w1.heap.size, 2, none⟩ = some (.string B) := by rw [hc4 _ _ (by simp; omega), e2]
      have k0 : w4.cell? ⟨w3.heap.size, 0, none⟩ = some (.bool f) := by rw [hc4 _ _ (by simp)]; simp [go_sem]
      have k1 : w4.cell? ⟨w3.heap.size, 1, none⟩ = some (.string A) := by rw [hc4 _ _ (by simp)]; simp [go_sem]
      have k2 : w4.cell? ⟨w3.heap.size, 2, none⟩ = some (.string B) := by rw [hc4 _ _ (by simp)]; simp [go_sem]
      go_wp2_with fail
      refine (awake_any _ hG4).mono ?_
      rintro e w5 ⟨rfl, hb5⟩
      go_wp2
      go_ret
      refine ⟨rfl, ?_⟩
      exact (((hb1.alloc hz1 _).trans (hb2.mono (by simp; omega))).trans (hb3.mono (by omega))).alloc (by omega) _ |>.trans (hb4.mono (by simp; omega)) |>.trans (hb5.mono (by omega))
    | some x =>
      simp only [hq, mapV] at c4
      have hv := hm hq
      have hvl := (valid_parts hv).1
      go_enter Tryd.func7, Tryd.ntmps7
      go_wp2_with fail
      refine c1.mono ?_
      rintro e w1 ⟨rfl, hb1⟩
      have hG1 := hG.below hb1
      have hz1 := hb1.size
      go_wp2_with fail
      refine (c2 _).mono ?_
      rintro e w2 ⟨rfl, hb2⟩
      have hG2 := (hG1.alloc _).below hb2
      obtain ⟨hc2, hf2⟩ := bcell hb2
      have hz2 : w1.heap.size < w2.heap.size := by have h := hb2.size; simp at h; omega
      go_wp2_with fail
      refine (c3 _ hG2).mono ?_
      rintro e w3 ⟨rfl, hb3⟩
      have hG3 := hG2.below hb3
      obtain ⟨hc3, hf3⟩ := bcell hb3
      have hz3 := hb3.size
      have e0 : ∀ o, (w3.alloc o).cell? ⟨w1.heap.size, 0, none⟩ = some (.bool f) := fun o => by
        rw [cell_alloc_old w3 (by omega), hc3 _ _ hz2, hc2 _ _ (by simp)]; simp [go_sem]
      have e1 : ∀ o, (w3.alloc o).cell? ⟨w1.heap.size, 1, none⟩ = some (.string A) := fun o => by
        rw [cell_alloc_old w3 (by omega), hc3 _ _ hz2, hc2 _ _ (by simp)]; simp [go_sem]
      have e2 : ∀ o, (w3.alloc o).cell? ⟨w1.heap.size, 2, none⟩ = some (.string B) := fun o => by
        rw [cell_alloc_old w3 (by omega), hc3 _ _ hz2, hc2 _ _ (by simp)]; simp [go_sem]
      go_wp2_with fail
      refine (c4 _ (hG3.alloc _)).mono ?_
      rintro e w4 ⟨rfl, hb4⟩
      obtain ⟨hc4, hf4⟩ := bcell hb4
      have hz4 : w3.heap.size < w4.heap.size := by have h := hb4.size; simp at h; omega
      have hG4 := (hG3.alloc _).below hb4
      have g0 : w4.cell? ⟨w1.heap.size, 0, none⟩ = some (.bool f) := by rw [hc4 _ _ (by simp; omega), e0]
      have g1 : w4.cell? ⟨w1.heap.size, 1, none⟩ = some (.string A) := by rw [hc4 _ _ (by simp; omega), e1]
      have g2 : w4.cell? ⟨w1.heap.size, 2, none⟩ = some (.string B) := by rw [hc4 _ _ (by simp; omega), e2]
      have k0 : w4.cell? ⟨w3.heap.size, 0, none⟩ = some (.bool f) := by rw [hc4 _ _ (by simp)]; simp [go_sem]
      have k1 : w4.cell? ⟨w3.heap.size, 1, none⟩ = some (.string A) := by rw [hc4 _ _ (by simp)]; simp [go_sem]
      have k2 : w4.cell? ⟨w3.heap.size, 2, none⟩ = some (.string B) := by rw [hc4 _ _ (by simp)]; simp [go_sem]
      go_wp2_with fail
      refine (valid_any (S x) _ hG4 (by rw [S_size]; omega)).mono ?_
      rw [show (S x).data.toList = x from rfl, hv]
      rintro e w6 ⟨rfl, hb6⟩
      have hG6 := hG4.below hb6
      have hz6 := hb6.size
      go_wp2_with fail
      refine (awake_any _ hG6).mono ?_
      rintro e w5 ⟨rfl, hb5⟩
      go_wp2
      go_ret
      refine ⟨rfl, ?_⟩
      exact (((hb1.alloc hz1 _).trans (hb2.mono (by simp; omega))).trans (hb3.mono (by omega))).alloc (by omega) _ |>.trans (hb4.mono (by simp; omega)) |>.trans (hb6.mono (by omega)) |>.trans (hb5.mono (by omega))
end Go.Proofs.YtjmlppkleeegkaaDoor.Nm
