/- The law NameSpecs walked. -/

import Derived.Test.YtjmlppkleeegkaaDoorU
import Derived.Test.YtjmlppkleeegkaaDoorV
import Derived.Deep.RegionHeld3
namespace Go.Proofs.YtjmlppkleeegkaaDoor.Nm
open Go.RowKit Go.Lib
open Go (below_drewN)

theorem to_any (f : Bool) (A B : ByteArray) (w : World) :
    Calls Tryd.prog 16 #[.agg #[.bool f, .string A, .string B]] w fun e w' => e = .returned (.agg #[.bool f, .string A, .string B]) ∧ Below w.heap.size w w' := by
  have hss := set_twice
  go_enter Tryd.func16, Tryd.ntmps16
  go_wp2
  refine bodyPost_ret (v := .agg #[.bool f, .string A, .string B]) (by simp [results, Tryd.results16, go_sem]) rfl ⟨rfl, ?_⟩
  (with_reducible repeat (first | exact Below.refl _ _ | refine Below.setCell ?_ (by first | (simp; done) | (simp; omega)) _ | refine Below.alloc ?_ (by first | (simp; done) | (simp; omega)) _))

theorem rmap_any (f : Bool) (A B s : ByteArray) (w : World) (hA : A.size ≤ 2097152) (hB : B.size ≤ 2097152) (hs : s.size ≤ 2097152) {l : List UInt8} (hp : parseL l = some (f, A.data.toList, B.data.toList)) :
    Calls Tryd.prog 17 #[.agg #[.bool f, .string A, .string B], .string s] w fun e w' => e = .returned (mapV (mapL A.data.toList B.data.toList s.data.toList)) ∧ Below w.heap.size w w' := by
  obtain ⟨hb, ha⟩ := parse_good hp
  rcases star_of_side hb with ⟨b1, b2, b3⟩ | ⟨j, b1, _, b2, b3⟩
  · rcases ha with ⟨a1, _⟩ | ⟨_, a1, a2⟩
    · exact rmap_n f A B s w hA hB (by rw [a1]; exact star_of_nil.1) (by rw [a1]; exact star_of_nil.2)
    · rcases star_of_side a1 with ⟨c1, c2, _⟩ | ⟨i, c1, _, c2, c3⟩
      · exact rmap_n f A B s w hA hB c1 c2
      · rw [c3, b3] at a2; cases a2
  · rcases ha with ⟨_, a1⟩ | ⟨_, a1, a2⟩
    · rw [b3] at a1; cases a1
    · rcases star_of_side a1 with ⟨c1, c2, c3⟩ | ⟨i, c1, _, c2, c3⟩
      · rw [c3, b3] at a2; cases a2
      · exact rmap_s f A B s i j w hA hB hs c1 c2 b1 b2


/-- What the law's two specs hold, in whatever world. -/
abbrev Two (w : World) (b1 b2 : Nat) (f : Bool) (A B : ByteArray) (w' : World) : Prop :=
  w'.cell? ⟨b1, 0, none⟩ = some (.bool f) ∧ w'.cell? ⟨b1, 1, none⟩ = some (.string A) ∧ w'.cell? ⟨b1, 2, none⟩ = some (.string B) ∧
  w'.cell? ⟨b2, 0, none⟩ = some (.bool f) ∧ w'.cell? ⟨b2, 1, none⟩ = some (.string A) ∧ w'.cell? ⟨b2, 2, none⟩ = some (.string B) ∧
  b1 < w'.heap.size ∧ b2 < w'.heap.size ∧ Glob w' ∧ Below w.heap.size w w'
theorem Two.below {w : World} {b1 b2 : Nat} {f : Bool} {A B : ByteArray} {w' w'' : World} (h : Two w b1 b2 f A B w') (hb : Below w'.heap.size w' w'') : Two w b1 b2 f A B w'' := by
  obtain ⟨h1, h2, h3, h4, h5, h6, h7, h8, h9, h10⟩ := h
  obtain ⟨hc, _⟩ := bcell hb
  have hz := hb.size
  have hz2 := h10.size
  exact ⟨by rw [hc _ _ h7, h1], by rw [hc _ _ h7, h2], by rw [hc _ _ h7, h3], by rw [hc _ _ h8, h4], by rw [hc _ _ h8, h5], by rw [hc _ _ h8, h6], by omega, by omega, h9.below hb, h10.trans (hb.mono hz2)⟩
theorem two_of {w w1 w2 : World} {f : Bool} {A B : ByteArray} (hG : Glob w) (hb1 : Below w.heap.size w w1) (hb2 : Below (w1.alloc (.cells #[.bool f, .string A, .string B] 25)).heap.size (w1.alloc (.cells #[.bool f, .string A, .string B] 25)) w2) :
    Two w w1.heap.size w2.heap.size f A B (w2.alloc (.cells #[.bool f, .string A, .string B] 37)) := by
  have hz1 := hb1.size
  have hz2 := hb2.size
  have hz3 : (w1.alloc (.cells #[.bool f, .string A, .string B] 25)).heap.size = w1.heap.size + 1 := by simp
  obtain ⟨hc, _⟩ := bcell hb2
  have hG2 := (((hG.below hb1).alloc _).below hb2).alloc (.cells #[.bool f, .string A, .string B] 37)
  refine ⟨?_, ?_, ?_, by simp [go_sem], by simp [go_sem], by simp [go_sem], by simp; omega, by simp, hG2, ?_⟩
  · rw [cell_alloc_old w2 (by omega), hc _ _ (by omega)]; simp [go_sem]
  · rw [cell_alloc_old w2 (by omega), hc _ _ (by omega)]; simp [go_sem]
  · rw [cell_alloc_old w2 (by omega), hc _ _ (by omega)]; simp [go_sem]
  · exact ((hb1.alloc hz1 _).trans (hb2.mono (by omega))).alloc (by omega) _

set_option maxHeartbeats 2000000 in
set_option maxRecDepth 1000000 in
theorem law_specs (s t : ByteArray) (w : World) (hG : Glob w) (hs : s.size ≤ 1048576) (ht : t.size ≤ 1048576) :
    Calls Tryd.prog 6 #[.string s, .string t] w fun e w' => e = .returned (.bool true) ∧ Below w.heap.size w w' := by
  have hGs := hG.size
  have c1 := parse_any s w hG (by omega)
  have c2 : ∀ w, Calls Tryd.prog 15 #[.string s] w _ := fun w => rparse_any s w (by omega)
  cases hp : parseL s.data.toList with
  | none =>
    rw [hp] at c1
    simp only [hp, specV] at c1 c2
    go_enter Tryd.func6, Tryd.ntmps6
    go_wp2_with fail
    refine c1.mono ?_
    rintro e w1 ⟨rfl, hb1⟩
    go_wp2_with fail
    refine (c2 _).mono ?_
    rintro e w2 ⟨rfl, hb2⟩
    have hT := two_of hG hb1 hb2
    have hcT : ∀ w', Two w w1.heap.size w2.heap.size false ⟨#[]⟩ ⟨#[]⟩ w' → Calls Tryd.prog 16 #[.agg #[.bool false, .string ⟨#[]⟩, .string ⟨#[]⟩]] w' fun e w'' => e = .returned (.agg #[.bool false, .string ⟨#[]⟩, .string ⟨#[]⟩]) ∧ Two w w1.heap.size w2.heap.size false ⟨#[]⟩ ⟨#[]⟩ w'' :=
      fun w' h => (to_any false ⟨#[]⟩ ⟨#[]⟩ w').mono fun _ _ h' => ⟨h'.1, h.below h'.2⟩
    go_wp2_with fail
    generalize w2.alloc (.cells #[.bool false, .string ⟨#[]⟩, .string ⟨#[]⟩] 37) = v2 at hT ⊢
    have hTd : Two w w1.heap.size w2.heap.size false ⟨#[]⟩ ⟨#[]⟩ v2.drew := hT.below (Below.refl _ _).drew
    go_region_held3 (fun w' => w'.cell? ⟨w1.heap.size, 0, none⟩ = some (.bool false) ∧ w'.cell? ⟨w1.heap.size, 1, none⟩ = some (.string ⟨#[]⟩) ∧ w'.cell? ⟨w1.heap.size, 2, none⟩ = some (.string ⟨#[]⟩) ∧
      w'.cell? ⟨w2.heap.size, 0, none⟩ = some (.bool false) ∧ w'.cell? ⟨w2.heap.size, 1, none⟩ = some (.string ⟨#[]⟩) ∧ w'.cell? ⟨w2.heap.size, 2, none⟩ = some (.string ⟨#[]⟩) ∧
      w1.heap.size < w'.heap.size ∧ w2.heap.size < w'.heap.size ∧ Glob w' ∧ Below w.heap.size w w') (first | exact hTd | exact hT3) (first | (go_at_call 16; refine (hcT _ (by assumption)).mono ?_; rintro e w3 ⟨rfl, hT3⟩))
    go_wp2_with fail
    refine (awake_any _ hT3.2.2.2.2.2.2.2.2.1).mono ?_
    rintro e w4 ⟨rfl, hb4⟩
    go_wp2
    go_ret
    exact ⟨rfl, (hT3.below hb4).2.2.2.2.2.2.2.2.2⟩
  | some x =>
    obtain ⟨f, a, b⟩ := x
    obtain ⟨ha, hb⟩ := parse_small hp
    have hT0 := parse_text hp
    obtain ⟨A, hA⟩ : ∃ A, A = S a := ⟨_, rfl⟩
    obtain ⟨B, hB⟩ : ∃ B, B = S b := ⟨_, rfl⟩
    have ea : a = A.data.toList := by rw [hA, S_data]
    have eb : b = B.data.toList := by rw [hB, S_data]
    rw [hp] at c1
    simp only [hp, specV, ← hA, ← hB] at c1 c2
    have hAz : A.size ≤ 100 := by rw [hA, S_size]; exact ha
    have hBz : B.size ≤ 100 := by rw [hB, S_size]; exact hb
    rw [ea, eb] at hp
    clear hT0 ea eb hA hB ha hb
    have cM : ∀ w, Glob w → Calls Tryd.prog 10 #[.agg #[.bool f, .string A, .string B], .string t] w _ := fun w h => map_any f A B t w h (by omega) (by omega) (by omega)
    have cR : ∀ w, Calls Tryd.prog 17 #[.agg #[.bool f, .string A, .string B], .string t] w _ := fun w => rmap_any f A B t w (by omega) (by omega) (by omega) hp
    clear hp
    obtain ⟨X, ok, hX⟩ : ∃ X ok, mapV (mapL A.data.toList B.data.toList t.data.toList) = .tuple #[.string X, .bool ok] := by
      cases mapL A.data.toList B.data.toList t.data.toList with
      | none => exact ⟨_, _, rfl⟩
      | some x => exact ⟨_, _, rfl⟩
    simp only [hX] at cM cR
    clear hX
    have hXX : (X == X) = true := beq_self X
    have hkk : (ok == ok) = true := by cases ok <;> rfl
    have hff : (f == f) = true := by cases f <;> rfl
    have hAA : (A == A) = true := beq_self A
    have hBB : (B == B) = true := beq_self B
    go_enter Tryd.func6, Tryd.ntmps6
    go_wp2_with fail
    refine c1.mono ?_
    rintro e w1 ⟨rfl, hb1⟩
    go_wp2_with fail
    refine (c2 _).mono ?_
    rintro e w2 ⟨rfl, hb2⟩
    have hT := two_of hG hb1 hb2
    have hcT : ∀ w', Two w w1.heap.size w2.heap.size f A B w' → Calls Tryd.prog 16 #[.agg #[.bool f, .string A, .string B]] w' fun e w'' => e = .returned (.agg #[.bool f, .string A, .string B]) ∧ Two w w1.heap.size w2.heap.size f A B w'' :=
      fun w' h => (to_any f A B w').mono fun _ _ h' => ⟨h'.1, h.below h'.2⟩
    go_wp2_with fail
    generalize w2.alloc (.cells #[.bool f, .string A, .string B] 37) = v2 at hT ⊢
    have hTd : Two w w1.heap.size w2.heap.size f A B v2.drew := hT.below (Below.refl _ _).drew
    go_region_held3 (fun w' => w'.cell? ⟨w1.heap.size, 0, none⟩ = some (.bool f) ∧ w'.cell? ⟨w1.heap.size, 1, none⟩ = some (.string A) ∧ w'.cell? ⟨w1.heap.size, 2, none⟩ = some (.string B) ∧
      w'.cell? ⟨w2.heap.size, 0, none⟩ = some (.bool f) ∧ w'.cell? ⟨w2.heap.size, 1, none⟩ = some (.string A) ∧ w'.cell? ⟨w2.heap.size, 2, none⟩ = some (.string B) ∧
      w1.heap.size < w'.heap.size ∧ w2.heap.size < w'.heap.size ∧ Glob w' ∧ Below w.heap.size w w') (first | exact hTd | exact hT3) (first | (go_at_call 16; refine (hcT _ (by assumption)).mono ?_; rintro e w3 ⟨rfl, hT3⟩))
    have hT3k := hT3
    obtain ⟨p0, p1, p2, q0, q1, q2, _, _, hG3, _⟩ := hT3k
    go_wp2_with fail
    refine (cM _ hG3).mono ?_
    rintro e w4 ⟨rfl, hb4⟩
    have hT4 := hT3.below hb4
    have hT4k := hT4
    obtain ⟨p0, p1, p2, q0, q1, q2, _, _, hG4, _⟩ := hT4k
    go_wp2_with fail
    refine (cR _).mono ?_
    rintro e w5 ⟨rfl, hb5⟩
    have hT5 := hT4.below hb5
    have hT5d : Two w w1.heap.size w2.heap.size f A B w5.drew := hT5.below (Below.refl _ _).drew
    have cX : ∀ w', Two w w1.heap.size w2.heap.size f A B w' → Calls Tryd.prog 18 #[.agg #[.bool f, .string A, .string B]] w' fun e w'' => e = .returned (.string (textB f A B)) ∧ Two w w1.heap.size w2.heap.size f A B w'' :=
      fun w' h => (text_any f A B w' (by omega) (by omega)).mono fun _ _ h' => ⟨h'.1, h.below h'.2⟩
    have cY : ∀ w', Two w w1.heap.size w2.heap.size f A B w' → Calls Tryd.prog 19 #[.agg #[.bool f, .string A, .string B]] w' fun e w'' => e = .returned (.string (textB f A B)) ∧ Two w w1.heap.size w2.heap.size f A B w'' :=
      fun w' h => (rtext_any f A B w' (by omega) (by omega)).mono fun _ _ h' => ⟨h'.1, h.below h'.2⟩
    have cZ : ∀ w', Two w w1.heap.size w2.heap.size f A B w' → Calls Tryd.prog 9 #[] w' fun e w'' => e = .returned (.bool true) ∧ Two w w1.heap.size w2.heap.size f A B w'' :=
      fun w' h => (awake_any w' h.2.2.2.2.2.2.2.2.1).mono fun _ _ h' => ⟨h'.1, h.below h'.2⟩
    generalize textB f A B = Tx at cX cY
    have hTx : (Tx == Tx) = true := beq_self Tx
    go_wp2_with fail
    go_region_held3 (fun w' => w'.cell? ⟨w1.heap.size, 0, none⟩ = some (.bool f) ∧ w'.cell? ⟨w1.heap.size, 1, none⟩ = some (.string A) ∧ w'.cell? ⟨w1.heap.size, 2, none⟩ = some (.string B) ∧
      w'.cell? ⟨w2.heap.size, 0, none⟩ = some (.bool f) ∧ w'.cell? ⟨w2.heap.size, 1, none⟩ = some (.string A) ∧ w'.cell? ⟨w2.heap.size, 2, none⟩ = some (.string B) ∧
      w1.heap.size < w'.heap.size ∧ w2.heap.size < w'.heap.size ∧ Glob w' ∧ Below w.heap.size w w') (first | exact hT5d | exact hTa | exact hTb | exact hTc) (first | (go_at_call 18; refine (cX _ (by assumption)).mono ?_; rintro e wa ⟨rfl, hTa⟩) | (go_at_call 19; refine (cY _ (by assumption)).mono ?_; rintro e wb ⟨rfl, hTb⟩) | (go_at_call 9; refine (cZ _ (by assumption)).mono ?_; rintro e wc ⟨rfl, hTc⟩))
    go_wp2
    go_ret
    exact ⟨rfl, hTc.2.2.2.2.2.2.2.2.2⟩
end Go.Proofs.YtjmlppkleeegkaaDoor.Nm
