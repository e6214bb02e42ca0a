/- The document's own Parse walked. -/
import Derived.Test.YtjmlppkleeegkaaDoorO
namespace Go.Proofs.YtjmlppkleeegkaaDoor.Nm
open Go.RowKit Go.Lib
open Go (below_drewN)

theorem pn0 {l L : List UInt8} (hL : noPlus l = L) (h : at1 58 L = none) (hs : (sideL L).1 = false) : parseL l = none := by
  unfold parseL srcDst; rw [hL, h]; simp only; rw [if_pos hs]
theorem side_nil : (sideL []).1 = false := by decide +kernel
theorem pn1 {l L : List UInt8} {f : Bool} (hL : noPlus l = L) (hf : plus l = f) (h : at1 58 L = none) (hs : (sideL L).1 = true) : parseL l = some (f, L, L) := by
  have hne : L ≠ [] := by rintro rfl; rw [side_nil] at hs; cases hs
  unfold parseL srcDst; rw [hL, h, hf]; simp only; rw [if_neg (by rw [hs]; simp), if_neg (by simp [hne, hs])]
theorem ps0 {l L : List UInt8} {i : Nat} (hL : noPlus l = L) (h : at1 58 L = some i) (hd : (sideL (L.drop (i + 1))).1 = false) : parseL l = none := by
  unfold parseL srcDst; rw [hL, h]; simp only; rw [if_pos hd]
theorem ps1 {l L : List UInt8} {i : Nat} {f a b c d : Bool} {r : Option (Bool × List UInt8 × List UInt8)} (hL : noPlus l = L) (hf : plus l = f) (h : at1 58 L = some i) (hF : sideL (L.take i) = (a, b)) (hD : sideL (L.drop (i + 1)) = (c, d))
    (hr : r = if c = false then none else if L.take i = [] then (if d then none else some (f, L.take i, L.drop (i + 1))) else if a = false ∨ b ≠ d then none else some (f, L.take i, L.drop (i + 1))) : parseL l = r := by
  subst hr
  unfold parseL srcDst; rw [hL, h, hf]; simp only; rw [hD]
  by_cases hc : c = false
  · rw [if_pos hc, if_pos hc]
  · rw [if_neg hc, if_neg hc]
    by_cases h0 : L.take i = []
    · rw [if_pos h0, if_pos h0]
      simp only
      cases d <;> simp
    · rw [if_neg h0, if_neg h0, hF]

theorem at_some (X : ByteArray) {k : Nat} (hlt : k < X.size) (c : X[k]'hlt = 58) (hn : (58 : UInt8) ∉ X.data.toList.take k) : at1 58 X.data.toList = some k := by
  have h := at1_mk (c := 58) (X.data.toList.take k) (X.data.toList.drop (k + 1)) hn
  have hl : (X.data.toList.take k).length = k := by rw [List.length_take, ← Lib.size_eq]; omega
  have e : X.data.toList.take k ++ 58 :: X.data.toList.drop (k + 1) = X.data.toList := by
    rw [← c, ← get_data X k hlt, List.take_append_drop]
  rw [e, hl] at h
  exact h
theorem not_next (X : ByteArray) {k : Nat} (hlt : k < X.size) (c : X[k]'hlt ≠ 58) (hn : (58 : UInt8) ∉ X.data.toList.take k) : (58 : UInt8) ∉ X.data.toList.take (k + 1) := by
  have h := take_next X 0 k hlt (Nat.zero_le _)
  simp only [List.drop_zero, Nat.sub_zero] at h
  rw [h, List.mem_append]
  rintro (h1 | h1)
  · exact hn h1
  · exact c (by simpa using Eq.symm (by simpa using h1))
theorem at_none (X : ByteArray) {k : Nat} (hk : X.size ≤ k) (hn : (58 : UInt8) ∉ X.data.toList.take k) : at1 58 X.data.toList = none := by
  rw [List.take_of_length_le (by rw [← Lib.size_eq]; exact hk)] at hn
  cases h : at1 58 X.data.toList with
  | none => rfl
  | some i => 
    obtain ⟨h1, _, _⟩ := at1_some h
    exact absurd (by rw [h1]; simp) hn
theorem ex_nil (X : ByteArray) : X.extract 0 0 = ⟨#[]⟩ := by
  apply ByteArray.ext
  simp

set_option maxHeartbeats 4000000 in
set_option maxRecDepth 1000000 in
theorem rparse_t (s X : ByteArray) (V : Value) (w : World) (hs : s.size ≤ 140737488351232) (h0 : 0 < s.size) (h43 : s[0]'h0 = 43) (hX : s.extract 1 s.size = X) (hV : Hid (specV (parseL s.data.toList) = V)) (hL : noPlus s.data.toList = X.data.toList) (hf : plus s.data.toList = true) :
    Calls Tryd.prog 15 #[.string s] w fun e w' => e = .returned V ∧ Below w.heap.size w w' := by
  have hss := set_twice
  have h1 : (0 : Int) < (s.size : Int) := by omega
  have h2 : (((s[0]'h0).toNat : Int) == 43) = true := by rw [h43]; rfl
  have e1 : (1 : Int) ≤ (s.size : Int) := by omega
  have e2 : 1 ≤ s.size := by omega
  have hXz : X.size ≤ 140737488351232 := by rw [← hX, ByteArray.size_extract]; omega
  go_enter Tryd.func15, Tryd.ntmps15
  go_wp2
  go_loop [5, 6] (fun a i => ∃ k : Nat, k ≤ X.size ∧ i = .int .i64 k ∧ a = .int .i64 (-1) ∧ (58 : UInt8) ∉ X.data.toList.take k) (fun _ i => X.size - (RowKit.intOf i).toNat)
  case atStart => exact ⟨0, by omega, rfl, rfl, by simp⟩
  case round =>
    obtain ⟨k, hk, rfl, rfl, hn⟩ := hrel
    by_cases hlt : k < X.size
    · have g1 : (k : Int) < (X.size : Int) := by omega
      by_cases c : X[k]'hlt = 58
      · have c1 : (((X[k]'hlt).toNat : Int) == 58) = true := by rw [c]; rfl
        have hat : at1 58 X.data.toList = some k := at_some X hlt c hn
        have g2 : (0 : Int) ≤ (k : Int) := by omega
        have g3 : IntKind.i64.wrap ((k : Int) + 1) = (k : Int) + 1 := IntWalk.i64_in _ (by omega)
        have g4 : (k : Int) + 1 ≤ (X.size : Int) := by omega
        have g5 : (0 : Int) ≤ (k : Int) + 1 := by omega
        have g6 : ((k : Int) + 1).toNat = k + 1 := by omega
        have g7 : (k : Int) ≤ (X.size : Int) := by omega
        have g8 : k + 1 ≤ X.size := by omega
        have n1 : (X.extract 0 k).size = k := by rw [ByteArray.size_extract]; omega
        have n2 : (X.extract (k + 1) X.size).size = X.size - (k + 1) := by rw [ByteArray.size_extract]; omega
        clear hn
        by_cases hk0 : k = 0
        · subst hk0
          have a0 : X.extract 0 0 = ⟨#[]⟩ := ex_nil X
          have hR := fun a b c d r hF hD hr => @ps1 s.data.toList X.data.toList 0 true a b c d r hL hf hat hF hD hr
          rw [show X.data.toList.take 0 = (⟨#[]⟩ : ByteArray).data.toList from rfl, ← ext_from] at hR
          obtain ⟨⟨F1, F2⟩, hF⟩ : ∃ p, sideL (⟨#[]⟩ : ByteArray).data.toList = p := ⟨_, rfl⟩
          obtain ⟨⟨D1, D2⟩, hD⟩ : ∃ p, sideL (X.extract 1 X.size).data.toList = p := ⟨_, rfl⟩
          have hv := hR _ _ _ _ _ hF hD rfl
          clear hR
          have zz : (⟨#[]⟩ : ByteArray).size = 0 := rfl
          have n2 : (X.extract 1 X.size).size = X.size - 1 := by rw [ByteArray.size_extract]; omega
          cases D1 with
          | false =>
            have HV : Hid (V = .tuple #[.agg #[.bool false, .string ⟨#[]⟩, .string ⟨#[]⟩], .int .i64 3]) := Lib.hid (by rw [← hV.out, hv]; first | rfl | simp only [specV, S_of, S_take, S_drop])
            clear hV
            have cF : ∀ w, Calls Tryd.prog 34 #[.string ⟨#[]⟩] w fun e w' => e = .returned (.tuple #[.bool F1, .bool F2]) ∧ Below w.heap.size w w' := fun w => by have := may_any ⟨#[]⟩ w (by omega); rw [hF] at this; exact this
            have cD : ∀ w, Calls Tryd.prog 34 #[.string (X.extract 1 X.size)] w fun e w' => e = .returned (.tuple #[.bool false, .bool D2]) ∧ Below w.heap.size w w' := fun w => by have := may_any (X.extract 1 X.size) w (by omega); rw [hD] at this; exact this
            clear hF hD hL hf hat
            have tok1 : True := trivial
            go_wp2_with (first
              | (go_at_call 34; have tk1 := tok1; refine (cF _).mono ?_; rintro e w3 ⟨rfl, hb3⟩; obtain ⟨hc3, hf3⟩ := bcell hb3; have hz3 : w.heap.size + 1 < w3.heap.size := (by have h := hb3.size; simp at h; omega); have hz3b : w.heap.size < w3.heap.size := (by omega); clear tok1)
              | (go_at_call 34; refine (cD _).mono ?_; rintro e w4 ⟨rfl, hb4⟩; obtain ⟨hc4, hf4⟩ := bcell hb4; have hz4 : w.heap.size + 1 < w4.heap.size := (by have h := hb4.size; omega); have hz4b : w.heap.size < w4.heap.size := (by omega)))
            have q0 : w4.cell? ⟨w.heap.size, 0, none⟩ = some (.bool false) := by rw [hc4 _ _ (by omega), hc3 _ _ (by first | (simp; done) | (simp; omega))]; (go_simp <;> rfl)
            have q1 : w4.cell? ⟨w.heap.size, 1, none⟩ = some (.string ⟨#[]⟩) := by rw [hc4 _ _ (by omega), hc3 _ _ (by first | (simp; done) | (simp; omega))]; (go_simp <;> rfl)
            have q2 : w4.cell? ⟨w.heap.size, 2, none⟩ = some (.string ⟨#[]⟩) := by rw [hc4 _ _ (by omega), hc3 _ _ (by first | (simp; done) | (simp; omega))]; (go_simp <;> rfl)
            have p0 : w4.cell? ⟨w.heap.size + 1, 0, none⟩ = some (.bool true) := by rw [hc4 _ _ (by omega), hc3 _ _ (by first | (simp; done) | (simp; omega))]; (go_simp <;> rfl)
            have p1 : w4.cell? ⟨w.heap.size + 1, 1, none⟩ = some (.string ⟨#[]⟩) := by rw [hc4 _ _ (by omega), hc3 _ _ (by first | (simp; done) | (simp; omega))]; (go_simp <;> rfl)
            have p2 : w4.cell? ⟨w.heap.size + 1, 2, none⟩ = some (.string (X.extract 1 X.size)) := by rw [hc4 _ _ (by omega), hc3 _ _ (by first | (simp; done) | (simp; omega))]; (go_simp <;> rfl)
            refine bodyPost_ret (v := .tuple #[.agg #[.bool false, .string ⟨#[]⟩, .string ⟨#[]⟩], .int .i64 3]) (by simp [results, Tryd.results15, go_sem, q0, q1, q2] <;> rfl) rfl ⟨by rw [HV.out], ?_⟩
            (with_reducible repeat (first | exact Below.refl _ _ | refine Below.setCell ?_ (by first | (simp; done) | (simp; omega)) _ | refine Below.alloc ?_ (by first | (simp; done) | (simp; omega)) _ | refine below_drewN ?_ _ | refine Below.trans ?_ (hb4.mono (by omega)) | refine Below.trans ?_ (hb3.mono (by first | (simp; done) | (simp; omega)))))
          | true =>
            cases D2 with
            | true =>
              have HV : Hid (V = .tuple #[.agg #[.bool false, .string ⟨#[]⟩, .string ⟨#[]⟩], .int .i64 3]) := Lib.hid (by rw [← hV.out, hv]; first | rfl | simp only [specV, S_of, S_take, S_drop])
              clear hV
              have cF : ∀ w, Calls Tryd.prog 34 #[.string ⟨#[]⟩] w fun e w' => e = .returned (.tuple #[.bool F1, .bool F2]) ∧ Below w.heap.size w w' := fun w => by have := may_any ⟨#[]⟩ w (by omega); rw [hF] at this; exact this
              have cD : ∀ w, Calls Tryd.prog 34 #[.string (X.extract 1 X.size)] w fun e w' => e = .returned (.tuple #[.bool true, .bool true]) ∧ Below w.heap.size w w' := fun w => by have := may_any (X.extract 1 X.size) w (by omega); rw [hD] at this; exact this
              clear hF hD hL hf hat
              have tok1 : True := trivial
              go_wp2_with (first
                | (go_at_call 34; have tk1 := tok1; refine (cF _).mono ?_; rintro e w3 ⟨rfl, hb3⟩; obtain ⟨hc3, hf3⟩ := bcell hb3; have hz3 : w.heap.size + 1 < w3.heap.size := (by have h := hb3.size; simp at h; omega); have hz3b : w.heap.size < w3.heap.size := (by omega); clear tok1)
                | (go_at_call 34; refine (cD _).mono ?_; rintro e w4 ⟨rfl, hb4⟩; obtain ⟨hc4, hf4⟩ := bcell hb4; have hz4 : w.heap.size + 1 < w4.heap.size := (by have h := hb4.size; omega); have hz4b : w.heap.size < w4.heap.size := (by omega)))
              have q0 : w4.cell? ⟨w.heap.size, 0, none⟩ = some (.bool false) := by rw [hc4 _ _ (by omega), hc3 _ _ (by first | (simp; done) | (simp; omega))]; (go_simp <;> rfl)
              have q1 : w4.cell? ⟨w.heap.size, 1, none⟩ = some (.string ⟨#[]⟩) := by rw [hc4 _ _ (by omega), hc3 _ _ (by first | (simp; done) | (simp; omega))]; (go_simp <;> rfl)
              have q2 : w4.cell? ⟨w.heap.size, 2, none⟩ = some (.string ⟨#[]⟩) := by rw [hc4 _ _ (by omega), hc3 _ _ (by first | (simp; done) | (simp; omega))]; (go_simp <;> rfl)
              have p0 : w4.cell? ⟨w.heap.size + 1, 0, none⟩ = some (.bool true) := by rw [hc4 _ _ (by omega), hc3 _ _ (by first | (simp; done) | (simp; omega))]; (go_simp <;> rfl)
              have p1 : w4.cell? ⟨w.heap.size + 1, 1, none⟩ = some (.string ⟨#[]⟩) := by rw [hc4 _ _ (by omega), hc3 _ _ (by first | (simp; done) | (simp; omega))]; (go_simp <;> rfl)
              have p2 : w4.cell? ⟨w.heap.size + 1, 2, none⟩ = some (.string (X.extract 1 X.size)) := by rw [hc4 _ _ (by omega), hc3 _ _ (by first | (simp; done) | (simp; omega))]; (go_simp <;> rfl)
              refine bodyPost_ret (v := .tuple #[.agg #[.bool false, .string ⟨#[]⟩, .string ⟨#[]⟩], .int .i64 3]) (by simp [results, Tryd.results15, go_sem, q0, q1, q2] <;> rfl) rfl ⟨by rw [HV.out], ?_⟩
              (with_reducible repeat (first | exact Below.refl _ _ | refine Below.setCell ?_ (by first | (simp; done) | (simp; omega)) _ | refine Below.alloc ?_ (by first | (simp; done) | (simp; omega)) _ | refine below_drewN ?_ _ | refine Below.trans ?_ (hb4.mono (by omega)) | refine Below.trans ?_ (hb3.mono (by first | (simp; done) | (simp; omega)))))
            | false =>
              have HV : Hid (V = .tuple #[.agg #[.bool true, .string ⟨#[]⟩, .string (X.extract 1 X.size)], .int .i64 0]) := Lib.hid (by rw [← hV.out, hv]; first | rfl | simp only [specV, S_of, S_take, S_drop])
              clear hV
              have cF : ∀ w, Calls Tryd.prog 34 #[.string ⟨#[]⟩] w fun e w' => e = .returned (.tuple #[.bool F1, .bool F2]) ∧ Below w.heap.size w w' := fun w => by have := may_any ⟨#[]⟩ w (by omega); rw [hF] at this; exact this
              have cD : ∀ w, Calls Tryd.prog 34 #[.string (X.extract 1 X.size)] w fun e w' => e = .returned (.tuple #[.bool true, .bool false]) ∧ Below w.heap.size w w' := fun w => by have := may_any (X.extract 1 X.size) w (by omega); rw [hD] at this; exact this
              clear hF hD hL hf hat
              have tok1 : True := trivial
              go_wp2_with (first
                | (go_at_call 34; have tk1 := tok1; refine (cF _).mono ?_; rintro e w3 ⟨rfl, hb3⟩; obtain ⟨hc3, hf3⟩ := bcell hb3; have hz3 : w.heap.size + 1 < w3.heap.size := (by have h := hb3.size; simp at h; omega); have hz3b : w.heap.size < w3.heap.size := (by omega); clear tok1)
                | (go_at_call 34; refine (cD _).mono ?_; rintro e w4 ⟨rfl, hb4⟩; obtain ⟨hc4, hf4⟩ := bcell hb4; have hz4 : w.heap.size + 1 < w4.heap.size := (by have h := hb4.size; omega); have hz4b : w.heap.size < w4.heap.size := (by omega)))
              have q0 : w4.cell? ⟨w.heap.size, 0, none⟩ = some (.bool false) := by rw [hc4 _ _ (by omega), hc3 _ _ (by first | (simp; done) | (simp; omega))]; (go_simp <;> rfl)
              have q1 : w4.cell? ⟨w.heap.size, 1, none⟩ = some (.string ⟨#[]⟩) := by rw [hc4 _ _ (by omega), hc3 _ _ (by first | (simp; done) | (simp; omega))]; (go_simp <;> rfl)
              have q2 : w4.cell? ⟨w.heap.size, 2, none⟩ = some (.string ⟨#[]⟩) := by rw [hc4 _ _ (by omega), hc3 _ _ (by first | (simp; done) | (simp; omega))]; (go_simp <;> rfl)
              have p0 : w4.cell? ⟨w.heap.size + 1, 0, none⟩ = some (.bool true) := by rw [hc4 _ _ (by omega), hc3 _ _ (by first | (simp; done) | (simp; omega))]; (go_simp <;> rfl)
              have p1 : w4.cell? ⟨w.heap.size + 1, 1, none⟩ = some (.string ⟨#[]⟩) := by rw [hc4 _ _ (by omega), hc3 _ _ (by first | (simp; done) | (simp; omega))]; (go_simp <;> rfl)
              have p2 : w4.cell? ⟨w.heap.size + 1, 2, none⟩ = some (.string (X.extract 1 X.size)) := by rw [hc4 _ _ (by omega), hc3 _ _ (by first | (simp; done) | (simp; omega))]; (go_simp <;> rfl)
              refine bodyPost_ret (v := .tuple #[.agg #[.bool true, .string ⟨#[]⟩, .string (X.extract 1 X.size)], .int .i64 0]) (by simp [results, Tryd.results15, go_sem, q0, q1, q2] <;> rfl) rfl ⟨by rw [HV.out], ?_⟩
              (with_reducible repeat (first | exact Below.refl _ _ | refine Below.setCell ?_ (by first | (simp; done) | (simp; omega)) _ | refine Below.alloc ?_ (by first | (simp; done) | (simp; omega)) _ | refine below_drewN ?_ _ | refine Below.trans ?_ (hb4.mono (by omega)) | refine Below.trans ?_ (hb3.mono (by first | (simp; done) | (simp; omega)))))
        · have hne : (X.extract 0 k).data.toList ≠ [] := by intro e; have e2 := congrArg List.length e; rw [← Lib.size_eq, n1] at e2; simp at e2; omega
          have ne1 : ((X.extract 0 k).toList == []) = false := by rw [nil_toList]; exact beq_eq_false_iff_ne.2 hne
          have ne2 : (X.extract 0 k).toList.isEmpty = false := by rw [nil_toList]; cases h : (X.extract 0 k).data.toList with | nil => exact absurd h hne | cons a t => rfl
          have hR := fun a b c d r hF hD hr => @ps1 s.data.toList X.data.toList k true a b c d r hL hf hat hF hD hr
          rw [← ext_to, ← ext_from] at hR
          obtain ⟨⟨F1, F2⟩, hF⟩ : ∃ p, sideL (X.extract 0 k).data.toList = p := ⟨_, rfl⟩
          obtain ⟨⟨D1, D2⟩, hD⟩ : ∃ p, sideL (X.extract (k + 1) X.size).data.toList = p := ⟨_, rfl⟩
          have hv := hR _ _ _ _ _ hF hD rfl
          clear hR
          simp only [if_neg hne] at hv
          clear hne
          cases F1 with
          | false =>
            replace hv : parseL s.data.toList = none := by rw [hv]; cases D1 <;> simp
            have HV : Hid (V = .tuple #[.agg #[.bool false, .string ⟨#[]⟩, .string ⟨#[]⟩], .int .i64 3]) := Lib.hid (by rw [← hV.out, hv]; first | rfl | simp only [specV, S_of, S_take, S_drop])
            clear hV
            have cF : ∀ w, Calls Tryd.prog 34 #[.string (X.extract 0 k)] w fun e w' => e = .returned (.tuple #[.bool false, .bool F2]) ∧ Below w.heap.size w w' := fun w => by have := may_any (X.extract 0 k) w (by omega); rw [hF] at this; exact this
            have cD : ∀ w, Calls Tryd.prog 34 #[.string (X.extract (k + 1) X.size)] w fun e w' => e = .returned (.tuple #[.bool D1, .bool D2]) ∧ Below w.heap.size w w' := fun w => by have := may_any (X.extract (k + 1) X.size) w (by omega); rw [hD] at this; exact this
            clear hF hD hL hf hat
            have tok1 : True := trivial
            go_wp2_with (first
              | (go_at_call 34; have tk1 := tok1; refine (cF _).mono ?_; rintro e w3 ⟨rfl, hb3⟩; obtain ⟨hc3, hf3⟩ := bcell hb3; have hz3 : w.heap.size + 1 < w3.heap.size := (by have h := hb3.size; simp at h; omega); have hz3b : w.heap.size < w3.heap.size := (by omega); clear tok1)
              | (go_at_call 34; refine (cD _).mono ?_; rintro e w4 ⟨rfl, hb4⟩; obtain ⟨hc4, hf4⟩ := bcell hb4; have hz4 : w.heap.size + 1 < w4.heap.size := (by have h := hb4.size; omega); have hz4b : w.heap.size < w4.heap.size := (by omega)))
            have q0 : w4.cell? ⟨w.heap.size, 0, none⟩ = some (.bool false) := by rw [hc4 _ _ (by omega), hc3 _ _ (by first | (simp; done) | (simp; omega))]; (go_simp <;> rfl)
            have q1 : w4.cell? ⟨w.heap.size, 1, none⟩ = some (.string ⟨#[]⟩) := by rw [hc4 _ _ (by omega), hc3 _ _ (by first | (simp; done) | (simp; omega))]; (go_simp <;> rfl)
            have q2 : w4.cell? ⟨w.heap.size, 2, none⟩ = some (.string ⟨#[]⟩) := by rw [hc4 _ _ (by omega), hc3 _ _ (by first | (simp; done) | (simp; omega))]; (go_simp <;> rfl)
            have p0 : w4.cell? ⟨w.heap.size + 1, 0, none⟩ = some (.bool true) := by rw [hc4 _ _ (by omega), hc3 _ _ (by first | (simp; done) | (simp; omega))]; (go_simp <;> rfl)
            have p1 : w4.cell? ⟨w.heap.size + 1, 1, none⟩ = some (.string (X.extract 0 k)) := by rw [hc4 _ _ (by omega), hc3 _ _ (by first | (simp; done) | (simp; omega))]; (go_simp <;> rfl)
            have p2 : w4.cell? ⟨w.heap.size + 1, 2, none⟩ = some (.string (X.extract (k + 1) X.size)) := by rw [hc4 _ _ (by omega), hc3 _ _ (by first | (simp; done) | (simp; omega))]; (go_simp <;> rfl)
            refine bodyPost_ret (v := .tuple #[.agg #[.bool false, .string ⟨#[]⟩, .string ⟨#[]⟩], .int .i64 3]) (by simp [results, Tryd.results15, go_sem, q0, q1, q2] <;> rfl) rfl ⟨by rw [HV.out], ?_⟩
            (with_reducible repeat (first | exact Below.refl _ _ | refine Below.setCell ?_ (by first | (simp; done) | (simp; omega)) _ | refine Below.alloc ?_ (by first | (simp; done) | (simp; omega)) _ | refine below_drewN ?_ _ | refine Below.trans ?_ (hb4.mono (by omega)) | refine Below.trans ?_ (hb3.mono (by first | (simp; done) | (simp; omega)))))
          | true =>
            cases D1 with
            | false =>
              have HV : Hid (V = .tuple #[.agg #[.bool false, .string ⟨#[]⟩, .string ⟨#[]⟩], .int .i64 3]) := Lib.hid (by rw [← hV.out, hv]; first | rfl | simp only [specV, S_of, S_take, S_drop])
              clear hV
              have cF : ∀ w, Calls Tryd.prog 34 #[.string (X.extract 0 k)] w fun e w' => e = .returned (.tuple #[.bool true, .bool F2]) ∧ Below w.heap.size w w' := fun w => by have := may_any (X.extract 0 k) w (by omega); rw [hF] at this; exact this
              have cD : ∀ w, Calls Tryd.prog 34 #[.string (X.extract (k + 1) X.size)] w fun e w' => e = .returned (.tuple #[.bool false, .bool D2]) ∧ Below w.heap.size w w' := fun w => by have := may_any (X.extract (k + 1) X.size) w (by omega); rw [hD] at this; exact this
              clear hF hD hL hf hat
              have tok1 : True := trivial
              go_wp2_with (first
                | (go_at_call 34; have tk1 := tok1; refine (cF _).mono ?_; rintro e w3 ⟨rfl, hb3⟩; obtain ⟨hc3, hf3⟩ := bcell hb3; have hz3 : w.heap.size + 1 < w3.heap.size := (by have h := hb3.size; simp at h; omega); have hz3b : w.heap.size < w3.heap.size := (by omega); clear tok1)
                | (go_at_call 34; refine (cD _).mono ?_; rintro e w4 ⟨rfl, hb4⟩; obtain ⟨hc4, hf4⟩ := bcell hb4; have hz4 : w.heap.size + 1 < w4.heap.size := (by have h := hb4.size; omega); have hz4b : w.heap.size < w4.heap.size := (by omega)))
              have q0 : w4.cell? ⟨w.heap.size, 0, none⟩ = some (.bool false) := by rw [hc4 _ _ (by omega), hc3 _ _ (by first | (simp; done) | (simp; omega))]; (go_simp <;> rfl)
              have q1 : w4.cell? ⟨w.heap.size, 1, none⟩ = some (.string ⟨#[]⟩) := by rw [hc4 _ _ (by omega), hc3 _ _ (by first | (simp; done) | (simp; omega))]; (go_simp <;> rfl)
              have q2 : w4.cell? ⟨w.heap.size, 2, none⟩ = some (.string ⟨#[]⟩) := by rw [hc4 _ _ (by omega), hc3 _ _ (by first | (simp; done) | (simp; omega))]; (go_simp <;> rfl)
              have p0 : w4.cell? ⟨w.heap.size + 1, 0, none⟩ = some (.bool true) := by rw [hc4 _ _ (by omega), hc3 _ _ (by first | (simp; done) | (simp; omega))]; (go_simp <;> rfl)
              have p1 : w4.cell? ⟨w.heap.size + 1, 1, none⟩ = some (.string (X.extract 0 k)) := by rw [hc4 _ _ (by omega), hc3 _ _ (by first | (simp; done) | (simp; omega))]; (go_simp <;> rfl)
              have p2 : w4.cell? ⟨w.heap.size + 1, 2, none⟩ = some (.string (X.extract (k + 1) X.size)) := by rw [hc4 _ _ (by omega), hc3 _ _ (by first | (simp; done) | (simp; omega))]; (go_simp <;> rfl)
              refine bodyPost_ret (v := .tuple #[.agg #[.bool false, .string ⟨#[]⟩, .string ⟨#[]⟩], .int .i64 3]) (by simp [results, Tryd.results15, go_sem, q0, q1, q2] <;> rfl) rfl ⟨by rw [HV.out], ?_⟩
              (with_reducible repeat (first | exact Below.refl _ _ | refine Below.setCell ?_ (by first | (simp; done) | (simp; omega)) _ | refine Below.alloc ?_ (by first | (simp; done) | (simp; omega)) _ | refine below_drewN ?_ _ | refine Below.trans ?_ (hb4.mono (by omega)) | refine Below.trans ?_ (hb3.mono (by first | (simp; done) | (simp; omega)))))
            | true =>
              cases F2 with
              | true =>
                cases D2 with
                | true =>
                  have HV : Hid (V = .tuple #[.agg #[.bool true, .string (X.extract 0 k), .string (X.extract (k + 1) X.size)], .int .i64 0]) := Lib.hid (by rw [← hV.out, hv]; first | rfl | simp only [specV, S_of, S_take, S_drop])
                  clear hV
                  have cF : ∀ w, Calls Tryd.prog 34 #[.string (X.extract 0 k)] w fun e w' => e = .returned (.tuple #[.bool true, .bool true]) ∧ Below w.heap.size w w' := fun w => by have := may_any (X.extract 0 k) w (by omega); rw [hF] at this; exact this
                  have cD : ∀ w, Calls Tryd.prog 34 #[.string (X.extract (k + 1) X.size)] w fun e w' => e = .returned (.tuple #[.bool true, .bool true]) ∧ Below w.heap.size w w' := fun w => by have := may_any (X.extract (k + 1) X.size) w (by omega); rw [hD] at this; exact this
                  clear hF hD hL hf hat
                  have tok1 : True := trivial
                  go_wp2_with (first
                    | (go_at_call 34; have tk1 := tok1; refine (cF _).mono ?_; rintro e w3 ⟨rfl, hb3⟩; obtain ⟨hc3, hf3⟩ := bcell hb3; have hz3 : w.heap.size + 1 < w3.heap.size := (by have h := hb3.size; simp at h; omega); have hz3b : w.heap.size < w3.heap.size := (by omega); clear tok1)
                    | (go_at_call 34; refine (cD _).mono ?_; rintro e w4 ⟨rfl, hb4⟩; obtain ⟨hc4, hf4⟩ := bcell hb4; have hz4 : w.heap.size + 1 < w4.heap.size := (by have h := hb4.size; omega); have hz4b : w.heap.size < w4.heap.size := (by omega)))
                  have q0 : w4.cell? ⟨w.heap.size, 0, none⟩ = some (.bool false) := by rw [hc4 _ _ (by omega), hc3 _ _ (by first | (simp; done) | (simp; omega))]; (go_simp <;> rfl)
                  have q1 : w4.cell? ⟨w.heap.size, 1, none⟩ = some (.string ⟨#[]⟩) := by rw [hc4 _ _ (by omega), hc3 _ _ (by first | (simp; done) | (simp; omega))]; (go_simp <;> rfl)
                  have q2 : w4.cell? ⟨w.heap.size, 2, none⟩ = some (.string ⟨#[]⟩) := by rw [hc4 _ _ (by omega), hc3 _ _ (by first | (simp; done) | (simp; omega))]; (go_simp <;> rfl)
                  have p0 : w4.cell? ⟨w.heap.size + 1, 0, none⟩ = some (.bool true) := by rw [hc4 _ _ (by omega), hc3 _ _ (by first | (simp; done) | (simp; omega))]; (go_simp <;> rfl)
                  have p1 : w4.cell? ⟨w.heap.size + 1, 1, none⟩ = some (.string (X.extract 0 k)) := by rw [hc4 _ _ (by omega), hc3 _ _ (by first | (simp; done) | (simp; omega))]; (go_simp <;> rfl)
                  have p2 : w4.cell? ⟨w.heap.size + 1, 2, none⟩ = some (.string (X.extract (k + 1) X.size)) := by rw [hc4 _ _ (by omega), hc3 _ _ (by first | (simp; done) | (simp; omega))]; (go_simp <;> rfl)
                  refine bodyPost_ret (v := .tuple #[.agg #[.bool true, .string (X.extract 0 k), .string (X.extract (k + 1) X.size)], .int .i64 0]) (by simp [results, Tryd.results15, go_sem, q0, q1, q2] <;> rfl) rfl ⟨by rw [HV.out], ?_⟩
                  (with_reducible repeat (first | exact Below.refl _ _ | refine Below.setCell ?_ (by first | (simp; done) | (simp; omega)) _ | refine Below.alloc ?_ (by first | (simp; done) | (simp; omega)) _ | refine below_drewN ?_ _ | refine Below.trans ?_ (hb4.mono (by omega)) | refine Below.trans ?_ (hb3.mono (by first | (simp; done) | (simp; omega)))))
                | false =>
                  have HV : Hid (V = .tuple #[.agg #[.bool false, .string ⟨#[]⟩, .string ⟨#[]⟩], .int .i64 3]) := Lib.hid (by rw [← hV.out, hv]; first | rfl | simp only [specV, S_of, S_take, S_drop])
                  clear hV
                  have cF : ∀ w, Calls Tryd.prog 34 #[.string (X.extract 0 k)] w fun e w' => e = .returned (.tuple #[.bool true, .bool true]) ∧ Below w.heap.size w w' := fun w => by have := may_any (X.extract 0 k) w (by omega); rw [hF] at this; exact this
                  have cD : ∀ w, Calls Tryd.prog 34 #[.string (X.extract (k + 1) X.size)] w fun e w' => e = .returned (.tuple #[.bool true, .bool false]) ∧ Below w.heap.size w w' := fun w => by have := may_any (X.extract (k + 1) X.size) w (by omega); rw [hD] at this; exact this
                  clear hF hD hL hf hat
                  have tok1 : True := trivial
                  go_wp2_with (first
                    | (go_at_call 34; have tk1 := tok1; refine (cF _).mono ?_; rintro e w3 ⟨rfl, hb3⟩; obtain ⟨hc3, hf3⟩ := bcell hb3; have hz3 : w.heap.size + 1 < w3.heap.size := (by have h := hb3.size; simp at h; omega); have hz3b : w.heap.size < w3.heap.size := (by omega); clear tok1)
                    | (go_at_call 34; refine (cD _).mono ?_; rintro e w4 ⟨rfl, hb4⟩; obtain ⟨hc4, hf4⟩ := bcell hb4; have hz4 : w.heap.size + 1 < w4.heap.size := (by have h := hb4.size; omega); have hz4b : w.heap.size < w4.heap.size := (by omega)))
                  have q0 : w4.cell? ⟨w.heap.size, 0, none⟩ = some (.bool false) := by rw [hc4 _ _ (by omega), hc3 _ _ (by first | (simp; done) | (simp; omega))]; (go_simp <;> rfl)
                  have q1 : w4.cell? ⟨w.heap.size, 1, none⟩ = some (.string ⟨#[]⟩) := by rw [hc4 _ _ (by omega), hc3 _ _ (by first | (simp; done) | (simp; omega))]; (go_simp <;> rfl)
                  have q2 : w4.cell? ⟨w.heap.size, 2, none⟩ = some (.string ⟨#[]⟩) := by rw [hc4 _ _ (by omega), hc3 _ _ (by first | (simp; done) | (simp; omega))]; (go_simp <;> rfl)
                  have p0 : w4.cell? ⟨w.heap.size + 1, 0, none⟩ = some (.bool true) := by rw [hc4 _ _ (by omega), hc3 _ _ (by first | (simp; done) | (simp; omega))]; (go_simp <;> rfl)
                  have p1 : w4.cell? ⟨w.heap.size + 1, 1, none⟩ = some (.string (X.extract 0 k)) := by rw [hc4 _ _ (by omega), hc3 _ _ (by first | (simp; done) | (simp; omega))]; (go_simp <;> rfl)
                  have p2 : w4.cell? ⟨w.heap.size + 1, 2, none⟩ = some (.string (X.extract (k + 1) X.size)) := by rw [hc4 _ _ (by omega), hc3 _ _ (by first | (simp; done) | (simp; omega))]; (go_simp <;> rfl)
                  refine bodyPost_ret (v := .tuple #[.agg #[.bool false, .string ⟨#[]⟩, .string ⟨#[]⟩], .int .i64 3]) (by simp [results, Tryd.results15, go_sem, q0, q1, q2] <;> rfl) rfl ⟨by rw [HV.out], ?_⟩
                  (with_reducible repeat (first | exact Below.refl _ _ | refine Below.setCell ?_ (by first | (simp; done) | (simp; omega)) _ | refine Below.alloc ?_ (by first | (simp; done) | (simp; omega)) _ | refine below_drewN ?_ _ | refine Below.trans ?_ (hb4.mono (by omega)) | refine Below.trans ?_ (hb3.mono (by first | (simp; done) | (simp; omega)))))
              | false =>
                cases D2 with
                | true =>
                  have HV : Hid (V = .tuple #[.agg #[.bool false, .string ⟨#[]⟩, .string ⟨#[]⟩], .int .i64 3]) := Lib.hid (by rw [← hV.out, hv]; first | rfl | simp only [specV, S_of, S_take, S_drop])
                  clear hV
                  have cF : ∀ w, Calls Tryd.prog 34 #[.string (X.extract 0 k)] w fun e w' => e = .returned (.tuple #[.bool true, .bool false]) ∧ Below w.heap.size w w' := fun w => by have := may_any (X.extract 0 k) w (by omega); rw [hF] at this; exact this
                  have cD : ∀ w, Calls Tryd.prog 34 #[.string (X.extract (k + 1) X.size)] w fun e w' => e = .returned (.tuple #[.bool true, .bool true]) ∧ Below w.heap.size w w' := fun w => by have := may_any (X.extract (k + 1) X.size) w (by omega); rw [hD] at this; exact this
                  clear hF hD hL hf hat
                  have tok1 : True := trivial
                  go_wp2_with (first
                    | (go_at_call 34; have tk1 := tok1; refine (cF _).mono ?_; rintro e w3 ⟨rfl, hb3⟩; obtain ⟨hc3, hf3⟩ := bcell hb3; have hz3 : w.heap.size + 1 < w3.heap.size := (by have h := hb3.size; simp at h; omega); have hz3b : w.heap.size < w3.heap.size := (by omega); clear tok1)
                    | (go_at_call 34; refine (cD _).mono ?_; rintro e w4 ⟨rfl, hb4⟩; obtain ⟨hc4, hf4⟩ := bcell hb4; have hz4 : w.heap.size + 1 < w4.heap.size := (by have h := hb4.size; omega); have hz4b : w.heap.size < w4.heap.size := (by omega)))
                  have q0 : w4.cell? ⟨w.heap.size, 0, none⟩ = some (.bool false) := by rw [hc4 _ _ (by omega), hc3 _ _ (by first | (simp; done) | (simp; omega))]; (go_simp <;> rfl)
                  have q1 : w4.cell? ⟨w.heap.size, 1, none⟩ = some (.string ⟨#[]⟩) := by rw [hc4 _ _ (by omega), hc3 _ _ (by first | (simp; done) | (simp; omega))]; (go_simp <;> rfl)
                  have q2 : w4.cell? ⟨w.heap.size, 2, none⟩ = some (.string ⟨#[]⟩) := by rw [hc4 _ _ (by omega), hc3 _ _ (by first | (simp; done) | (simp; omega))]; (go_simp <;> rfl)
                  have p0 : w4.cell? ⟨w.heap.size + 1, 0, none⟩ = some (.bool true) := by rw [hc4 _ _ (by omega), hc3 _ _ (by first | (simp; done) | (simp; omega))]; (go_simp <;> rfl)
                  have p1 : w4.cell? ⟨w.heap.size + 1, 1, none⟩ = some (.string (X.extract 0 k)) := by rw [hc4 _ _ (by omega), hc3 _ _ (by first | (simp; done) | (simp; omega))]; (go_simp <;> rfl)
                  have p2 : w4.cell? ⟨w.heap.size + 1, 2, none⟩ = some (.string (X.extract (k + 1) X.size)) := by rw [hc4 _ _ (by omega), hc3 _ _ (by first | (simp; done) | (simp; omega))]; (go_simp <;> rfl)
                  refine bodyPost_ret (v := .tuple #[.agg #[.bool false, .string ⟨#[]⟩, .string ⟨#[]⟩], .int .i64 3]) (by simp [results, Tryd.results15, go_sem, q0, q1, q2] <;> rfl) rfl ⟨by rw [HV.out], ?_⟩
                  (with_reducible repeat (first | exact Below.refl _ _ | refine Below.setCell ?_ (by first | (simp; done) | (simp; omega)) _ | refine Below.alloc ?_ (by first | (simp; done) | (simp; omega)) _ | refine below_drewN ?_ _ | refine Below.trans ?_ (hb4.mono (by omega)) | refine Below.trans ?_ (hb3.mono (by first | (simp; done) | (simp; omega)))))
                | false =>
                  have HV : Hid (V = .tuple #[.agg #[.bool true, .string (X.extract 0 k), .string (X.extract (k + 1) X.size)], .int .i64 0]) := Lib.hid (by rw [← hV.out, hv]; first | rfl | simp only [specV, S_of, S_take, S_drop])
                  clear hV
                  have cF : ∀ w, Calls Tryd.prog 34 #[.string (X.extract 0 k)] w fun e w' => e = .returned (.tuple #[.bool true, .bool false]) ∧ Below w.heap.size w w' := fun w => by have := may_any (X.extract 0 k) w (by omega); rw [hF] at this; exact this
                  have cD : ∀ w, Calls Tryd.prog 34 #[.string (X.extract (k + 1) X.size)] w fun e w' => e = .returned (.tuple #[.bool true, .bool false]) ∧ Below w.heap.size w w' := fun w => by have := may_any (X.extract (k + 1) X.size) w (by omega); rw [hD] at this; exact this
                  clear hF hD hL hf hat
                  have tok1 : True := trivial
                  go_wp2_with (first
                    | (go_at_call 34; have tk1 := tok1; refine (cF _).mono ?_; rintro e w3 ⟨rfl, hb3⟩; obtain ⟨hc3, hf3⟩ := bcell hb3; have hz3 : w.heap.size + 1 < w3.heap.size := (by have h := hb3.size; simp at h; omega); have hz3b : w.heap.size < w3.heap.size := (by omega); clear tok1)
                    | (go_at_call 34; refine (cD _).mono ?_; rintro e w4 ⟨rfl, hb4⟩; obtain ⟨hc4, hf4⟩ := bcell hb4; have hz4 : w.heap.size + 1 < w4.heap.size := (by have h := hb4.size; omega); have hz4b : w.heap.size < w4.heap.size := (by omega)))
                  have q0 : w4.cell? ⟨w.heap.size, 0, none⟩ = some (.bool false) := by rw [hc4 _ _ (by omega), hc3 _ _ (by first | (simp; done) | (simp; omega))]; (go_simp <;> rfl)
                  have q1 : w4.cell? ⟨w.heap.size, 1, none⟩ = some (.string ⟨#[]⟩) := by rw [hc4 _ _ (by omega), hc3 _ _ (by first | (simp; done) | (simp; omega))]; (go_simp <;> rfl)
                  have q2 : w4.cell? ⟨w.heap.size, 2, none⟩ = some (.string ⟨#[]⟩) := by rw [hc4 _ _ (by omega), hc3 _ _ (by first | (simp; done) | (simp; omega))]; (go_simp <;> rfl)
                  have p0 : w4.cell? ⟨w.heap.size + 1, 0, none⟩ = some (.bool true) := by rw [hc4 _ _ (by omega), hc3 _ _ (by first | (simp; done) | (simp; omega))]; (go_simp <;> rfl)
                  have p1 : w4.cell? ⟨w.heap.size + 1, 1, none⟩ = some (.string (X.extract 0 k)) := by rw [hc4 _ _ (by omega), hc3 _ _ (by first | (simp; done) | (simp; omega))]; (go_simp <;> rfl)
                  have p2 : w4.cell? ⟨w.heap.size + 1, 2, none⟩ = some (.string (X.extract (k + 1) X.size)) := by rw [hc4 _ _ (by omega), hc3 _ _ (by first | (simp; done) | (simp; omega))]; (go_simp <;> rfl)
                  refine bodyPost_ret (v := .tuple #[.agg #[.bool true, .string (X.extract 0 k), .string (X.extract (k + 1) X.size)], .int .i64 0]) (by simp [results, Tryd.results15, go_sem, q0, q1, q2] <;> rfl) rfl ⟨by rw [HV.out], ?_⟩
                  (with_reducible repeat (first | exact Below.refl _ _ | refine Below.setCell ?_ (by first | (simp; done) | (simp; omega)) _ | refine Below.alloc ?_ (by first | (simp; done) | (simp; omega)) _ | refine below_drewN ?_ _ | refine Below.trans ?_ (hb4.mono (by omega)) | refine Below.trans ?_ (hb3.mono (by first | (simp; done) | (simp; omega)))))
      · have c1 : (((X[k]'hlt).toNat : Int) == 58) = false := by
          rw [beq_eq_false_iff_ne]; intro e; exact c (UInt8.toNat_inj.1 (by simpa using (by omega : (X[k]'hlt).toNat = 58)))
        have hn2 := not_next X hlt c hn
        clear hn c
        go_wp2
        go_round
        case rel => exact ⟨k + 1, by omega, by go_num, rfl, hn2⟩
        case measure => simp [RowKit.intOf]; omega
    · have g1 : ¬ (k : Int) < (X.size : Int) := by omega
      have hat : at1 58 X.data.toList = none := at_none X (by omega) hn
      clear hn
      obtain ⟨⟨F1, F2⟩, hF⟩ : ∃ p, sideL X.data.toList = p := ⟨_, rfl⟩
      have hD := hF
      cases F1 with
      | false =>
        have hv := pn0 hL hat (by rw [hF])
        by_cases hne : X.data.toList = []
        · rw [← nil_toList] at hne
          have HV : Hid (V = .tuple #[.agg #[.bool false, .string ⟨#[]⟩, .string ⟨#[]⟩], .int .i64 3]) := Lib.hid (by rw [← hV.out, hv]; first | rfl | simp only [specV, S_of, S_take, S_drop])
          clear hV
          have cF : ∀ w, Calls Tryd.prog 34 #[.string X] w fun e w' => e = .returned (.tuple #[.bool false, .bool F2]) ∧ Below w.heap.size w w' := fun w => by have := may_any X w (by omega); rw [hF] at this; exact this
          have cD : ∀ w, Calls Tryd.prog 34 #[.string X] w fun e w' => e = .returned (.tuple #[.bool false, .bool F2]) ∧ Below w.heap.size w w' := fun w => by have := may_any X w (by omega); rw [hD] at this; exact this
          clear hF hD hL hf hat
          have tok1 : True := trivial
          go_wp2_with (first
            | (go_at_call 34; have tk1 := tok1; refine (cF _).mono ?_; rintro e w3 ⟨rfl, hb3⟩; obtain ⟨hc3, hf3⟩ := bcell hb3; have hz3 : w.heap.size + 1 < w3.heap.size := (by have h := hb3.size; simp at h; omega); have hz3b : w.heap.size < w3.heap.size := (by omega); clear tok1)
            | (go_at_call 34; refine (cD _).mono ?_; rintro e w4 ⟨rfl, hb4⟩; obtain ⟨hc4, hf4⟩ := bcell hb4; have hz4 : w.heap.size + 1 < w4.heap.size := (by have h := hb4.size; omega); have hz4b : w.heap.size < w4.heap.size := (by omega)))
          have q0 : w4.cell? ⟨w.heap.size, 0, none⟩ = some (.bool false) := by rw [hc4 _ _ (by omega), hc3 _ _ (by first | (simp; done) | (simp; omega))]; (go_simp <;> rfl)
          have q1 : w4.cell? ⟨w.heap.size, 1, none⟩ = some (.string ⟨#[]⟩) := by rw [hc4 _ _ (by omega), hc3 _ _ (by first | (simp; done) | (simp; omega))]; (go_simp <;> rfl)
          have q2 : w4.cell? ⟨w.heap.size, 2, none⟩ = some (.string ⟨#[]⟩) := by rw [hc4 _ _ (by omega), hc3 _ _ (by first | (simp; done) | (simp; omega))]; (go_simp <;> rfl)
          have p0 : w4.cell? ⟨w.heap.size + 1, 0, none⟩ = some (.bool true) := by rw [hc4 _ _ (by omega), hc3 _ _ (by first | (simp; done) | (simp; omega))]; (go_simp <;> rfl)
          have p1 : w4.cell? ⟨w.heap.size + 1, 1, none⟩ = some (.string X) := by rw [hc4 _ _ (by omega), hc3 _ _ (by first | (simp; done) | (simp; omega))]; (go_simp <;> rfl)
          have p2 : w4.cell? ⟨w.heap.size + 1, 2, none⟩ = some (.string X) := by rw [hc4 _ _ (by omega), hc3 _ _ (by first | (simp; done) | (simp; omega))]; (go_simp <;> rfl)
          refine bodyPost_ret (v := .tuple #[.agg #[.bool false, .string ⟨#[]⟩, .string ⟨#[]⟩], .int .i64 3]) (by simp [results, Tryd.results15, go_sem, q0, q1, q2] <;> rfl) rfl ⟨by rw [HV.out], ?_⟩
          (with_reducible repeat (first | exact Below.refl _ _ | refine Below.setCell ?_ (by first | (simp; done) | (simp; omega)) _ | refine Below.alloc ?_ (by first | (simp; done) | (simp; omega)) _ | refine below_drewN ?_ _ | refine Below.trans ?_ (hb4.mono (by omega)) | refine Below.trans ?_ (hb3.mono (by first | (simp; done) | (simp; omega)))))
        · have ne1 : (X.toList == []) = false := by rw [nil_toList]; exact beq_eq_false_iff_ne.2 hne
          have ne2 : X.toList.isEmpty = false := by rw [nil_toList]; cases h : X.data.toList with | nil => exact absurd h hne | cons a t => rfl
          clear hne
          have HV : Hid (V = .tuple #[.agg #[.bool false, .string ⟨#[]⟩, .string ⟨#[]⟩], .int .i64 3]) := Lib.hid (by rw [← hV.out, hv]; first | rfl | simp only [specV, S_of, S_take, S_drop])
          clear hV
          have cF : ∀ w, Calls Tryd.prog 34 #[.string X] w fun e w' => e = .returned (.tuple #[.bool false, .bool F2]) ∧ Below w.heap.size w w' := fun w => by have := may_any X w (by omega); rw [hF] at this; exact this
          have cD : ∀ w, Calls Tryd.prog 34 #[.string X] w fun e w' => e = .returned (.tuple #[.bool false, .bool F2]) ∧ Below w.heap.size w w' := fun w => by have := may_any X w (by omega); rw [hD] at this; exact this
          clear hF hD hL hf hat
          have tok1 : True := trivial
          go_wp2_with (first
            | (go_at_call 34; have tk1 := tok1; refine (cF _).mono ?_; rintro e w3 ⟨rfl, hb3⟩; obtain ⟨hc3, hf3⟩ := bcell hb3; have hz3 : w.heap.size + 1 < w3.heap.size := (by have h := hb3.size; simp at h; omega); have hz3b : w.heap.size < w3.heap.size := (by omega); clear tok1)
            | (go_at_call 34; refine (cD _).mono ?_; rintro e w4 ⟨rfl, hb4⟩; obtain ⟨hc4, hf4⟩ := bcell hb4; have hz4 : w.heap.size + 1 < w4.heap.size := (by have h := hb4.size; omega); have hz4b : w.heap.size < w4.heap.size := (by omega)))
          have q0 : w4.cell? ⟨w.heap.size, 0, none⟩ = some (.bool false) := by rw [hc4 _ _ (by omega), hc3 _ _ (by first | (simp; done) | (simp; omega))]; (go_simp <;> rfl)
          have q1 : w4.cell? ⟨w.heap.size, 1, none⟩ = some (.string ⟨#[]⟩) := by rw [hc4 _ _ (by omega), hc3 _ _ (by first | (simp; done) | (simp; omega))]; (go_simp <;> rfl)
          have q2 : w4.cell? ⟨w.heap.size, 2, none⟩ = some (.string ⟨#[]⟩) := by rw [hc4 _ _ (by omega), hc3 _ _ (by first | (simp; done) | (simp; omega))]; (go_simp <;> rfl)
          have p0 : w4.cell? ⟨w.heap.size + 1, 0, none⟩ = some (.bool true) := by rw [hc4 _ _ (by omega), hc3 _ _ (by first | (simp; done) | (simp; omega))]; (go_simp <;> rfl)
          have p1 : w4.cell? ⟨w.heap.size + 1, 1, none⟩ = some (.string X) := by rw [hc4 _ _ (by omega), hc3 _ _ (by first | (simp; done) | (simp; omega))]; (go_simp <;> rfl)
          have p2 : w4.cell? ⟨w.heap.size + 1, 2, none⟩ = some (.string X) := by rw [hc4 _ _ (by omega), hc3 _ _ (by first | (simp; done) | (simp; omega))]; (go_simp <;> rfl)
          refine bodyPost_ret (v := .tuple #[.agg #[.bool false, .string ⟨#[]⟩, .string ⟨#[]⟩], .int .i64 3]) (by simp [results, Tryd.results15, go_sem, q0, q1, q2] <;> rfl) rfl ⟨by rw [HV.out], ?_⟩
          (with_reducible repeat (first | exact Below.refl _ _ | refine Below.setCell ?_ (by first | (simp; done) | (simp; omega)) _ | refine Below.alloc ?_ (by first | (simp; done) | (simp; omega)) _ | refine below_drewN ?_ _ | refine Below.trans ?_ (hb4.mono (by omega)) | refine Below.trans ?_ (hb3.mono (by first | (simp; done) | (simp; omega)))))
      | true =>
        have hv := pn1 hL hf hat (by rw [hF])
        have hne : X.data.toList ≠ [] := by intro e; rw [e] at hF; have := side_nil; rw [hF] at this; cases this
        have ne1 : (X.toList == []) = false := by rw [nil_toList]; exact beq_eq_false_iff_ne.2 hne
        have ne2 : X.toList.isEmpty = false := by rw [nil_toList]; cases h : X.data.toList with | nil => exact absurd h hne | cons a t => rfl
        clear hne
        cases F2 with
        | true =>
          have HV : Hid (V = .tuple #[.agg #[.bool true, .string X, .string X], .int .i64 0]) := Lib.hid (by rw [← hV.out, hv]; first | rfl | simp only [specV, S_of, S_take, S_drop])
          clear hV
          have cF : ∀ w, Calls Tryd.prog 34 #[.string X] w fun e w' => e = .returned (.tuple #[.bool true, .bool true]) ∧ Below w.heap.size w w' := fun w => by have := may_any X w (by omega); rw [hF] at this; exact this
          have cD : ∀ w, Calls Tryd.prog 34 #[.string X] w fun e w' => e = .returned (.tuple #[.bool true, .bool true]) ∧ Below w.heap.size w w' := fun w => by have := may_any X w (by omega); rw [hD] at this; exact this
          clear hF hD hL hf hat
          have tok1 : True := trivial
          go_wp2_with (first
            | (go_at_call 34; have tk1 := tok1; refine (cF _).mono ?_; rintro e w3 ⟨rfl, hb3⟩; obtain ⟨hc3, hf3⟩ := bcell hb3; have hz3 : w.heap.size + 1 < w3.heap.size := (by have h := hb3.size; simp at h; omega); have hz3b : w.heap.size < w3.heap.size := (by omega); clear tok1)
            | (go_at_call 34; refine (cD _).mono ?_; rintro e w4 ⟨rfl, hb4⟩; obtain ⟨hc4, hf4⟩ := bcell hb4; have hz4 : w.heap.size + 1 < w4.heap.size := (by have h := hb4.size; omega); have hz4b : w.heap.size < w4.heap.size := (by omega)))
          have q0 : w4.cell? ⟨w.heap.size, 0, none⟩ = some (.bool false) := by rw [hc4 _ _ (by omega), hc3 _ _ (by first | (simp; done) | (simp; omega))]; (go_simp <;> rfl)
          have q1 : w4.cell? ⟨w.heap.size, 1, none⟩ = some (.string ⟨#[]⟩) := by rw [hc4 _ _ (by omega), hc3 _ _ (by first | (simp; done) | (simp; omega))]; (go_simp <;> rfl)
          have q2 : w4.cell? ⟨w.heap.size, 2, none⟩ = some (.string ⟨#[]⟩) := by rw [hc4 _ _ (by omega), hc3 _ _ (by first | (simp; done) | (simp; omega))]; (go_simp <;> rfl)
          have p0 : w4.cell? ⟨w.heap.size + 1, 0, none⟩ = some (.bool true) := by rw [hc4 _ _ (by omega), hc3 _ _ (by first | (simp; done) | (simp; omega))]; (go_simp <;> rfl)
          have p1 : w4.cell? ⟨w.heap.size + 1, 1, none⟩ = some (.string X) := by rw [hc4 _ _ (by omega), hc3 _ _ (by first | (simp; done) | (simp; omega))]; (go_simp <;> rfl)
          have p2 : w4.cell? ⟨w.heap.size + 1, 2, none⟩ = some (.string X) := by rw [hc4 _ _ (by omega), hc3 _ _ (by first | (simp; done) | (simp; omega))]; (go_simp <;> rfl)
          refine bodyPost_ret (v := .tuple #[.agg #[.bool true, .string X, .string X], .int .i64 0]) (by simp [results, Tryd.results15, go_sem, q0, q1, q2] <;> rfl) rfl ⟨by rw [HV.out], ?_⟩
          (with_reducible repeat (first | exact Below.refl _ _ | refine Below.setCell ?_ (by first | (simp; done) | (simp; omega)) _ | refine Below.alloc ?_ (by first | (simp; done) | (simp; omega)) _ | refine below_drewN ?_ _ | refine Below.trans ?_ (hb4.mono (by omega)) | refine Below.trans ?_ (hb3.mono (by first | (simp; done) | (simp; omega)))))
        | false =>
          have HV : Hid (V = .tuple #[.agg #[.bool true, .string X, .string X], .int .i64 0]) := Lib.hid (by rw [← hV.out, hv]; first | rfl | simp only [specV, S_of, S_take, S_drop])
          clear hV
          have cF : ∀ w, Calls Tryd.prog 34 #[.string X] w fun e w' => e = .returned (.tuple #[.bool true, .bool false]) ∧ Below w.heap.size w w' := fun w => by have := may_any X w (by omega); rw [hF] at this; exact this
          have cD : ∀ w, Calls Tryd.prog 34 #[.string X] w fun e w' => e = .returned (.tuple #[.bool true, .bool false]) ∧ Below w.heap.size w w' := fun w => by have := may_any X w (by omega); rw [hD] at this; exact this
          clear hF hD hL hf hat
          have tok1 : True := trivial
          go_wp2_with (first
            | (go_at_call 34; have tk1 := tok1; refine (cF _).mono ?_; rintro e w3 ⟨rfl, hb3⟩; obtain ⟨hc3, hf3⟩ := bcell hb3; have hz3 : w.heap.size + 1 < w3.heap.size := (by have h := hb3.size; simp at h; omega); have hz3b : w.heap.size < w3.heap.size := (by omega); clear tok1)
            | (go_at_call 34; refine (cD _).mono ?_; rintro e w4 ⟨rfl, hb4⟩; obtain ⟨hc4, hf4⟩ := bcell hb4; have hz4 : w.heap.size + 1 < w4.heap.size := (by have h := hb4.size; omega); have hz4b : w.heap.size < w4.heap.size := (by omega)))
          have q0 : w4.cell? ⟨w.heap.size, 0, none⟩ = some (.bool false) := by rw [hc4 _ _ (by omega), hc3 _ _ (by first | (simp; done) | (simp; omega))]; (go_simp <;> rfl)
          have q1 : w4.cell? ⟨w.heap.size, 1, none⟩ = some (.string ⟨#[]⟩) := by rw [hc4 _ _ (by omega), hc3 _ _ (by first | (simp; done) | (simp; omega))]; (go_simp <;> rfl)
          have q2 : w4.cell? ⟨w.heap.size, 2, none⟩ = some (.string ⟨#[]⟩) := by rw [hc4 _ _ (by omega), hc3 _ _ (by first | (simp; done) | (simp; omega))]; (go_simp <;> rfl)
          have p0 : w4.cell? ⟨w.heap.size + 1, 0, none⟩ = some (.bool true) := by rw [hc4 _ _ (by omega), hc3 _ _ (by first | (simp; done) | (simp; omega))]; (go_simp <;> rfl)
          have p1 : w4.cell? ⟨w.heap.size + 1, 1, none⟩ = some (.string X) := by rw [hc4 _ _ (by omega), hc3 _ _ (by first | (simp; done) | (simp; omega))]; (go_simp <;> rfl)
          have p2 : w4.cell? ⟨w.heap.size + 1, 2, none⟩ = some (.string X) := by rw [hc4 _ _ (by omega), hc3 _ _ (by first | (simp; done) | (simp; omega))]; (go_simp <;> rfl)
          refine bodyPost_ret (v := .tuple #[.agg #[.bool true, .string X, .string X], .int .i64 0]) (by simp [results, Tryd.results15, go_sem, q0, q1, q2] <;> rfl) rfl ⟨by rw [HV.out], ?_⟩
          (with_reducible repeat (first | exact Below.refl _ _ | refine Below.setCell ?_ (by first | (simp; done) | (simp; omega)) _ | refine Below.alloc ?_ (by first | (simp; done) | (simp; omega)) _ | refine below_drewN ?_ _ | refine Below.trans ?_ (hb4.mono (by omega)) | refine Below.trans ?_ (hb3.mono (by first | (simp; done) | (simp; omega)))))

set_option maxHeartbeats 4000000 in
set_option maxRecDepth 1000000 in
theorem rparse_f (s : ByteArray) (V : Value) (w : World) (hs : s.size ≤ 140737488351232) (h0 : 0 < s.size) (h43 : s[0]'h0 ≠ 43) (hV : Hid (specV (parseL s.data.toList) = V)) (hL : noPlus s.data.toList = s.data.toList) (hf : plus s.data.toList = false) :
    Calls Tryd.prog 15 #[.string s] w fun e w' => e = .returned V ∧ Below w.heap.size w w' := by
  have hss := set_twice
  have h1 : (0 : Int) < (s.size : Int) := by omega
  have h2 : (((s[0]'h0).toNat : Int) == 43) = false := by
    rw [beq_eq_false_iff_ne]; intro e; exact h43 (UInt8.toNat_inj.1 (by simpa using (by omega : (s[0]'h0).toNat = 43)))
  go_enter Tryd.func15, Tryd.ntmps15
  go_wp2
  go_loop [5, 6] (fun a i => ∃ k : Nat, k ≤ s.size ∧ i = .int .i64 k ∧ a = .int .i64 (-1) ∧ (58 : UInt8) ∉ s.data.toList.take k) (fun _ i => s.size - (RowKit.intOf i).toNat)
  case atStart => exact ⟨0, by omega, rfl, rfl, by simp⟩
  case round =>
    obtain ⟨k, hk, rfl, rfl, hn⟩ := hrel
    by_cases hlt : k < s.size
    · have g1 : (k : Int) < (s.size : Int) := by omega
      by_cases c : s[k]'hlt = 58
      · have c1 : (((s[k]'hlt).toNat : Int) == 58) = true := by rw [c]; rfl
        have hat : at1 58 s.data.toList = some k := at_some s hlt c hn
        have g2 : (0 : Int) ≤ (k : Int) := by omega
        have g3 : IntKind.i64.wrap ((k : Int) + 1) = (k : Int) + 1 := IntWalk.i64_in _ (by omega)
        have g4 : (k : Int) + 1 ≤ (s.size : Int) := by omega
        have g5 : (0 : Int) ≤ (k : Int) + 1 := by omega
        have g6 : ((k : Int) + 1).toNat = k + 1 := by omega
        have g7 : (k : Int) ≤ (s.size : Int) := by omega
        have g8 : k + 1 ≤ s.size := by omega
        have n1 : (s.extract 0 k).size = k := by rw [ByteArray.size_extract]; omega
        have n2 : (s.extract (k + 1) s.size).size = s.size - (k + 1) := by rw [ByteArray.size_extract]; omega
        clear hn
        by_cases hk0 : k = 0
        · subst hk0
          have a0 : s.extract 0 0 = ⟨#[]⟩ := ex_nil s
          have hR := fun a b c d r hF hD hr => @ps1 s.data.toList s.data.toList 0 false a b c d r hL hf hat hF hD hr
          rw [show s.data.toList.take 0 = (⟨#[]⟩ : ByteArray).data.toList from rfl, ← ext_from] at hR
          obtain ⟨⟨F1, F2⟩, hF⟩ : ∃ p, sideL (⟨#[]⟩ : ByteArray).data.toList = p := ⟨_, rfl⟩
          obtain ⟨⟨D1, D2⟩, hD⟩ : ∃ p, sideL (s.extract 1 s.size).data.toList = p := ⟨_, rfl⟩
          have hv := hR _ _ _ _ _ hF hD rfl
          clear hR
          have zz : (⟨#[]⟩ : ByteArray).size = 0 := rfl
          have n2 : (s.extract 1 s.size).size = s.size - 1 := by rw [ByteArray.size_extract]; omega
          cases D1 with
          | false =>
            have HV : Hid (V = .tuple #[.agg #[.bool false, .string ⟨#[]⟩, .string ⟨#[]⟩], .int .i64 3]) := Lib.hid (by rw [← hV.out, hv]; first | rfl | simp only [specV, S_of, S_take, S_drop])
            clear hV
            have cF : ∀ w, Calls Tryd.prog 34 #[.string ⟨#[]⟩] w fun e w' => e = .returned (.tuple #[.bool F1, .bool F2]) ∧ Below w.heap.size w w' := fun w => by have := may_any ⟨#[]⟩ w (by omega); rw [hF] at this; exact this
            have cD : ∀ w, Calls Tryd.prog 34 #[.string (s.extract 1 s.size)] w fun e w' => e = .returned (.tuple #[.bool false, .bool D2]) ∧ Below w.heap.size w w' := fun w => by have := may_any (s.extract 1 s.size) w (by omega); rw [hD] at this; exact this
            clear hF hD hL hf hat
            have tok1 : True := trivial
            go_wp2_with (first
              | (go_at_call 34; have tk1 := tok1; refine (cF _).mono ?_; rintro e w3 ⟨rfl, hb3⟩; obtain ⟨hc3, hf3⟩ := bcell hb3; have hz3 : w.heap.size + 1 < w3.heap.size := (by have h := hb3.size; simp at h; omega); have hz3b : w.heap.size < w3.heap.size := (by omega); clear tok1)
              | (go_at_call 34; refine (cD _).mono ?_; rintro e w4 ⟨rfl, hb4⟩; obtain ⟨hc4, hf4⟩ := bcell hb4; have hz4 : w.heap.size + 1 < w4.heap.size := (by have h := hb4.size; omega); have hz4b : w.heap.size < w4.heap.size := (by omega)))
            have q0 : w4.cell? ⟨w.heap.size, 0, none⟩ = some (.bool false) := by rw [hc4 _ _ (by omega), hc3 _ _ (by first | (simp; done) | (simp; omega))]; (go_simp <;> rfl)
            have q1 : w4.cell? ⟨w.heap.size, 1, none⟩ = some (.string ⟨#[]⟩) := by rw [hc4 _ _ (by omega), hc3 _ _ (by first | (simp; done) | (simp; omega))]; (go_simp <;> rfl)
            have q2 : w4.cell? ⟨w.heap.size, 2, none⟩ = some (.string ⟨#[]⟩) := by rw [hc4 _ _ (by omega), hc3 _ _ (by first | (simp; done) | (simp; omega))]; (go_simp <;> rfl)
            have p0 : w4.cell? ⟨w.heap.size + 1, 0, none⟩ = some (.bool false) := by rw [hc4 _ _ (by omega), hc3 _ _ (by first | (simp; done) | (simp; omega))]; (go_simp <;> rfl)
            have p1 : w4.cell? ⟨w.heap.size + 1, 1, none⟩ = some (.string ⟨#[]⟩) := by rw [hc4 _ _ (by omega), hc3 _ _ (by first | (simp; done) | (simp; omega))]; (go_simp <;> rfl)
            have p2 : w4.cell? ⟨w.heap.size + 1, 2, none⟩ = some (.string (s.extract 1 s.size)) := by rw [hc4 _ _ (by omega), hc3 _ _ (by first | (simp; done) | (simp; omega))]; (go_simp <;> rfl)
            refine bodyPost_ret (v := .tuple #[.agg #[.bool false, .string ⟨#[]⟩, .string ⟨#[]⟩], .int .i64 3]) (by simp [results, Tryd.results15, go_sem, q0, q1, q2] <;> rfl) rfl ⟨by rw [HV.out], ?_⟩
            (with_reducible repeat (first | exact Below.refl _ _ | refine Below.setCell ?_ (by first | (simp; done) | (simp; omega)) _ | refine Below.alloc ?_ (by first | (simp; done) | (simp; omega)) _ | refine below_drewN ?_ _ | refine Below.trans ?_ (hb4.mono (by omega)) | refine Below.trans ?_ (hb3.mono (by first | (simp; done) | (simp; omega)))))
          | true =>
            cases D2 with
            | true =>
              have HV : Hid (V = .tuple #[.agg #[.bool false, .string ⟨#[]⟩, .string ⟨#[]⟩], .int .i64 3]) := Lib.hid (by rw [← hV.out, hv]; first | rfl | simp only [specV, S_of, S_take, S_drop])
              clear hV
              have cF : ∀ w, Calls Tryd.prog 34 #[.string ⟨#[]⟩] w fun e w' => e = .returned (.tuple #[.bool F1, .bool F2]) ∧ Below w.heap.size w w' := fun w => by have := may_any ⟨#[]⟩ w (by omega); rw [hF] at this; exact this
              have cD : ∀ w, Calls Tryd.prog 34 #[.string (s.extract 1 s.size)] w fun e w' => e = .returned (.tuple #[.bool true, .bool true]) ∧ Below w.heap.size w w' := fun w => by have := may_any (s.extract 1 s.size) w (by omega); rw [hD] at this; exact this
              clear hF hD hL hf hat
              have tok1 : True := trivial
              go_wp2_with (first
                | (go_at_call 34; have tk1 := tok1; refine (cF _).mono ?_; rintro e w3 ⟨rfl, hb3⟩; obtain ⟨hc3, hf3⟩ := bcell hb3; have hz3 : w.heap.size + 1 < w3.heap.size := (by have h := hb3.size; simp at h; omega); have hz3b : w.heap.size < w3.heap.size := (by omega); clear tok1)
                | (go_at_call 34; refine (cD _).mono ?_; rintro e w4 ⟨rfl, hb4⟩; obtain ⟨hc4, hf4⟩ := bcell hb4; have hz4 : w.heap.size + 1 < w4.heap.size := (by have h := hb4.size; omega); have hz4b : w.heap.size < w4.heap.size := (by omega)))
              have q0 : w4.cell? ⟨w.heap.size, 0, none⟩ = some (.bool false) := by rw [hc4 _ _ (by omega), hc3 _ _ (by first | (simp; done) | (simp; omega))]; (go_simp <;> rfl)
              have q1 : w4.cell? ⟨w.heap.size, 1, none⟩ = some (.string ⟨#[]⟩) := by rw [hc4 _ _ (by omega), hc3 _ _ (by first | (simp; done) | (simp; omega))]; (go_simp <;> rfl)
              have q2 : w4.cell? ⟨w.heap.size, 2, none⟩ = some (.string ⟨#[]⟩) := by rw [hc4 _ _ (by omega), hc3 _ _ (by first | (simp; done) | (simp; omega))]; (go_simp <;> rfl)
              have p0 : w4.cell? ⟨w.heap.size + 1, 0, none⟩ = some (.bool false) := by rw [hc4 _ _ (by omega), hc3 _ _ (by first | (simp; done) | (simp; omega))]; (go_simp <;> rfl)
              have p1 : w4.cell? ⟨w.heap.size + 1, 1, none⟩ = some (.string ⟨#[]⟩) := by rw [hc4 _ _ (by omega), hc3 _ _ (by first | (simp; done) | (simp; omega))]; (go_simp <;> rfl)
              have p2 : w4.cell? ⟨w.heap.size + 1, 2, none⟩ = some (.string (s.extract 1 s.size)) := by rw [hc4 _ _ (by omega), hc3 _ _ (by first | (simp; done) | (simp; omega))]; (go_simp <;> rfl)
              refine bodyPost_ret (v := .tuple #[.agg #[.bool false, .string ⟨#[]⟩, .string ⟨#[]⟩], .int .i64 3]) (by simp [results, Tryd.results15, go_sem, q0, q1, q2] <;> rfl) rfl ⟨by rw [HV.out], ?_⟩
              (with_reducible repeat (first | exact Below.refl _ _ | refine Below.setCell ?_ (by first | (simp; done) | (simp; omega)) _ | refine Below.alloc ?_ (by first | (simp; done) | (simp; omega)) _ | refine below_drewN ?_ _ | refine Below.trans ?_ (hb4.mono (by omega)) | refine Below.trans ?_ (hb3.mono (by first | (simp; done) | (simp; omega)))))
            | false =>
              have HV : Hid (V = .tuple #[.agg #[.bool false, .string ⟨#[]⟩, .string (s.extract 1 s.size)], .int .i64 0]) := Lib.hid (by rw [← hV.out, hv]; first | rfl | simp only [specV, S_of, S_take, S_drop])
              clear hV
              have cF : ∀ w, Calls Tryd.prog 34 #[.string ⟨#[]⟩] w fun e w' => e = .returned (.tuple #[.bool F1, .bool F2]) ∧ Below w.heap.size w w' := fun w => by have := may_any ⟨#[]⟩ w (by omega); rw [hF] at this; exact this
              have cD : ∀ w, Calls Tryd.prog 34 #[.string (s.extract 1 s.size)] w fun e w' => e = .returned (.tuple #[.bool true, .bool false]) ∧ Below w.heap.size w w' := fun w => by have := may_any (s.extract 1 s.size) w (by omega); rw [hD] at this; exact this
              clear hF hD hL hf hat
              have tok1 : True := trivial
              go_wp2_with (first
                | (go_at_call 34; have tk1 := tok1; refine (cF _).mono ?_; rintro e w3 ⟨rfl, hb3⟩; obtain ⟨hc3, hf3⟩ := bcell hb3; have hz3 : w.heap.size + 1 < w3.heap.size := (by have h := hb3.size; simp at h; omega); have hz3b : w.heap.size < w3.heap.size := (by omega); clear tok1)
                | (go_at_call 34; refine (cD _).mono ?_; rintro e w4 ⟨rfl, hb4⟩; obtain ⟨hc4, hf4⟩ := bcell hb4; have hz4 : w.heap.size + 1 < w4.heap.size := (by have h := hb4.size; omega); have hz4b : w.heap.size < w4.heap.size := (by omega)))
              have q0 : w4.cell? ⟨w.heap.size, 0, none⟩ = some (.bool false) := by rw [hc4 _ _ (by omega), hc3 _ _ (by first | (simp; done) | (simp; omega))]; (go_simp <;> rfl)
              have q1 : w4.cell? ⟨w.heap.size, 1, none⟩ = some (.string ⟨#[]⟩) := by rw [hc4 _ _ (by omega), hc3 _ _ (by first | (simp; done) | (simp; omega))]; (go_simp <;> rfl)
              have q2 : w4.cell? ⟨w.heap.size, 2, none⟩ = some (.string ⟨#[]⟩) := by rw [hc4 _ _ (by omega), hc3 _ _ (by first | (simp; done) | (simp; omega))]; (go_simp <;> rfl)
              have p0 : w4.cell? ⟨w.heap.size + 1, 0, none⟩ = some (.bool false) := by rw [hc4 _ _ (by omega), hc3 _ _ (by first | (simp; done) | (simp; omega))]; (go_simp <;> rfl)
              have p1 : w4.cell? ⟨w.heap.size + 1, 1, none⟩ = some (.string ⟨#[]⟩) := by rw [hc4 _ _ (by omega), hc3 _ _ (by first | (simp; done) | (simp; omega))]; (go_simp <;> rfl)
              have p2 : w4.cell? ⟨w.heap.size + 1, 2, none⟩ = some (.string (s.extract 1 s.size)) := by rw [hc4 _ _ (by omega), hc3 _ _ (by first | (simp; done) | (simp; omega))]; (go_simp <;> rfl)
              refine bodyPost_ret (v := .tuple #[.agg #[.bool false, .string ⟨#[]⟩, .string (s.extract 1 s.size)], .int .i64 0]) (by simp [results, Tryd.results15, go_sem, q0, q1, q2] <;> rfl) rfl ⟨by rw [HV.out], ?_⟩
              (with_reducible repeat (first | exact Below.refl _ _ | refine Below.setCell ?_ (by first | (simp; done) | (simp; omega)) _ | refine Below.alloc ?_ (by first | (simp; done) | (simp; omega)) _ | refine below_drewN ?_ _ | refine Below.trans ?_ (hb4.mono (by omega)) | refine Below.trans ?_ (hb3.mono (by first | (simp; done) | (simp; omega)))))
        · have hne : (s.extract 0 k).data.toList ≠ [] := by intro e; have e2 := congrArg List.length e; rw [← Lib.size_eq, n1] at e2; simp at e2; omega
          have ne1 : ((s.extract 0 k).toList == []) = false := by rw [nil_toList]; exact beq_eq_false_iff_ne.2 hne
          have ne2 : (s.extract 0 k).toList.isEmpty = false := by rw [nil_toList]; cases h : (s.extract 0 k).data.toList with | nil => exact absurd h hne | cons a t => rfl
          have hR := fun a b c d r hF hD hr => @ps1 s.data.toList s.data.toList k false a b c d r hL hf hat hF hD hr
          rw [← ext_to, ← ext_from] at hR
          obtain ⟨⟨F1, F2⟩, hF⟩ : ∃ p, sideL (s.extract 0 k).data.toList = p := ⟨_, rfl⟩
          obtain ⟨⟨D1, D2⟩, hD⟩ : ∃ p, sideL (s.extract (k + 1) s.size).data.toList = p := ⟨_, rfl⟩
          have hv := hR _ _ _ _ _ hF hD rfl
          clear hR
          simp only [if_neg hne] at hv
          clear hne
          cases F1 with
          | false =>
            replace hv : parseL s.data.toList = none := by rw [hv]; cases D1 <;> simp
            have HV : Hid (V = .tuple #[.agg #[.bool false, .string ⟨#[]⟩, .string ⟨#[]⟩], .int .i64 3]) := Lib.hid (by rw [← hV.out, hv]; first | rfl | simp only [specV, S_of, S_take, S_drop])
            clear hV
            have cF : ∀ w, Calls Tryd.prog 34 #[.string (s.extract 0 k)] w fun e w' => e = .returned (.tuple #[.bool false, .bool F2]) ∧ Below w.heap.size w w' := fun w => by have := may_any (s.extract 0 k) w (by omega); rw [hF] at this; exact this
            have cD : ∀ w, Calls Tryd.prog 34 #[.string (s.extract (k + 1) s.size)] w fun e w' => e = .returned (.tuple #[.bool D1, .bool D2]) ∧ Below w.heap.size w w' := fun w => by have := may_any (s.extract (k + 1) s.size) w (by omega); rw [hD] at this; exact this
            clear hF hD hL hf hat
            have tok1 : True := trivial
            go_wp2_with (first
              | (go_at_call 34; have tk1 := tok1; refine (cF _).mono ?_; rintro e w3 ⟨rfl, hb3⟩; obtain ⟨hc3, hf3⟩ := bcell hb3; have hz3 : w.heap.size + 1 < w3.heap.size := (by have h := hb3.size; simp at h; omega); have hz3b : w.heap.size < w3.heap.size := (by omega); clear tok1)
              | (go_at_call 34; refine (cD _).mono ?_; rintro e w4 ⟨rfl, hb4⟩; obtain ⟨hc4, hf4⟩ := bcell hb4; have hz4 : w.heap.size + 1 < w4.heap.size := (by have h := hb4.size; omega); have hz4b : w.heap.size < w4.heap.size := (by omega)))
            have q0 : w4.cell? ⟨w.heap.size, 0, none⟩ = some (.bool false) := by rw [hc4 _ _ (by omega), hc3 _ _ (by first | (simp; done) | (simp; omega))]; (go_simp <;> rfl)
            have q1 : w4.cell? ⟨w.heap.size, 1, none⟩ = some (.string ⟨#[]⟩) := by rw [hc4 _ _ (by omega), hc3 _ _ (by first | (simp; done) | (simp; omega))]; (go_simp <;> rfl)
            have q2 : w4.cell? ⟨w.heap.size, 2, none⟩ = some (.string ⟨#[]⟩) := by rw [hc4 _ _ (by omega), hc3 _ _ (by first | (simp; done) | (simp; omega))]; (go_simp <;> rfl)
            have p0 : w4.cell? ⟨w.heap.size + 1, 0, none⟩ = some (.bool false) := by rw [hc4 _ _ (by omega), hc3 _ _ (by first | (simp; done) | (simp; omega))]; (go_simp <;> rfl)
            have p1 : w4.cell? ⟨w.heap.size + 1, 1, none⟩ = some (.string (s.extract 0 k)) := by rw [hc4 _ _ (by omega), hc3 _ _ (by first | (simp; done) | (simp; omega))]; (go_simp <;> rfl)
            have p2 : w4.cell? ⟨w.heap.size + 1, 2, none⟩ = some (.string (s.extract (k + 1) s.size)) := by rw [hc4 _ _ (by omega), hc3 _ _ (by first | (simp; done) | (simp; omega))]; (go_simp <;> rfl)
            refine bodyPost_ret (v := .tuple #[.agg #[.bool false, .string ⟨#[]⟩, .string ⟨#[]⟩], .int .i64 3]) (by simp [results, Tryd.results15, go_sem, q0, q1, q2] <;> rfl) rfl ⟨by rw [HV.out], ?_⟩
            (with_reducible repeat (first | exact Below.refl _ _ | refine Below.setCell ?_ (by first | (simp; done) | (simp; omega)) _ | refine Below.alloc ?_ (by first | (simp; done) | (simp; omega)) _ | refine below_drewN ?_ _ | refine Below.trans ?_ (hb4.mono (by omega)) | refine Below.trans ?_ (hb3.mono (by first | (simp; done) | (simp; omega)))))
          | true =>
            cases D1 with
            | false =>
              have HV : Hid (V = .tuple #[.agg #[.bool false, .string ⟨#[]⟩, .string ⟨#[]⟩], .int .i64 3]) := Lib.hid (by rw [← hV.out, hv]; first | rfl | simp only [specV, S_of, S_take, S_drop])
              clear hV
              have cF : ∀ w, Calls Tryd.prog 34 #[.string (s.extract 0 k)] w fun e w' => e = .returned (.tuple #[.bool true, .bool F2]) ∧ Below w.heap.size w w' := fun w => by have := may_any (s.extract 0 k) w (by omega); rw [hF] at this; exact this
              have cD : ∀ w, Calls Tryd.prog 34 #[.string (s.extract (k + 1) s.size)] w fun e w' => e = .returned (.tuple #[.bool false, .bool D2]) ∧ Below w.heap.size w w' := fun w => by have := may_any (s.extract (k + 1) s.size) w (by omega); rw [hD] at this; exact this
              clear hF hD hL hf hat
              have tok1 : True := trivial
              go_wp2_with (first
                | (go_at_call 34; have tk1 := tok1; refine (cF _).mono ?_; rintro e w3 ⟨rfl, hb3⟩; obtain ⟨hc3, hf3⟩ := bcell hb3; have hz3 : w.heap.size + 1 < w3.heap.size := (by have h := hb3.size; simp at h; omega); have hz3b : w.heap.size < w3.heap.size := (by omega); clear tok1)
                | (go_at_call 34; refine (cD _).mono ?_; rintro e w4 ⟨rfl, hb4⟩; obtain ⟨hc4, hf4⟩ := bcell hb4; have hz4 : w.heap.size + 1 < w4.heap.size := (by have h := hb4.size; omega); have hz4b : w.heap.size < w4.heap.size := (by omega)))
              have q0 : w4.cell? ⟨w.heap.size, 0, none⟩ = some (.bool false) := by rw [hc4 _ _ (by omega), hc3 _ _ (by first | (simp; done) | (simp; omega))]; (go_simp <;> rfl)
              have q1 : w4.cell? ⟨w.heap.size, 1, none⟩ = some (.string ⟨#[]⟩) := by rw [hc4 _ _ (by omega), hc3 _ _ (by first | (simp; done) | (simp; omega))]; (go_simp <;> rfl)
              have q2 : w4.cell? ⟨w.heap.size, 2, none⟩ = some (.string ⟨#[]⟩) := by rw [hc4 _ _ (by omega), hc3 _ _ (by first | (simp; done) | (simp; omega))]; (go_simp <;> rfl)
              have p0 : w4.cell? ⟨w.heap.size + 1, 0, none⟩ = some (.bool false) := by rw [hc4 _ _ (by omega), hc3 _ _ (by first | (simp; done) | (simp; omega))]; (go_simp <;> rfl)
              have p1 : w4.cell? ⟨w.heap.size + 1, 1, none⟩ = some (.string (s.extract 0 k)) := by rw [hc4 _ _ (by omega), hc3 _ _ (by first | (simp; done) | (simp; omega))]; (go_simp <;> rfl)
              have p2 : w4.cell? ⟨w.heap.size + 1, 2, none⟩ = some (.string (s.extract (k + 1) s.size)) := by rw [hc4 _ _ (by omega), hc3 _ _ (by first | (simp; done) | (simp; omega))]; (go_simp <;> rfl)
              refine bodyPost_ret (v := .tuple #[.agg #[.bool false, .string ⟨#[]⟩, .string ⟨#[]⟩], .int .i64 3]) (by simp [results, Tryd.results15, go_sem, q0, q1, q2] <;> rfl) rfl ⟨by rw [HV.out], ?_⟩
              (with_reducible repeat (first | exact Below.refl _ _ | refine Below.setCell ?_ (by first | (simp; done) | (simp; omega)) _ | refine Below.alloc ?_ (by first | (simp; done) | (simp; omega)) _ | refine below_drewN ?_ _ | refine Below.trans ?_ (hb4.mono (by omega)) | refine Below.trans ?_ (hb3.mono (by first | (simp; done) | (simp; omega)))))
            | true =>
              cases F2 with
              | true =>
                cases D2 with
                | true =>
                  have HV : Hid (V = .tuple #[.agg #[.bool false, .string (s.extract 0 k), .string (s.extract (k + 1) s.size)], .int .i64 0]) := Lib.hid (by rw [← hV.out, hv]; first | rfl | simp only [specV, S_of, S_take, S_drop])
                  clear hV
                  have cF : ∀ w, Calls Tryd.prog 34 #[.string (s.extract 0 k)] w fun e w' => e = .returned (.tuple #[.bool true, .bool true]) ∧ Below w.heap.size w w' := fun w => by have := may_any (s.extract 0 k) w (by omega); rw [hF] at this; exact this
                  have cD : ∀ w, Calls Tryd.prog 34 #[.string (s.extract (k + 1) s.size)] w fun e w' => e = .returned (.tuple #[.bool true, .bool true]) ∧ Below w.heap.size w w' := fun w => by have := may_any (s.extract (k + 1) s.size) w (by omega); rw [hD] at this; exact this
                  clear hF hD hL hf hat
                  have tok1 : True := trivial
                  go_wp2_with (first
                    | (go_at_call 34; have tk1 := tok1; refine (cF _).mono ?_; rintro e w3 ⟨rfl, hb3⟩; obtain ⟨hc3, hf3⟩ := bcell hb3; have hz3 : w.heap.size + 1 < w3.heap.size := (by have h := hb3.size; simp at h; omega); have hz3b : w.heap.size < w3.heap.size := (by omega); clear tok1)
                    | (go_at_call 34; refine (cD _).mono ?_; rintro e w4 ⟨rfl, hb4⟩; obtain ⟨hc4, hf4⟩ := bcell hb4; have hz4 : w.heap.size + 1 < w4.heap.size := (by have h := hb4.size; omega); have hz4b : w.heap.size < w4.heap.size := (by omega)))
                  have q0 : w4.cell? ⟨w.heap.size, 0, none⟩ = some (.bool false) := by rw [hc4 _ _ (by omega), hc3 _ _ (by first | (simp; done) | (simp; omega))]; (go_simp <;> rfl)
                  have q1 : w4.cell? ⟨w.heap.size, 1, none⟩ = some (.string ⟨#[]⟩) := by rw [hc4 _ _ (by omega), hc3 _ _ (by first | (simp; done) | (simp; omega))]; (go_simp <;> rfl)
                  have q2 : w4.cell? ⟨w.heap.size, 2, none⟩ = some (.string ⟨#[]⟩) := by rw [hc4 _ _ (by omega), hc3 _ _ (by first | (simp; done) | (simp; omega))]; (go_simp <;> rfl)
                  have p0 : w4.cell? ⟨w.heap.size + 1, 0, none⟩ = some (.bool false) := by rw [hc4 _ _ (by omega), hc3 _ _ (by first | (simp; done) | (simp; omega))]; (go_simp <;> rfl)
                  have p1 : w4.cell? ⟨w.heap.size + 1, 1, none⟩ = some (.string (s.extract 0 k)) := by rw [hc4 _ _ (by omega), hc3 _ _ (by first | (simp; done) | (simp; omega))]; (go_simp <;> rfl)
                  have p2 : w4.cell? ⟨w.heap.size + 1, 2, none⟩ = some (.string (s.extract (k + 1) s.size)) := by rw [hc4 _ _ (by omega), hc3 _ _ (by first | (simp; done) | (simp; omega))]; (go_simp <;> rfl)
                  refine bodyPost_ret (v := .tuple #[.agg #[.bool false, .string (s.extract 0 k), .string (s.extract (k + 1) s.size)], .int .i64 0]) (by simp [results, Tryd.results15, go_sem, q0, q1, q2] <;> rfl) rfl ⟨by rw [HV.out], ?_⟩
                  (with_reducible repeat (first | exact Below.refl _ _ | refine Below.setCell ?_ (by first | (simp; done) | (simp; omega)) _ | refine Below.alloc ?_ (by first | (simp; done) | (simp; omega)) _ | refine below_drewN ?_ _ | refine Below.trans ?_ (hb4.mono (by omega)) | refine Below.trans ?_ (hb3.mono (by first | (simp; done) | (simp; omega)))))
                | false =>
                  have HV : Hid (V = .tuple #[.agg #[.bool false, .string ⟨#[]⟩, .string ⟨#[]⟩], .int .i64 3]) := Lib.hid (by rw [← hV.out, hv]; first | rfl | simp only [specV, S_of, S_take, S_drop])
                  clear hV
                  have cF : ∀ w, Calls Tryd.prog 34 #[.string (s.extract 0 k)] w fun e w' => e = .returned (.tuple #[.bool true, .bool true]) ∧ Below w.heap.size w w' := fun w => by have := may_any (s.extract 0 k) w (by omega); rw [hF] at this; exact this
                  have cD : ∀ w, Calls Tryd.prog 34 #[.string (s.extract (k + 1) s.size)] w fun e w' => e = .returned (.tuple #[.bool true, .bool false]) ∧ Below w.heap.size w w' := fun w => by have := may_any (s.extract (k + 1) s.size) w (by omega); rw [hD] at this; exact this
                  clear hF hD hL hf hat
                  have tok1 : True := trivial
                  go_wp2_with (first
                    | (go_at_call 34; have tk1 := tok1; refine (cF _).mono ?_; rintro e w3 ⟨rfl, hb3⟩; obtain ⟨hc3, hf3⟩ := bcell hb3; have hz3 : w.heap.size + 1 < w3.heap.size := (by have h := hb3.size; simp at h; omega); have hz3b : w.heap.size < w3.heap.size := (by omega); clear tok1)
                    | (go_at_call 34; refine (cD _).mono ?_; rintro e w4 ⟨rfl, hb4⟩; obtain ⟨hc4, hf4⟩ := bcell hb4; have hz4 : w.heap.size + 1 < w4.heap.size := (by have h := hb4.size; omega); have hz4b : w.heap.size < w4.heap.size := (by omega)))
                  have q0 : w4.cell? ⟨w.heap.size, 0, none⟩ = some (.bool false) := by rw [hc4 _ _ (by omega), hc3 _ _ (by first | (simp; done) | (simp; omega))]; (go_simp <;> rfl)
                  have q1 : w4.cell? ⟨w.heap.size, 1, none⟩ = some (.string ⟨#[]⟩) := by rw [hc4 _ _ (by omega), hc3 _ _ (by first | (simp; done) | (simp; omega))]; (go_simp <;> rfl)
                  have q2 : w4.cell? ⟨w.heap.size, 2, none⟩ = some (.string ⟨#[]⟩) := by rw [hc4 _ _ (by omega), hc3 _ _ (by first | (simp; done) | (simp; omega))]; (go_simp <;> rfl)
                  have p0 : w4.cell? ⟨w.heap.size + 1, 0, none⟩ = some (.bool false) := by rw [hc4 _ _ (by omega), hc3 _ _ (by first | (simp; done) | (simp; omega))]; (go_simp <;> rfl)
                  have p1 : w4.cell? ⟨w.heap.size + 1, 1, none⟩ = some (.string (s.extract 0 k)) := by rw [hc4 _ _ (by omega), hc3 _ _ (by first | (simp; done) | (simp; omega))]; (go_simp <;> rfl)
                  have p2 : w4.cell? ⟨w.heap.size + 1, 2, none⟩ = some (.string (s.extract (k + 1) s.size)) := by rw [hc4 _ _ (by omega), hc3 _ _ (by first | (simp; done) | (simp; omega))]; (go_simp <;> rfl)
                  refine bodyPost_ret (v := .tuple #[.agg #[.bool false, .string ⟨#[]⟩, .string ⟨#[]⟩], .int .i64 3]) (by simp [results, Tryd.results15, go_sem, q0, q1, q2] <;> rfl) rfl ⟨by rw [HV.out], ?_⟩
                  (with_reducible repeat (first | exact Below.refl _ _ | refine Below.setCell ?_ (by first | (simp; done) | (simp; omega)) _ | refine Below.alloc ?_ (by first | (simp; done) | (simp; omega)) _ | refine below_drewN ?_ _ | refine Below.trans ?_ (hb4.mono (by omega)) | refine Below.trans ?_ (hb3.mono (by first | (simp; done) | (simp; omega)))))
              | false =>
                cases D2 with
                | true =>
                  have HV : Hid (V = .tuple #[.agg #[.bool false, .string ⟨#[]⟩, .string ⟨#[]⟩], .int .i64 3]) := Lib.hid (by rw [← hV.out, hv]; first | rfl | simp only [specV, S_of, S_take, S_drop])
                  clear hV
                  have cF : ∀ w, Calls Tryd.prog 34 #[.string (s.extract 0 k)] w fun e w' => e = .returned (.tuple #[.bool true, .bool false]) ∧ Below w.heap.size w w' := fun w => by have := may_any (s.extract 0 k) w (by omega); rw [hF] at this; exact this
                  have cD : ∀ w, Calls Tryd.prog 34 #[.string (s.extract (k + 1) s.size)] w fun e w' => e = .returned (.tuple #[.bool true, .bool true]) ∧ Below w.heap.size w w' := fun w => by have := may_any (s.extract (k + 1) s.size) w (by omega); rw [hD] at this; exact this
                  clear hF hD hL hf hat
                  have tok1 : True := trivial
                  go_wp2_with (first
                    | (go_at_call 34; have tk1 := tok1; refine (cF _).mono ?_; rintro e w3 ⟨rfl, hb3⟩; obtain ⟨hc3, hf3⟩ := bcell hb3; have hz3 : w.heap.size + 1 < w3.heap.size := (by have h := hb3.size; simp at h; omega); have hz3b : w.heap.size < w3.heap.size := (by omega); clear tok1)
                    | (go_at_call 34; refine (cD _).mono ?_; rintro e w4 ⟨rfl, hb4⟩; obtain ⟨hc4, hf4⟩ := bcell hb4; have hz4 : w.heap.size + 1 < w4.heap.size := (by have h := hb4.size; omega); have hz4b : w.heap.size < w4.heap.size := (by omega)))
                  have q0 : w4.cell? ⟨w.heap.size, 0, none⟩ = some (.bool false) := by rw [hc4 _ _ (by omega), hc3 _ _ (by first | (simp; done) | (simp; omega))]; (go_simp <;> rfl)
                  have q1 : w4.cell? ⟨w.heap.size, 1, none⟩ = some (.string ⟨#[]⟩) := by rw [hc4 _ _ (by omega), hc3 _ _ (by first | (simp; done) | (simp; omega))]; (go_simp <;> rfl)
                  have q2 : w4.cell? ⟨w.heap.size, 2, none⟩ = some (.string ⟨#[]⟩) := by rw [hc4 _ _ (by omega), hc3 _ _ (by first | (simp; done) | (simp; omega))]; (go_simp <;> rfl)
                  have p0 : w4.cell? ⟨w.heap.size + 1, 0, none⟩ = some (.bool false) := by rw [hc4 _ _ (by omega), hc3 _ _ (by first | (simp; done) | (simp; omega))]; (go_simp <;> rfl)
                  have p1 : w4.cell? ⟨w.heap.size + 1, 1, none⟩ = some (.string (s.extract 0 k)) := by rw [hc4 _ _ (by omega), hc3 _ _ (by first | (simp; done) | (simp; omega))]; (go_simp <;> rfl)
                  have p2 : w4.cell? ⟨w.heap.size + 1, 2, none⟩ = some (.string (s.extract (k + 1) s.size)) := by rw [hc4 _ _ (by omega), hc3 _ _ (by first | (simp; done) | (simp; omega))]; (go_simp <;> rfl)
                  refine bodyPost_ret (v := .tuple #[.agg #[.bool false, .string ⟨#[]⟩, .string ⟨#[]⟩], .int .i64 3]) (by simp [results, Tryd.results15, go_sem, q0, q1, q2] <;> rfl) rfl ⟨by rw [HV.out], ?_⟩
                  (with_reducible repeat (first | exact Below.refl _ _ | refine Below.setCell ?_ (by first | (simp; done) | (simp; omega)) _ | refine Below.alloc ?_ (by first | (simp; done) | (simp; omega)) _ | refine below_drewN ?_ _ | refine Below.trans ?_ (hb4.mono (by omega)) | refine Below.trans ?_ (hb3.mono (by first | (simp; done) | (simp; omega)))))
                | false =>
                  have HV : Hid (V = .tuple #[.agg #[.bool false, .string (s.extract 0 k), .string (s.extract (k + 1) s.size)], .int .i64 0]) := Lib.hid (by rw [← hV.out, hv]; first | rfl | simp only [specV, S_of, S_take, S_drop])
                  clear hV
                  have cF : ∀ w, Calls Tryd.prog 34 #[.string (s.extract 0 k)] w fun e w' => e = .returned (.tuple #[.bool true, .bool false]) ∧ Below w.heap.size w w' := fun w => by have := may_any (s.extract 0 k) w (by omega); rw [hF] at this; exact this
                  have cD : ∀ w, Calls Tryd.prog 34 #[.string (s.extract (k + 1) s.size)] w fun e w' => e = .returned (.tuple #[.bool true, .bool false]) ∧ Below w.heap.size w w' := fun w => by have := may_any (s.extract (k + 1) s.size) w (by omega); rw [hD] at this; exact this
                  clear hF hD hL hf hat
                  have tok1 : True := trivial
                  go_wp2_with (first
                    | (go_at_call 34; have tk1 := tok1; refine (cF _).mono ?_; rintro e w3 ⟨rfl, hb3⟩; obtain ⟨hc3, hf3⟩ := bcell hb3; have hz3 : w.heap.size + 1 < w3.heap.size := (by have h := hb3.size; simp at h; omega); have hz3b : w.heap.size < w3.heap.size := (by omega); clear tok1)
                    | (go_at_call 34; refine (cD _).mono ?_; rintro e w4 ⟨rfl, hb4⟩; obtain ⟨hc4, hf4⟩ := bcell hb4; have hz4 : w.heap.size + 1 < w4.heap.size := (by have h := hb4.size; omega); have hz4b : w.heap.size < w4.heap.size := (by omega)))
                  have q0 : w4.cell? ⟨w.heap.size, 0, none⟩ = some (.bool false) := by rw [hc4 _ _ (by omega), hc3 _ _ (by first | (simp; done) | (simp; omega))]; (go_simp <;> rfl)
                  have q1 : w4.cell? ⟨w.heap.size, 1, none⟩ = some (.string ⟨#[]⟩) := by rw [hc4 _ _ (by omega), hc3 _ _ (by first | (simp; done) | (simp; omega))]; (go_simp <;> rfl)
                  have q2 : w4.cell? ⟨w.heap.size, 2, none⟩ = some (.string ⟨#[]⟩) := by rw [hc4 _ _ (by omega), hc3 _ _ (by first | (simp; done) | (simp; omega))]; (go_simp <;> rfl)
                  have p0 : w4.cell? ⟨w.heap.size + 1, 0, none⟩ = some (.bool false) := by rw [hc4 _ _ (by omega), hc3 _ _ (by first | (simp; done) | (simp; omega))]; (go_simp <;> rfl)
                  have p1 : w4.cell? ⟨w.heap.size + 1, 1, none⟩ = some (.string (s.extract 0 k)) := by rw [hc4 _ _ (by omega), hc3 _ _ (by first | (simp; done) | (simp; omega))]; (go_simp <;> rfl)
                  have p2 : w4.cell? ⟨w.heap.size + 1, 2, none⟩ = some (.string (s.extract (k + 1) s.size)) := by rw [hc4 _ _ (by omega), hc3 _ _ (by first | (simp; done) | (simp; omega))]; (go_simp <;> rfl)
                  refine bodyPost_ret (v := .tuple #[.agg #[.bool false, .string (s.extract 0 k), .string (s.extract (k + 1) s.size)], .int .i64 0]) (by simp [results, Tryd.results15, go_sem, q0, q1, q2] <;> rfl) rfl ⟨by rw [HV.out], ?_⟩
                  (with_reducible repeat (first | exact Below.refl _ _ | refine Below.setCell ?_ (by first | (simp; done) | (simp; omega)) _ | refine Below.alloc ?_ (by first | (simp; done) | (simp; omega)) _ | refine below_drewN ?_ _ | refine Below.trans ?_ (hb4.mono (by omega)) | refine Below.trans ?_ (hb3.mono (by first | (simp; done) | (simp; omega)))))
      · have c1 : (((s[k]'hlt).toNat : Int) == 58) = false := by
          rw [beq_eq_false_iff_ne]; intro e; exact c (UInt8.toNat_inj.1 (by simpa using (by omega : (s[k]'hlt).toNat = 58)))
        have hn2 := not_next s hlt c hn
        clear hn c
        go_wp2
        go_round
        case rel => exact ⟨k + 1, by omega, by go_num, rfl, hn2⟩
        case measure => simp [RowKit.intOf]; omega
    · have g1 : ¬ (k : Int) < (s.size : Int) := by omega
      have hat : at1 58 s.data.toList = none := at_none s (by omega) hn
      clear hn
      obtain ⟨⟨F1, F2⟩, hF⟩ : ∃ p, sideL s.data.toList = p := ⟨_, rfl⟩
      have hD := hF
      cases F1 with
      | false =>
        have hv := pn0 hL hat (by rw [hF])
        by_cases hne : s.data.toList = []
        · rw [← nil_toList] at hne
          have HV : Hid (V = .tuple #[.agg #[.bool false, .string ⟨#[]⟩, .string ⟨#[]⟩], .int .i64 3]) := Lib.hid (by rw [← hV.out, hv]; first | rfl | simp only [specV, S_of, S_take, S_drop])
          clear hV
          have cF : ∀ w, Calls Tryd.prog 34 #[.string s] w fun e w' => e = .returned (.tuple #[.bool false, .bool F2]) ∧ Below w.heap.size w w' := fun w => by have := may_any s w (by omega); rw [hF] at this; exact this
          have cD : ∀ w, Calls Tryd.prog 34 #[.string s] w fun e w' => e = .returned (.tuple #[.bool false, .bool F2]) ∧ Below w.heap.size w w' := fun w => by have := may_any s w (by omega); rw [hD] at this; exact this
          clear hF hD hL hf hat
          have tok1 : True := trivial
          go_wp2_with (first
            | (go_at_call 34; have tk1 := tok1; refine (cF _).mono ?_; rintro e w3 ⟨rfl, hb3⟩; obtain ⟨hc3, hf3⟩ := bcell hb3; have hz3 : w.heap.size + 1 < w3.heap.size := (by have h := hb3.size; simp at h; omega); have hz3b : w.heap.size < w3.heap.size := (by omega); clear tok1)
            | (go_at_call 34; refine (cD _).mono ?_; rintro e w4 ⟨rfl, hb4⟩; obtain ⟨hc4, hf4⟩ := bcell hb4; have hz4 : w.heap.size + 1 < w4.heap.size := (by have h := hb4.size; omega); have hz4b : w.heap.size < w4.heap.size := (by omega)))
          have q0 : w4.cell? ⟨w.heap.size, 0, none⟩ = some (.bool false) := by rw [hc4 _ _ (by omega), hc3 _ _ (by first | (simp; done) | (simp; omega))]; (go_simp <;> rfl)
          have q1 : w4.cell? ⟨w.heap.size, 1, none⟩ = some (.string ⟨#[]⟩) := by rw [hc4 _ _ (by omega), hc3 _ _ (by first | (simp; done) | (simp; omega))]; (go_simp <;> rfl)
          have q2 : w4.cell? ⟨w.heap.size, 2, none⟩ = some (.string ⟨#[]⟩) := by rw [hc4 _ _ (by omega), hc3 _ _ (by first | (simp; done) | (simp; omega))]; (go_simp <;> rfl)
          have p0 : w4.cell? ⟨w.heap.size + 1, 0, none⟩ = some (.bool false) := by rw [hc4 _ _ (by omega), hc3 _ _ (by first | (simp; done) | (simp; omega))]; (go_simp <;> rfl)
          have p1 : w4.cell? ⟨w.heap.size + 1, 1, none⟩ = some (.string s) := by rw [hc4 _ _ (by omega), hc3 _ _ (by first | (simp; done) | (simp; omega))]; (go_simp <;> rfl)
          have p2 : w4.cell? ⟨w.heap.size + 1, 2, none⟩ = some (.string s) := by rw [hc4 _ _ (by omega), hc3 _ _ (by first | (simp; done) | (simp; omega))]; (go_simp <;> rfl)
          refine bodyPost_ret (v := .tuple #[.agg #[.bool false, .string ⟨#[]⟩, .string ⟨#[]⟩], .int .i64 3]) (by simp [results, Tryd.results15, go_sem, q0, q1, q2] <;> rfl) rfl ⟨by rw [HV.out], ?_⟩
          (with_reducible repeat (first | exact Below.refl _ _ | refine Below.setCell ?_ (by first | (simp; done) | (simp; omega)) _ | refine Below.alloc ?_ (by first | (simp; done) | (simp; omega)) _ | refine below_drewN ?_ _ | refine Below.trans ?_ (hb4.mono (by omega)) | refine Below.trans ?_ (hb3.mono (by first | (simp; done) | (simp; omega)))))
        · have ne1 : (s.toList == []) = false := by rw [nil_toList]; exact beq_eq_false_iff_ne.2 hne
          have ne2 : s.toList.isEmpty = false := by rw [nil_toList]; cases h : s.data.toList with | nil => exact absurd h hne | cons a t => rfl
          clear hne
          have HV : Hid (V = .tuple #[.agg #[.bool false, .string ⟨#[]⟩, .string ⟨#[]⟩], .int .i64 3]) := Lib.hid (by rw [← hV.out, hv]; first | rfl | simp only [specV, S_of, S_take, S_drop])
          clear hV
          have cF : ∀ w, Calls Tryd.prog 34 #[.string s] w fun e w' => e = .returned (.tuple #[.bool false, .bool F2]) ∧ Below w.heap.size w w' := fun w => by have := may_any s w (by omega); rw [hF] at this; exact this
          have cD : ∀ w, Calls Tryd.prog 34 #[.string s] w fun e w' => e = .returned (.tuple #[.bool false, .bool F2]) ∧ Below w.heap.size w w' := fun w => by have := may_any s w (by omega); rw [hD] at this; exact this
          clear hF hD hL hf hat
          have tok1 : True := trivial
          go_wp2_with (first
            | (go_at_call 34; have tk1 := tok1; refine (cF _).mono ?_; rintro e w3 ⟨rfl, hb3⟩; obtain ⟨hc3, hf3⟩ := bcell hb3; have hz3 : w.heap.size + 1 < w3.heap.size := (by have h := hb3.size; simp at h; omega); have hz3b : w.heap.size < w3.heap.size := (by omega); clear tok1)
            | (go_at_call 34; refine (cD _).mono ?_; rintro e w4 ⟨rfl, hb4⟩; obtain ⟨hc4, hf4⟩ := bcell hb4; have hz4 : w.heap.size + 1 < w4.heap.size := (by have h := hb4.size; omega); have hz4b : w.heap.size < w4.heap.size := (by omega)))
          have q0 : w4.cell? ⟨w.heap.size, 0, none⟩ = some (.bool false) := by rw [hc4 _ _ (by omega), hc3 _ _ (by first | (simp; done) | (simp; omega))]; (go_simp <;> rfl)
          have q1 : w4.cell? ⟨w.heap.size, 1, none⟩ = some (.string ⟨#[]⟩) := by rw [hc4 _ _ (by omega), hc3 _ _ (by first | (simp; done) | (simp; omega))]; (go_simp <;> rfl)
          have q2 : w4.cell? ⟨w.heap.size, 2, none⟩ = some (.string ⟨#[]⟩) := by rw [hc4 _ _ (by omega), hc3 _ _ (by first | (simp; done) | (simp; omega))]; (go_simp <;> rfl)
          have p0 : w4.cell? ⟨w.heap.size + 1, 0, none⟩ = some (.bool false) := by rw [hc4 _ _ (by omega), hc3 _ _ (by first | (simp; done) | (simp; omega))]; (go_simp <;> rfl)
          have p1 : w4.cell? ⟨w.heap.size + 1, 1, none⟩ = some (.string s) := by rw [hc4 _ _ (by omega), hc3 _ _ (by first | (simp; done) | (simp; omega))]; (go_simp <;> rfl)
          have p2 : w4.cell? ⟨w.heap.size + 1, 2, none⟩ = some (.string s) := by rw [hc4 _ _ (by omega), hc3 _ _ (by first | (simp; done) | (simp; omega))]; (go_simp <;> rfl)
          refine bodyPost_ret (v := .tuple #[.agg #[.bool false, .string ⟨#[]⟩, .string ⟨#[]⟩], .int .i64 3]) (by simp [results, Tryd.results15, go_sem, q0, q1, q2] <;> rfl) rfl ⟨by rw [HV.out], ?_⟩
          (with_reducible repeat (first | exact Below.refl _ _ | refine Below.setCell ?_ (by first | (simp; done) | (simp; omega)) _ | refine Below.alloc ?_ (by first | (simp; done) | (simp; omega)) _ | refine below_drewN ?_ _ | refine Below.trans ?_ (hb4.mono (by omega)) | refine Below.trans ?_ (hb3.mono (by first | (simp; done) | (simp; omega)))))
      | true =>
        have hv := pn1 hL hf hat (by rw [hF])
        have hne : s.data.toList ≠ [] := by intro e; rw [e] at hF; have := side_nil; rw [hF] at this; cases this
        have ne1 : (s.toList == []) = false := by rw [nil_toList]; exact beq_eq_false_iff_ne.2 hne
        have ne2 : s.toList.isEmpty = false := by rw [nil_toList]; cases h : s.data.toList with | nil => exact absurd h hne | cons a t => rfl
        clear hne
        cases F2 with
        | true =>
          have HV : Hid (V = .tuple #[.agg #[.bool false, .string s, .string s], .int .i64 0]) := Lib.hid (by rw [← hV.out, hv]; first | rfl | simp only [specV, S_of, S_take, S_drop])
          clear hV
          have cF : ∀ w, Calls Tryd.prog 34 #[.string s] w fun e w' => e = .returned (.tuple #[.bool true, .bool true]) ∧ Below w.heap.size w w' := fun w => by have := may_any s w (by omega); rw [hF] at this; exact this
          have cD : ∀ w, Calls Tryd.prog 34 #[.string s] w fun e w' => e = .returned (.tuple #[.bool true, .bool true]) ∧ Below w.heap.size w w' := fun w => by have := may_any s w (by omega); rw [hD] at this; exact this
          clear hF hD hL hf hat
          have tok1 : True := trivial
          go_wp2_with (first
            | (go_at_call 34; have tk1 := tok1; refine (cF _).mono ?_; rintro e w3 ⟨rfl, hb3⟩; obtain ⟨hc3, hf3⟩ := bcell hb3; have hz3 : w.heap.size + 1 < w3.heap.size := (by have h := hb3.size; simp at h; omega); have hz3b : w.heap.size < w3.heap.size := (by omega); clear tok1)
            | (go_at_call 34; refine (cD _).mono ?_; rintro e w4 ⟨rfl, hb4⟩; obtain ⟨hc4, hf4⟩ := bcell hb4; have hz4 : w.heap.size + 1 < w4.heap.size := (by have h := hb4.size; omega); have hz4b : w.heap.size < w4.heap.size := (by omega)))
          have q0 : w4.cell? ⟨w.heap.size, 0, none⟩ = some (.bool false) := by rw [hc4 _ _ (by omega), hc3 _ _ (by first | (simp; done) | (simp; omega))]; (go_simp <;> rfl)
          have q1 : w4.cell? ⟨w.heap.size, 1, none⟩ = some (.string ⟨#[]⟩) := by rw [hc4 _ _ (by omega), hc3 _ _ (by first | (simp; done) | (simp; omega))]; (go_simp <;> rfl)
          have q2 : w4.cell? ⟨w.heap.size, 2, none⟩ = some (.string ⟨#[]⟩) := by rw [hc4 _ _ (by omega), hc3 _ _ (by first | (simp; done) | (simp; omega))]; (go_simp <;> rfl)
          have p0 : w4.cell? ⟨w.heap.size + 1, 0, none⟩ = some (.bool false) := by rw [hc4 _ _ (by omega), hc3 _ _ (by first | (simp; done) | (simp; omega))]; (go_simp <;> rfl)
          have p1 : w4.cell? ⟨w.heap.size + 1, 1, none⟩ = some (.string s) := by rw [hc4 _ _ (by omega), hc3 _ _ (by first | (simp; done) | (simp; omega))]; (go_simp <;> rfl)
          have p2 : w4.cell? ⟨w.heap.size + 1, 2, none⟩ = some (.string s) := by rw [hc4 _ _ (by omega), hc3 _ _ (by first | (simp; done) | (simp; omega))]; (go_simp <;> rfl)
          refine bodyPost_ret (v := .tuple #[.agg #[.bool false, .string s, .string s], .int .i64 0]) (by simp [results, Tryd.results15, go_sem, q0, q1, q2] <;> rfl) rfl ⟨by rw [HV.out], ?_⟩
          (with_reducible repeat (first | exact Below.refl _ _ | refine Below.setCell ?_ (by first | (simp; done) | (simp; omega)) _ | refine Below.alloc ?_ (by first | (simp; done) | (simp; omega)) _ | refine below_drewN ?_ _ | refine Below.trans ?_ (hb4.mono (by omega)) | refine Below.trans ?_ (hb3.mono (by first | (simp; done) | (simp; omega)))))
        | false =>
          have HV : Hid (V = .tuple #[.agg #[.bool false, .string s, .string s], .int .i64 0]) := Lib.hid (by rw [← hV.out, hv]; first | rfl | simp only [specV, S_of, S_take, S_drop])
          clear hV
          have cF : ∀ w, Calls Tryd.prog 34 #[.string s] w fun e w' => e = .returned (.tuple #[.bool true, .bool false]) ∧ Below w.heap.size w w' := fun w => by have := may_any s w (by omega); rw [hF] at this; exact this
          have cD : ∀ w, Calls Tryd.prog 34 #[.string s] w fun e w' => e = .returned (.tuple #[.bool true, .bool false]) ∧ Below w.heap.size w w' := fun w => by have := may_any s w (by omega); rw [hD] at this; exact this
          clear hF hD hL hf hat
          have tok1 : True := trivial
          go_wp2_with (first
            | (go_at_call 34; have tk1 := tok1; refine (cF _).mono ?_; rintro e w3 ⟨rfl, hb3⟩; obtain ⟨hc3, hf3⟩ := bcell hb3; have hz3 : w.heap.size + 1 < w3.heap.size := (by have h := hb3.size; simp at h; omega); have hz3b : w.heap.size < w3.heap.size := (by omega); clear tok1)
            | (go_at_call 34; refine (cD _).mono ?_; rintro e w4 ⟨rfl, hb4⟩; obtain ⟨hc4, hf4⟩ := bcell hb4; have hz4 : w.heap.size + 1 < w4.heap.size := (by have h := hb4.size; omega); have hz4b : w.heap.size < w4.heap.size := (by omega)))
          have q0 : w4.cell? ⟨w.heap.size, 0, none⟩ = some (.bool false) := by rw [hc4 _ _ (by omega), hc3 _ _ (by first | (simp; done) | (simp; omega))]; (go_simp <;> rfl)
          have q1 : w4.cell? ⟨w.heap.size, 1, none⟩ = some (.string ⟨#[]⟩) := by rw [hc4 _ _ (by omega), hc3 _ _ (by first | (simp; done) | (simp; omega))]; (go_simp <;> rfl)
          have q2 : w4.cell? ⟨w.heap.size, 2, none⟩ = some (.string ⟨#[]⟩) := by rw [hc4 _ _ (by omega), hc3 _ _ (by first | (simp; done) | (simp; omega))]; (go_simp <;> rfl)
          have p0 : w4.cell? ⟨w.heap.size + 1, 0, none⟩ = some (.bool false) := by rw [hc4 _ _ (by omega), hc3 _ _ (by first | (simp; done) | (simp; omega))]; (go_simp <;> rfl)
          have p1 : w4.cell? ⟨w.heap.size + 1, 1, none⟩ = some (.string s) := by rw [hc4 _ _ (by omega), hc3 _ _ (by first | (simp; done) | (simp; omega))]; (go_simp <;> rfl)
          have p2 : w4.cell? ⟨w.heap.size + 1, 2, none⟩ = some (.string s) := by rw [hc4 _ _ (by omega), hc3 _ _ (by first | (simp; done) | (simp; omega))]; (go_simp <;> rfl)
          refine bodyPost_ret (v := .tuple #[.agg #[.bool false, .string s, .string s], .int .i64 0]) (by simp [results, Tryd.results15, go_sem, q0, q1, q2] <;> rfl) rfl ⟨by rw [HV.out], ?_⟩
          (with_reducible repeat (first | exact Below.refl _ _ | refine Below.setCell ?_ (by first | (simp; done) | (simp; omega)) _ | refine Below.alloc ?_ (by first | (simp; done) | (simp; omega)) _ | refine below_drewN ?_ _ | refine Below.trans ?_ (hb4.mono (by omega)) | refine Below.trans ?_ (hb3.mono (by first | (simp; done) | (simp; omega)))))

set_option maxHeartbeats 4000000 in
set_option maxRecDepth 1000000 in
theorem rparse_e (s : ByteArray) (V : Value) (w : World) (hs : s.size ≤ 140737488351232) (h0 : s.size = 0) (hV : Hid (specV (parseL s.data.toList) = V)) (hL : noPlus s.data.toList = s.data.toList) (hf : plus s.data.toList = false) :
    Calls Tryd.prog 15 #[.string s] w fun e w' => e = .returned V ∧ Below w.heap.size w w' := by
  have hss := set_twice
  have h1 : decide ((0 : Int) < (s.size : Int)) = false := decide_eq_false (by omega)
  go_enter Tryd.func15, Tryd.ntmps15
  go_wp2
  go_loop [5, 6] (fun a i => ∃ k : Nat, k ≤ s.size ∧ i = .int .i64 k ∧ a = .int .i64 (-1) ∧ (58 : UInt8) ∉ s.data.toList.take k) (fun _ i => s.size - (RowKit.intOf i).toNat)
  case atStart => exact ⟨0, by omega, rfl, rfl, by simp⟩
  case round =>
    obtain ⟨k, hk, rfl, rfl, hn⟩ := hrel
    by_cases hlt : k < s.size
    · exact absurd hlt (by omega)
    · have g1 : ¬ (k : Int) < (s.size : Int) := by omega
      have hat : at1 58 s.data.toList = none := at_none s (by omega) hn
      clear hn
      obtain ⟨⟨F1, F2⟩, hF⟩ : ∃ p, sideL s.data.toList = p := ⟨_, rfl⟩
      have hD := hF
      cases F1 with
      | false =>
        have hv := pn0 hL hat (by rw [hF])
        by_cases hne : s.data.toList = []
        · rw [← nil_toList] at hne
          have HV : Hid (V = .tuple #[.agg #[.bool false, .string ⟨#[]⟩, .string ⟨#[]⟩], .int .i64 3]) := Lib.hid (by rw [← hV.out, hv]; first | rfl | simp only [specV, S_of, S_take, S_drop])
          clear hV
          have cF : ∀ w, Calls Tryd.prog 34 #[.string s] w fun e w' => e = .returned (.tuple #[.bool false, .bool F2]) ∧ Below w.heap.size w w' := fun w => by have := may_any s w (by omega); rw [hF] at this; exact this
          have cD : ∀ w, Calls Tryd.prog 34 #[.string s] w fun e w' => e = .returned (.tuple #[.bool false, .bool F2]) ∧ Below w.heap.size w w' := fun w => by have := may_any s w (by omega); rw [hD] at this; exact this
          clear hF hD hL hf hat
          have tok1 : True := trivial
          go_wp2_with (first
            | (go_at_call 34; have tk1 := tok1; refine (cF _).mono ?_; rintro e w3 ⟨rfl, hb3⟩; obtain ⟨hc3, hf3⟩ := bcell hb3; have hz3 : w.heap.size + 1 < w3.heap.size := (by have h := hb3.size; simp at h; omega); have hz3b : w.heap.size < w3.heap.size := (by omega); clear tok1)
            | (go_at_call 34; refine (cD _).mono ?_; rintro e w4 ⟨rfl, hb4⟩; obtain ⟨hc4, hf4⟩ := bcell hb4; have hz4 : w.heap.size + 1 < w4.heap.size := (by have h := hb4.size; omega); have hz4b : w.heap.size < w4.heap.size := (by omega)))
          have q0 : w4.cell? ⟨w.heap.size, 0, none⟩ = some (.bool false) := by rw [hc4 _ _ (by omega), hc3 _ _ (by first | (simp; done) | (simp; omega))]; (go_simp <;> rfl)
          have q1 : w4.cell? ⟨w.heap.size, 1, none⟩ = some (.string ⟨#[]⟩) := by rw [hc4 _ _ (by omega), hc3 _ _ (by first | (simp; done) | (simp; omega))]; (go_simp <;> rfl)
          have q2 : w4.cell? ⟨w.heap.size, 2, none⟩ = some (.string ⟨#[]⟩) := by rw [hc4 _ _ (by omega), hc3 _ _ (by first | (simp; done) | (simp; omega))]; (go_simp <;> rfl)
          have p0 : w4.cell? ⟨w.heap.size + 1, 0, none⟩ = some (.bool false) := by rw [hc4 _ _ (by omega), hc3 _ _ (by first | (simp; done) | (simp; omega))]; (go_simp <;> rfl)
          have p1 : w4.cell? ⟨w.heap.size + 1, 1, none⟩ = some (.string s) := by rw [hc4 _ _ (by omega), hc3 _ _ (by first | (simp; done) | (simp; omega))]; (go_simp <;> rfl)
          have p2 : w4.cell? ⟨w.heap.size + 1, 2, none⟩ = some (.string s) := by rw [hc4 _ _ (by omega), hc3 _ _ (by first | (simp; done) | (simp; omega))]; (go_simp <;> rfl)
          refine bodyPost_ret (v := .tuple #[.agg #[.bool false, .string ⟨#[]⟩, .string ⟨#[]⟩], .int .i64 3]) (by simp [results, Tryd.results15, go_sem, q0, q1, q2] <;> rfl) rfl ⟨by rw [HV.out], ?_⟩
          (with_reducible repeat (first | exact Below.refl _ _ | refine Below.setCell ?_ (by first | (simp; done) | (simp; omega)) _ | refine Below.alloc ?_ (by first | (simp; done) | (simp; omega)) _ | refine below_drewN ?_ _ | refine Below.trans ?_ (hb4.mono (by omega)) | refine Below.trans ?_ (hb3.mono (by first | (simp; done) | (simp; omega)))))
        · have ne1 : (s.toList == []) = false := by rw [nil_toList]; exact beq_eq_false_iff_ne.2 hne
          have ne2 : s.toList.isEmpty = false := by rw [nil_toList]; cases h : s.data.toList with | nil => exact absurd h hne | cons a t => rfl
          clear hne
          have HV : Hid (V = .tuple #[.agg #[.bool false, .string ⟨#[]⟩, .string ⟨#[]⟩], .int .i64 3]) := Lib.hid (by rw [← hV.out, hv]; first | rfl | simp only [specV, S_of, S_take, S_drop])
          clear hV
          have cF : ∀ w, Calls Tryd.prog 34 #[.string s] w fun e w' => e = .returned (.tuple #[.bool false, .bool F2]) ∧ Below w.heap.size w w' := fun w => by have := may_any s w (by omega); rw [hF] at this; exact this
          have cD : ∀ w, Calls Tryd.prog 34 #[.string s] w fun e w' => e = .returned (.tuple #[.bool false, .bool F2]) ∧ Below w.heap.size w w' := fun w => by have := may_any s w (by omega); rw [hD] at this; exact this
          clear hF hD hL hf hat
          have tok1 : True := trivial
          go_wp2_with (first
            | (go_at_call 34; have tk1 := tok1; refine (cF _).mono ?_; rintro e w3 ⟨rfl, hb3⟩; obtain ⟨hc3, hf3⟩ := bcell hb3; have hz3 : w.heap.size + 1 < w3.heap.size := (by have h := hb3.size; simp at h; omega); have hz3b : w.heap.size < w3.heap.size := (by omega); clear tok1)
            | (go_at_call 34; refine (cD _).mono ?_; rintro e w4 ⟨rfl, hb4⟩; obtain ⟨hc4, hf4⟩ := bcell hb4; have hz4 : w.heap.size + 1 < w4.heap.size := (by have h := hb4.size; omega); have hz4b : w.heap.size < w4.heap.size := (by omega)))
          have q0 : w4.cell? ⟨w.heap.size, 0, none⟩ = some (.bool false) := by rw [hc4 _ _ (by omega), hc3 _ _ (by first | (simp; done) | (simp; omega))]; (go_simp <;> rfl)
          have q1 : w4.cell? ⟨w.heap.size, 1, none⟩ = some (.string ⟨#[]⟩) := by rw [hc4 _ _ (by omega), hc3 _ _ (by first | (simp; done) | (simp; omega))]; (go_simp <;> rfl)
          have q2 : w4.cell? ⟨w.heap.size, 2, none⟩ = some (.string ⟨#[]⟩) := by rw [hc4 _ _ (by omega), hc3 _ _ (by first | (simp; done) | (simp; omega))]; (go_simp <;> rfl)
          have p0 : w4.cell? ⟨w.heap.size + 1, 0, none⟩ = some (.bool false) := by rw [hc4 _ _ (by omega), hc3 _ _ (by first | (simp; done) | (simp; omega))]; (go_simp <;> rfl)
          have p1 : w4.cell? ⟨w.heap.size + 1, 1, none⟩ = some (.string s) := by rw [hc4 _ _ (by omega), hc3 _ _ (by first | (simp; done) | (simp; omega))]; (go_simp <;> rfl)
          have p2 : w4.cell? ⟨w.heap.size + 1, 2, none⟩ = some (.string s) := by rw [hc4 _ _ (by omega), hc3 _ _ (by first | (simp; done) | (simp; omega))]; (go_simp <;> rfl)
          refine bodyPost_ret (v := .tuple #[.agg #[.bool false, .string ⟨#[]⟩, .string ⟨#[]⟩], .int .i64 3]) (by simp [results, Tryd.results15, go_sem, q0, q1, q2] <;> rfl) rfl ⟨by rw [HV.out], ?_⟩
          (with_reducible repeat (first | exact Below.refl _ _ | refine Below.setCell ?_ (by first | (simp; done) | (simp; omega)) _ | refine Below.alloc ?_ (by first | (simp; done) | (simp; omega)) _ | refine below_drewN ?_ _ | refine Below.trans ?_ (hb4.mono (by omega)) | refine Below.trans ?_ (hb3.mono (by first | (simp; done) | (simp; omega)))))
      | true =>
        have hv := pn1 hL hf hat (by rw [hF])
        have hne : s.data.toList ≠ [] := by intro e; rw [e] at hF; have := side_nil; rw [hF] at this; cases this
        have ne1 : (s.toList == []) = false := by rw [nil_toList]; exact beq_eq_false_iff_ne.2 hne
        have ne2 : s.toList.isEmpty = false := by rw [nil_toList]; cases h : s.data.toList with | nil => exact absurd h hne | cons a t => rfl
        clear hne
        cases F2 with
        | true =>
          have HV : Hid (V = .tuple #[.agg #[.bool false, .string s, .string s], .int .i64 0]) := Lib.hid (by rw [← hV.out, hv]; first | rfl | simp only [specV, S_of, S_take, S_drop])
          clear hV
          have cF : ∀ w, Calls Tryd.prog 34 #[.string s] w fun e w' => e = .returned (.tuple #[.bool true, .bool true]) ∧ Below w.heap.size w w' := fun w => by have := may_any s w (by omega); rw [hF] at this; exact this
          have cD : ∀ w, Calls Tryd.prog 34 #[.string s] w fun e w' => e = .returned (.tuple #[.bool true, .bool true]) ∧ Below w.heap.size w w' := fun w => by have := may_any s w (by omega); rw [hD] at this; exact this
          clear hF hD hL hf hat
          have tok1 : True := trivial
          go_wp2_with (first
            | (go_at_call 34; have tk1 := tok1; refine (cF _).mono ?_; rintro e w3 ⟨rfl, hb3⟩; obtain ⟨hc3, hf3⟩ := bcell hb3; have hz3 : w.heap.size + 1 < w3.heap.size := (by have h := hb3.size; simp at h; omega); have hz3b : w.heap.size < w3.heap.size := (by omega); clear tok1)
            | (go_at_call 34; refine (cD _).mono ?_; rintro e w4 ⟨rfl, hb4⟩; obtain ⟨hc4, hf4⟩ := bcell hb4; have hz4 : w.heap.size + 1 < w4.heap.size := (by have h := hb4.size; omega); have hz4b : w.heap.size < w4.heap.size := (by omega)))
          have q0 : w4.cell? ⟨w.heap.size, 0, none⟩ = some (.bool false) := by rw [hc4 _ _ (by omega), hc3 _ _ (by first | (simp; done) | (simp; omega))]; (go_simp <;> rfl)
          have q1 : w4.cell? ⟨w.heap.size, 1, none⟩ = some (.string ⟨#[]⟩) := by rw [hc4 _ _ (by omega), hc3 _ _ (by first | (simp; done) | (simp; omega))]; (go_simp <;> rfl)
          have q2 : w4.cell? ⟨w.heap.size, 2, none⟩ = some (.string ⟨#[]⟩) := by rw [hc4 _ _ (by omega), hc3 _ _ (by first | (simp; done) | (simp; omega))]; (go_simp <;> rfl)
          have p0 : w4.cell? ⟨w.heap.size + 1, 0, none⟩ = some (.bool false) := by rw [hc4 _ _ (by omega), hc3 _ _ (by first | (simp; done) | (simp; omega))]; (go_simp <;> rfl)
          have p1 : w4.cell? ⟨w.heap.size + 1, 1, none⟩ = some (.string s) := by rw [hc4 _ _ (by omega), hc3 _ _ (by first | (simp; done) | (simp; omega))]; (go_simp <;> rfl)
          have p2 : w4.cell? ⟨w.heap.size + 1, 2, none⟩ = some (.string s) := by rw [hc4 _ _ (by omega), hc3 _ _ (by first | (simp; done) | (simp; omega))]; (go_simp <;> rfl)
          refine bodyPost_ret (v := .tuple #[.agg #[.bool false, .string s, .string s], .int .i64 0]) (by simp [results, Tryd.results15, go_sem, q0, q1, q2] <;> rfl) rfl ⟨by rw [HV.out], ?_⟩
          (with_reducible repeat (first | exact Below.refl _ _ | refine Below.setCell ?_ (by first | (simp; done) | (simp; omega)) _ | refine Below.alloc ?_ (by first | (simp; done) | (simp; omega)) _ | refine below_drewN ?_ _ | refine Below.trans ?_ (hb4.mono (by omega)) | refine Below.trans ?_ (hb3.mono (by first | (simp; done) | (simp; omega)))))
        | false =>
          have HV : Hid (V = .tuple #[.agg #[.bool false, .string s, .string s], .int .i64 0]) := Lib.hid (by rw [← hV.out, hv]; first | rfl | simp only [specV, S_of, S_take, S_drop])
          clear hV
          have cF : ∀ w, Calls Tryd.prog 34 #[.string s] w fun e w' => e = .returned (.tuple #[.bool true, .bool false]) ∧ Below w.heap.size w w' := fun w => by have := may_any s w (by omega); rw [hF] at this; exact this
          have cD : ∀ w, Calls Tryd.prog 34 #[.string s] w fun e w' => e = .returned (.tuple #[.bool true, .bool false]) ∧ Below w.heap.size w w' := fun w => by have := may_any s w (by omega); rw [hD] at this; exact this
          clear hF hD hL hf hat
          have tok1 : True := trivial
          go_wp2_with (first
            | (go_at_call 34; have tk1 := tok1; refine (cF _).mono ?_; rintro e w3 ⟨rfl, hb3⟩; obtain ⟨hc3, hf3⟩ := bcell hb3; have hz3 : w.heap.size + 1 < w3.heap.size := (by have h := hb3.size; simp at h; omega); have hz3b : w.heap.size < w3.heap.size := (by omega); clear tok1)
            | (go_at_call 34; refine (cD _).mono ?_; rintro e w4 ⟨rfl, hb4⟩; obtain ⟨hc4, hf4⟩ := bcell hb4; have hz4 : w.heap.size + 1 < w4.heap.size := (by have h := hb4.size; omega); have hz4b : w.heap.size < w4.heap.size := (by omega)))
          have q0 : w4.cell? ⟨w.heap.size, 0, none⟩ = some (.bool false) := by rw [hc4 _ _ (by omega), hc3 _ _ (by first | (simp; done) | (simp; omega))]; (go_simp <;> rfl)
          have q1 : w4.cell? ⟨w.heap.size, 1, none⟩ = some (.string ⟨#[]⟩) := by rw [hc4 _ _ (by omega), hc3 _ _ (by first | (simp; done) | (simp; omega))]; (go_simp <;> rfl)
          have q2 : w4.cell? ⟨w.heap.size, 2, none⟩ = some (.string ⟨#[]⟩) := by rw [hc4 _ _ (by omega), hc3 _ _ (by first | (simp; done) | (simp; omega))]; (go_simp <;> rfl)
          have p0 : w4.cell? ⟨w.heap.size + 1, 0, none⟩ = some (.bool false) := by rw [hc4 _ _ (by omega), hc3 _ _ (by first | (simp; done) | (simp; omega))]; (go_simp <;> rfl)
          have p1 : w4.cell? ⟨w.heap.size + 1, 1, none⟩ = some (.string s) := by rw [hc4 _ _ (by omega), hc3 _ _ (by first | (simp; done) | (simp; omega))]; (go_simp <;> rfl)
          have p2 : w4.cell? ⟨w.heap.size + 1, 2, none⟩ = some (.string s) := by rw [hc4 _ _ (by omega), hc3 _ _ (by first | (simp; done) | (simp; omega))]; (go_simp <;> rfl)
          refine bodyPost_ret (v := .tuple #[.agg #[.bool false, .string s, .string s], .int .i64 0]) (by simp [results, Tryd.results15, go_sem, q0, q1, q2] <;> rfl) rfl ⟨by rw [HV.out], ?_⟩
          (with_reducible repeat (first | exact Below.refl _ _ | refine Below.setCell ?_ (by first | (simp; done) | (simp; omega)) _ | refine Below.alloc ?_ (by first | (simp; done) | (simp; omega)) _ | refine below_drewN ?_ _ | refine Below.trans ?_ (hb4.mono (by omega)) | refine Below.trans ?_ (hb3.mono (by first | (simp; done) | (simp; omega)))))

theorem rparse_any (s : ByteArray) (w : World) (hs : s.size ≤ 140737488351232) :
    Calls Tryd.prog 15 #[.string s] w fun e w' => e = .returned (specV (parseL s.data.toList)) ∧ Below w.heap.size w w' := by
  obtain ⟨V, hV⟩ : ∃ V, specV (parseL s.data.toList) = V := ⟨_, rfl⟩
  rw [hV]
  by_cases h0 : 0 < s.size
  · have hd := get_data s 0 h0
    rw [List.drop_zero] at hd
    by_cases h43 : s[0]'h0 = 43
    · refine rparse_t s (s.extract 1 s.size) V w hs h0 h43 rfl (Lib.hid hV) ?_ ?_
      · rw [ext_from, hd, h43]; rfl
      · rw [hd, h43]; rfl
    · refine rparse_f s V w hs h0 h43 (Lib.hid hV) ?_ ?_
      · rw [hd]
        unfold noPlus trimPrefix
        rw [if_neg]
        simp [hasPrefix, List.isPrefixOf]
        exact fun e => h43 e.symm
      · rw [hd]
        simp [plus, hasPrefix, List.isPrefixOf]
        exact fun e => h43 e.symm
  · have hn : s.data.toList = [] := List.eq_nil_of_length_eq_zero (by rw [← Lib.size_eq]; omega)
    refine rparse_e s V w hs (by omega) (Lib.hid hV) ?_ ?_
    · rw [hn]; rfl
    · rw [hn]; rfl
end Go.Proofs.YtjmlppkleeegkaaDoor.Nm
