/- The document's own Map walked. -/
import Derived.Test.YtjmlppkleeegkaaDoorO
import Derived.Deep.QuietTactic
import Derived.BigQuiet
namespace Go.Proofs.YtjmlppkleeegkaaDoor.Nm
open Go.RowKit Go.Lib
open Go (below_drewN)

theorem star_of_side {l : List UInt8} (h : (sideL l).1 = true) : (at1 42 l = none ∧ starL l = -1 ∧ (sideL l).2 = false) ∨ (∃ i, at1 42 l = some i ∧ i < l.length ∧ starL l = (i : Int) ∧ (sideL l).2 = true) := by
  have hc : l.count 42 < 2 := by unfold sideL at h; simp only [Bool.and_eq_true, decide_eq_true_eq] at h; exact h.1
  rw [starL_eq]
  have hcs := count_star l
  unfold sideL
  cases e : at1 42 l with
  | none =>
    rw [e] at hcs
    simp only at hcs
    exact .inl ⟨rfl, rfl, by simp [hcs]⟩
  | some i =>
    rw [e] at hcs
    simp only at hcs
    obtain ⟨_, _, h3⟩ := at1_some e
    have h0 : (l.drop (i + 1)).count 42 = 0 := by omega
    have hn : (42 : UInt8) ∉ l.drop (i + 1) := List.count_eq_zero.1 h0
    exact .inr ⟨i, rfl, h3, by simp [hn], by simp [hcs, h0]⟩
theorem star_of_nil : at1 42 ([] : List UInt8) = none ∧ starL [] = -1 := ⟨rfl, rfl⟩

theorem rep1_some {b : List UInt8} {j : Nat} (h : at1 42 b = some j) (m : List UInt8) : rep1 m b = b.take j ++ m ++ b.drop (j + 1) := by unfold rep1; rw [h]
theorem suffix_drop {s u : List UInt8} {i : Nat} (h : i + u.length ≤ s.length) : hasSuffix (s.drop i) u = hasSuffix s u := by
  unfold hasSuffix
  rw [Bool.eq_iff_iff, List.isSuffixOf_iff_suffix, List.isSuffixOf_iff_suffix]
  constructor
  · intro ⟨t, ht⟩
    exact ⟨s.take i ++ t, by rw [List.append_assoc, ht, List.take_append_drop]⟩
  · intro ⟨t, ht⟩
    have hl : t.length + u.length = s.length := by rw [← ht, List.length_append]
    refine ⟨t.drop i, ?_⟩
    rw [← ht, List.drop_append_of_le_length (by omega)]
theorem map_form {a b s : List UInt8} {i j : Nat} (ha : at1 42 a = some i) (hb : at1 42 b = some j) :
    mapL a b s = if s.length < i + (a.drop (i + 1)).length then none else if s.take i ≠ a.take i then none else if hasSuffix s (a.drop (i + 1)) = false then none
      else if validL (b.take j ++ (s.take (s.length - (a.drop (i + 1)).length)).drop i ++ b.drop (j + 1)) then some (b.take j ++ (s.take (s.length - (a.drop (i + 1)).length)).drop i ++ b.drop (j + 1)) else none := by
  obtain ⟨_, _, hi⟩ := at1_some ha
  have hti : (a.take i).length = i := by rw [List.length_take]; omega
  unfold mapL
  rw [ha]
  simp only
  have hm : (s.drop i).take (s.length - i - (a.drop (i + 1)).length) = (s.take (s.length - (a.drop (i + 1)).length)).drop i := by
    rw [List.drop_take, Nat.sub_right_comm]
  rw [rep1_some hb, hm]
  generalize a.drop (i + 1) = u
  have hp : hasPrefix s (a.take i) = decide (s.take i = a.take i) := by
    unfold hasPrefix
    rw [Bool.eq_iff_iff, List.isPrefixOf_iff_prefix, decide_eq_true_iff]
    constructor
    · intro h; have := List.prefix_iff_eq_take.1 h; rw [hti] at this; exact this.symm
    · intro h; rw [← h]; exact List.take_prefix _ _
  by_cases h1 : s.length < i + u.length
  · rw [if_pos h1]
    by_cases h2 : hasPrefix s (a.take i) = false
    · rw [if_pos h2]
    · rw [if_neg h2]
      rw [if_pos]
      cases hq : hasSuffix (s.drop i) u with
      | false => rfl
      | true =>
        unfold hasSuffix at hq
        obtain ⟨t, ht⟩ := List.isSuffixOf_iff_suffix.1 hq
        have hl := congrArg List.length ht
        rw [List.length_append, List.length_drop] at hl
        rw [hp, decide_eq_false_iff_not] at h2
        have h2' : s.take i = a.take i := Classical.byContradiction h2
        have := congrArg List.length h2'
        rw [hti, List.length_take] at this
        omega
  · rw [if_neg h1, hp, suffix_drop (by omega)]
    by_cases h2 : s.take i = a.take i
    · rw [decide_eq_true h2, if_neg (c := true = false) (by simp), if_neg (c := s.take i ≠ a.take i) (not_not_intro h2)]
    · rw [decide_eq_false h2, if_pos rfl, if_pos h2]

set_option maxHeartbeats 2000000 in
set_option maxRecDepth 1000000 in
theorem rmap_n (f : Bool) (A B s : ByteArray) (w : World) (hA : A.size ≤ 2097152) (hB : B.size ≤ 2097152) (ha : at1 42 A.data.toList = none) (hstar : starL A.data.toList = -1) :
    Calls Tryd.prog 17 #[.agg #[.bool f, .string A, .string B], .string s] w fun e w' => e = .returned (mapV (mapL A.data.toList B.data.toList s.data.toList)) ∧ Below w.heap.size w w' := by
  have cA : ∀ w, Calls Tryd.prog 35 #[.string A] w fun e w' => e = .returned (.int .i64 (-1)) ∧ w' = w := fun w => by
    have := star_any A w (by omega)
    rw [hstar] at this
    exact this
  have cV : ∀ w, Calls Tryd.prog 12 #[.string B] w _ := fun w => rvalid_any B w (by omega)
  have hm : mapL A.data.toList B.data.toList s.data.toList = if s.data.toList ≠ A.data.toList then none else if validL B.data.toList then some B.data.toList else none := by unfold mapL; rw [ha]
  clear ha hstar
  by_cases hsA : s.data.toList = A.data.toList
  · have hq : (s.toList == A.toList) = true := by rw [beq_toList, hsA]; exact beq_iff_eq.2 rfl
    rw [if_neg (not_not_intro hsA)] at hm
    cases hv : validL B.data.toList with
    | true =>
      rw [hv, if_pos rfl] at hm
      simp only [hv] at cV
      have HM := Lib.hid hm
      clear hm hv hsA
      go_enter Tryd.func17, Tryd.ntmps17
      go_wp2_with fail
      refine (cA _).mono ?_
      rintro e w1 ⟨rfl, rfl⟩
      go_wp2_with fail
      refine (cV _).mono ?_
      rintro e w2 ⟨rfl, hb⟩
      obtain ⟨hc, hf⟩ := bcell hb
      go_wp2
      go_ret2
      exact ⟨by rw [HM.out]; simp only [mapV, S_of]; rfl, (show Below w.heap.size w _ from (Below.refl _ _).alloc (Nat.le_refl _) _).trans (hb.mono (by simp))⟩
    | false =>
      rw [hv, if_neg (by simp)] at hm
      simp only [hv] at cV
      have HM := Lib.hid hm
      clear hm hv hsA
      go_enter Tryd.func17, Tryd.ntmps17
      go_wp2_with fail
      refine (cA _).mono ?_
      rintro e w1 ⟨rfl, rfl⟩
      go_wp2_with fail
      refine (cV _).mono ?_
      rintro e w2 ⟨rfl, hb⟩
      go_wp2
      go_ret2
      exact ⟨by rw [HM.out]; rfl, (show Below w.heap.size w _ from (Below.refl _ _).alloc (Nat.le_refl _) _).trans (hb.mono (by simp))⟩
  · have hq : (s.toList == A.toList) = false := by rw [beq_toList]; exact beq_eq_false_iff_ne.2 hsA
    rw [if_pos hsA] at hm
    have HM := Lib.hid hm
    clear hm hsA
    go_enter Tryd.func17, Tryd.ntmps17
    go_wp2_with fail
    refine (cA _).mono ?_
    rintro e w1 ⟨rfl, rfl⟩
    go_wp2
    go_ret2
    exact ⟨by rw [HM.out]; rfl, (Below.refl _ _).alloc (Nat.le_refl _) _⟩
theorem ext_mid (s : ByteArray) (a b : Nat) : (s.extract a b).data.toList = (s.data.toList.take b).drop a := by rw [Lib.extract_data, List.drop_take]

set_option maxHeartbeats 4000000 in
set_option maxRecDepth 1000000 in
theorem rmap_s (f : Bool) (A B s : ByteArray) (i j : Nat) (w : World) (hA : A.size ≤ 2097152) (hB : B.size ≤ 2097152) (hs : s.size ≤ 2097152) (ha : at1 42 A.data.toList = some i) (hstA : starL A.data.toList = (i : Int)) (hb : at1 42 B.data.toList = some j) (hstB : starL B.data.toList = (j : Int)) :
    Calls Tryd.prog 17 #[.agg #[.bool f, .string A, .string B], .string s] w fun e w' => e = .returned (mapV (mapL A.data.toList B.data.toList s.data.toList)) ∧ Below w.heap.size w w' := by
  have cA : ∀ w, Calls Tryd.prog 35 #[.string A] w fun e w' => e = .returned (.int .i64 (i : Int)) ∧ w' = w := fun w => by
    have := star_any A w (by omega)
    rw [hstA] at this
    exact this
  have cB : ∀ w, Calls Tryd.prog 35 #[.string B] w fun e w' => e = .returned (.int .i64 (j : Int)) ∧ w' = w := fun w => by
    have := star_any B w (by omega)
    rw [hstB] at this
    exact this
  obtain ⟨_, _, hi⟩ := at1_some ha
  obtain ⟨_, _, hj⟩ := at1_some hb
  have hm := map_form (s := s.data.toList) ha hb
  rw [← Lib.size_eq] at hi hj
  clear ha hb hstA hstB
  have n1 : (A.extract 0 i).size = i := by rw [ByteArray.size_extract]; omega
  have n2 : (A.extract (i + 1) A.size).size = A.size - (i + 1) := by rw [ByteArray.size_extract]; omega
  rw [← ext_from A, ← Lib.size_eq s, ← Lib.size_eq (A.extract (i + 1) A.size), ← ext_to A, ← ext_mid s, ← ext_to s, ← ext_to B, ← ext_from B, ← data_app, ← data_app] at hm
  obtain ⟨Ab, hAb⟩ : ∃ x, A.extract (i + 1) A.size = x := ⟨_, rfl⟩
  obtain ⟨Aa, hAa⟩ : ∃ x, A.extract 0 i = x := ⟨_, rfl⟩
  rw [hAb] at hm n2
  rw [hAa] at hm n1
  have hAbz : Ab.size ≤ 2097152 := by omega
  clear n2
  have m1 : IntKind.i64.wrap ((i : Int) + 1) = (i : Int) + 1 := IntWalk.i64_in _ (by omega)
  have m2 : (i : Int) ≤ (A.size : Int) := by omega
  have m3 : (i : Int) + 1 ≤ (A.size : Int) := by omega
  have m4 : (0 : Int) ≤ (i : Int) := by omega
  have m5 : (0 : Int) ≤ (i : Int) + 1 := by omega
  have m6 : ((i : Int) + 1).toNat = i + 1 := by omega
  have m7 : i ≤ A.size := by omega
  have m8 : i + 1 ≤ A.size := by omega
  have m9 : IntKind.i64.wrap ((i : Int) + (Ab.size : Int)) = (i : Int) + (Ab.size : Int) := IntWalk.i64_in _ (by omega)
  have m10 : decide ((i : Int) < 0) = false := decide_eq_false (by omega)
  by_cases c1 : s.size < i + Ab.size
  · rw [if_pos c1] at hm
    have HM := Lib.hid hm
    have d1 : (s.size : Int) < (i : Int) + (Ab.size : Int) := by omega
    clear hm c1
    go_enter Tryd.func17, Tryd.ntmps17
    go_wp2_with fail
    refine (cA _).mono ?_
    rintro e w1 ⟨rfl, rfl⟩
    go_wp2
    go_ret2
    exact ⟨by rw [HM.out]; rfl, (Below.refl _ _).alloc (Nat.le_refl _) _⟩
  · rw [if_neg c1] at hm
    have d1 : decide ((s.size : Int) < (i : Int) + (Ab.size : Int)) = false := decide_eq_false (by omega)
    have d2 : (i : Int) ≤ (s.size : Int) := by omega
    have d3 : i ≤ s.size := by omega
    by_cases c2 : (s.extract 0 i).data.toList = Aa.data.toList
    · rw [if_neg (not_not_intro c2)] at hm
      have e2 : ((s.extract 0 i).toList == Aa.toList) = true := by rw [beq_toList, c2]; exact beq_iff_eq.2 rfl
      have cE : ∀ w, Calls Tryd.prog 32 #[.string s, .string Ab] w _ := fun w => ends_any s Ab w (by omega)
      cases hh : hasSuffix s.data.toList Ab.data.toList with
      | false =>
        rw [hh, if_pos rfl] at hm
        simp only [hh] at cE
        have HM := Lib.hid hm
        clear hm c1 c2 hh
        go_enter Tryd.func17, Tryd.ntmps17
        go_wp2_with fail
        refine (cA _).mono ?_
        rintro e w1 ⟨rfl, rfl⟩
        go_wp2_with fail
        refine (cE _).mono ?_
        rintro e w1 ⟨rfl, rfl⟩
        go_wp2
        go_ret2
        exact ⟨by rw [HM.out]; rfl, (Below.refl _ _).alloc (Nat.le_refl _) _⟩
      | true =>
        rw [hh, if_neg (by simp)] at hm
        simp only [hh] at cE
        have p1 : (B.extract 0 j).size = j := by rw [ByteArray.size_extract]; omega
        have p2 : (B.extract (j + 1) B.size).size = B.size - (j + 1) := by rw [ByteArray.size_extract]; omega
        have p3 : (s.extract i (s.size - Ab.size)).size = s.size - Ab.size - i := by rw [ByteArray.size_extract]; omega
        have p4 : (B.extract 0 j ++ s.extract i (s.size - Ab.size)).size = j + (s.size - Ab.size - i) := by rw [size_app, p1, p3]
        have p5 : (B.extract 0 j ++ s.extract i (s.size - Ab.size) ++ B.extract (j + 1) B.size).size ≤ 9223372036854775000 := by rw [size_app, p4, p2]; omega
        have cV : ∀ w, Calls Tryd.prog 12 #[.string (B.extract 0 j ++ s.extract i (s.size - Ab.size) ++ B.extract (j + 1) B.size)] w _ := fun w => rvalid_any _ w p5
        have f1 : (9223372036854775807 < j + (s.size - Ab.size - i)) = False := eq_false (by omega)
        have f2 : (9223372036854775807 < j + (s.size - Ab.size - i) + (B.size - (j + 1))) = False := eq_false (by omega)
        have r1 : IntKind.i64.wrap ((s.size : Int) - (Ab.size : Int)) = (s.size : Int) - (Ab.size : Int) := IntWalk.i64_in _ (by omega)
        have r2 : ((s.size : Int) - (Ab.size : Int)).toNat = s.size - Ab.size := by omega
        have r3 : (i : Int) ≤ (s.size : Int) - (Ab.size : Int) := by omega
        have r4 : (s.size : Int) - (Ab.size : Int) ≤ (s.size : Int) := by omega
        have r5 : (0 : Int) ≤ (s.size : Int) - (Ab.size : Int) := by omega
        have r6 : i ≤ s.size - Ab.size := by omega
        have r7 : s.size - Ab.size ≤ s.size := by omega
        have q1 : IntKind.i64.wrap ((j : Int) + 1) = (j : Int) + 1 := IntWalk.i64_in _ (by omega)
        have q2 : (j : Int) ≤ (B.size : Int) := by omega
        have q3 : (j : Int) + 1 ≤ (B.size : Int) := by omega
        have q4 : (0 : Int) ≤ (j : Int) := by omega
        have q5 : (0 : Int) ≤ (j : Int) + 1 := by omega
        have q6 : ((j : Int) + 1).toNat = j + 1 := by omega
        have q7 : j ≤ B.size := by omega
        have q8 : j + 1 ≤ B.size := by omega
        have q9 : decide ((j : Int) < 0) = false := decide_eq_false (by omega)
        generalize hv : validL (B.extract 0 j ++ s.extract i (s.size - Ab.size) ++ B.extract (j + 1) B.size).data.toList = V at hm cV
        have HM := Lib.hid hm
        clear hm c1 c2 hh hv p5
        go_enter Tryd.func17, Tryd.ntmps17
        go_wp2_with fail
        refine (cA _).mono ?_
        rintro e w1 ⟨rfl, rfl⟩
        go_wp2_with fail
        refine (cE _).mono ?_
        rintro e w1 ⟨rfl, rfl⟩
        go_wp2_with fail
        refine (cB _).mono ?_
        rintro e w1 ⟨rfl, rfl⟩
        go_wp2_with fail
        go_quiet (fail)
        have hbq : Below w.heap.size w ((w.alloc (.cells #[.bool f, .string A, .string B] 37)).drewN nq) := Go.below_drewN ((Below.refl _ _).alloc (Nat.le_refl _) _) nq
        have hzq := hbq.size
        generalize (w.alloc (.cells #[.bool f, .string A, .string B] 37)).drewN nq = wq at hbq hzq ⊢
        generalize B.extract 0 j ++ s.extract i (s.size - Ab.size) ++ B.extract (j + 1) B.size = D at HM cV ⊢
        cases V with
        | true =>
          rw [if_pos rfl] at HM
          go_wp2_with fail
          refine (cV _).mono ?_
          rintro e w2 ⟨rfl, hb2⟩
          go_wp2
          go_ret2
          exact ⟨by rw [HM.out]; simp only [mapV, S_of]; rfl, hbq.trans (hb2.mono hzq)⟩
        | false =>
          rw [if_neg (by simp)] at HM
          go_wp2_with fail
          refine (cV _).mono ?_
          rintro e w2 ⟨rfl, hb2⟩
          go_wp2
          go_ret2
          exact ⟨by rw [HM.out]; rfl, hbq.trans (hb2.mono hzq)⟩
    · rw [if_pos c2] at hm
      have e2 : ((s.extract 0 i).toList == Aa.toList) = false := by rw [beq_toList]; exact beq_eq_false_iff_ne.2 c2
      have HM := Lib.hid hm
      clear hm c1 c2
      go_enter Tryd.func17, Tryd.ntmps17
      go_wp2_with fail
      refine (cA _).mono ?_
      rintro e w1 ⟨rfl, rfl⟩
      go_wp2
      go_ret2
      exact ⟨by rw [HM.out]; rfl, (Below.refl _ _).alloc (Nat.le_refl _) _⟩
end Go.Proofs.YtjmlppkleeegkaaDoor.Nm
