/- The plain laws under the statements on names, fourth part: a refspec is read as it was told; what is mapped is good. No program in sight. -/
import Derived.Test.YtjmlppkleeegkaaDoorPlain3
namespace Go.Proofs.YtjmlppkleeegkaaDoor.Nm
open Go.Lib

def textL (f : Bool) (a b : List UInt8) : List UInt8 := if f then 43 :: (a ++ 58 :: b) else a ++ 58 :: b

theorem valid_parts {l : List UInt8} (h : validL l = true) : l.length ≤ 100 ∧ hasPrefix l refsL = true ∧ l.all okB = true := by
  unfold validL at h
  simp only [Bool.and_eq_true, decide_eq_true_eq] at h
  exact ⟨h.1.1.1.1.1.1.2, h.1.1.1.1.1.2, h.1.1.1.1.2⟩
theorem good_parts {l : List UInt8} (h : (sideL l).1 = true) : l.length ≤ 100 ∧ (58 : UInt8) ∉ l ∧ ∃ t, l = 114 :: t := by
  unfold sideL at h
  simp only [Bool.and_eq_true, decide_eq_true_eq] at h
  obtain ⟨hc, hv⟩ := h
  obtain ⟨h1, h2, h3⟩ := valid_parts hv
  have hb : ∀ b : UInt8, okB b = true → b ≠ 58 := fun b hb e => by subst e; revert hb; decide
  unfold rep1 at h1 h2 h3
  cases e : at1 42 l with
  | none =>
    rw [e] at h1 h2 h3
    simp only at h1 h2 h3
    refine ⟨h1, fun hm => hb _ (List.all_eq_true.1 h3 _ hm) rfl, ?_⟩
    cases l with
    | nil => exact absurd h2 (by decide)
    | cons a t =>
      have : a = 114 := by
        unfold hasPrefix refsL at h2
        simp only [List.isPrefixOf, Bool.and_eq_true, beq_iff_eq] at h2
        exact h2.1.symm
      exact ⟨t, by rw [this]⟩
  | some i =>
    obtain ⟨q1, q2, q3⟩ := at1_some e
    rw [e] at h1 h2 h3
    simp only at h1 h2 h3
    have hlen : (l.take i ++ [120] ++ l.drop (i + 1)).length = l.length := by simp; omega
    refine ⟨by omega, ?_, ?_⟩
    · intro hm
      rw [q1, List.mem_append, List.mem_cons] at hm
      rw [List.all_eq_true] at h3
      rcases hm with hm | hm | hm
      · exact hb _ (h3 58 (by simp [hm])) rfl
      · cases hm
      · exact hb _ (h3 58 (by simp [hm])) rfl
    · cases l with
      | nil => simp at q3
      | cons a t =>
        cases i with
        | zero => simp only [List.take_zero, List.nil_append] at h2; revert h2; unfold hasPrefix refsL; simp [List.isPrefixOf]
        | succ i =>
          have : a = 114 := by
            unfold hasPrefix refsL at h2
            simp only [List.take_succ_cons, List.cons_append, List.isPrefixOf, Bool.and_eq_true, beq_iff_eq] at h2
            exact h2.1.symm
          exact ⟨t, by rw [this]⟩

/-- What Parse tells has good sides. -/
theorem parse_good {l a b : List UInt8} {f : Bool} (h : parseL l = some (f, a, b)) :
    (sideL b).1 = true ∧ ((a = [] ∧ (sideL b).2 = false) ∨ (a ≠ [] ∧ (sideL a).1 = true ∧ (sideL a).2 = (sideL b).2)) := by
  unfold parseL at h
  generalize srcDst (noPlus l) = p at h
  obtain ⟨p1, p2, p3⟩ := p
  simp only at h
  by_cases h1 : (sideL p2).1 = false
  · rw [if_pos h1] at h; cases h
  · rw [if_neg h1] at h
    have h1' : (sideL p2).1 = true := by cases hq : (sideL p2).1 with | true => rfl | false => exact absurd hq h1
    by_cases h2 : p1 = []
    · rw [if_pos h2] at h
      by_cases h3 : p3 = false ∨ false ≠ (sideL p2).2
      · rw [if_pos h3] at h; cases h
      · rw [if_neg h3] at h
        cases h
        refine ⟨h1', .inl ⟨h2, ?_⟩⟩
        cases hq : (sideL b).2 with
        | false => rfl
        | true => exact absurd (.inr (by rw [hq]; simp)) h3
    · rw [if_neg h2] at h
      by_cases h3 : (sideL p1).1 = false ∨ (sideL p1).2 ≠ (sideL p2).2
      · rw [if_pos h3] at h; cases h
      · rw [if_neg h3] at h
        cases h
        refine ⟨h1', .inr ⟨h2, ?_, ?_⟩⟩
        · cases hq : (sideL a).1 with
          | true => rfl
          | false => exact absurd (.inl hq) h3
        · exact Classical.byContradiction fun hq => h3 (.inr hq)

theorem parse_text {l a b : List UInt8} {f : Bool} (h : parseL l = some (f, a, b)) : parseL (textL f a b) = some (f, a, b) := by
  obtain ⟨hb, ha⟩ := parse_good h
  have ha58 : (58 : UInt8) ∉ a := by
    rcases ha with ⟨rfl, _⟩ | ⟨_, h1, _⟩
    · simp
    · exact (good_parts h1).2.1
  have hhead : hasPrefix (a ++ 58 :: b) [43] = false := by
    rcases ha with ⟨rfl, _⟩ | ⟨_, h1, _⟩
    · rfl
    · obtain ⟨t, rfl⟩ := (good_parts h1).2.2
      rfl
  have h1 : noPlus (textL f a b) = a ++ 58 :: b := by
    unfold noPlus textL trimPrefix
    cases f with
    | true => rfl
    | false => simp only [Bool.false_eq_true, if_false]; rw [if_neg (by rw [hhead]; simp)]
  have h2 : plus (textL f a b) = f := by
    unfold plus textL
    cases f with
    | true => rfl
    | false => exact hhead
  unfold parseL
  rw [h1, h2]
  have h3 : srcDst (a ++ 58 :: b) = (a, b, true) := by
    unfold srcDst
    rw [at1_mk a b ha58]
    simp
  rw [h3]
  simp only
  rw [if_neg (by rw [hb]; simp)]
  rcases ha with ⟨rfl, h4⟩ | ⟨hne, h4, h5⟩
  · rw [if_neg (by simp [h4])]
  · rw [if_neg (by simp [hne, h4, h5])]

theorem map_valid {a b t x : List UInt8} (h : mapL a b t = some x) : validL x = true := by
  unfold mapL at h
  cases e : at1 42 a with
  | none =>
    rw [e] at h
    simp only at h
    split at h
    · cases h
    · split at h
      · cases h; assumption
      · cases h
  | some i =>
    rw [e] at h
    simp only at h
    split at h
    · cases h
    · split at h
      · cases h
      · split at h
        · cases h; assumption
        · cases h
end Go.Proofs.YtjmlppkleeegkaaDoor.Nm
