/- The plain laws under the statements on names, third part: stars, the document's test of names, refspecs, what they map. No program in sight. -/
import Derived.Test.YtjmlppkleeegkaaDoorPlain2
namespace Go.Proofs.YtjmlppkleeegkaaDoor.Nm
open Go.Lib

/-! ### stars -/
def starR : Int → Int → List UInt8 → Int
  | _, a, [] => a
  | i, a, b :: t => if b = 42 then (if 0 ≤ a then -2 else starR (i + 1) i t) else starR (i + 1) a t
def starL (l : List UInt8) : Int := starR 0 (-1) l
theorem starR_some : ∀ (l : List UInt8) (i a : Int), 0 ≤ a → starR i a l = if (42 : UInt8) ∈ l then -2 else a
  | [], _, a, _ => by simp [starR]
  | b :: t, i, a, h => by
    rw [starR]
    by_cases hb : b = 42
    · rw [if_pos hb, if_pos h, if_pos (by simp [hb])]
    · rw [if_neg hb, starR_some t _ a h]
      have e : ((42 : UInt8) ∈ b :: t) ↔ ((42 : UInt8) ∈ t) := by simp [Ne.symm hb]
      by_cases h2 : (42 : UInt8) ∈ t
      · rw [if_pos h2, if_pos (e.2 h2)]
      · rw [if_neg h2, if_neg (fun q => h2 (e.1 q))]
theorem starR_none : ∀ (l : List UInt8) (i : Int), 0 ≤ i → starR i (-1) l = match at1 42 l with | none => -1 | some j => if (42 : UInt8) ∈ l.drop (j + 1) then -2 else i + j
  | [], _, _ => by simp [starR, at1]
  | b :: t, i, h => by
    rw [starR, at1]
    by_cases hb : b = 42
    · rw [if_pos hb, if_pos hb, if_neg (by omega), starR_some t _ _ h]
      simp
    · rw [if_neg hb, if_neg hb, starR_none t (i + 1) (by omega)]
      cases e : at1 42 t with
      | none => rfl
      | some j =>
        simp only [Option.map_some, List.drop_succ_cons]
        by_cases h2 : (42 : UInt8) ∈ t.drop (j + 1)
        · rw [if_pos h2, if_pos h2]
        · rw [if_neg h2, if_neg h2]; push_cast; omega
theorem starL_eq (l : List UInt8) : starL l = match at1 42 l with | none => -1 | some j => if (42 : UInt8) ∈ l.drop (j + 1) then -2 else (j : Int) := by
  unfold starL
  rw [starR_none l 0 (by omega)]
  cases at1 42 l with
  | none => rfl
  | some j => simp

/-- The first star of a text replaced. -/
def rep1 (new l : List UInt8) : List UInt8 := match at1 42 l with | none => l | some i => l.take i ++ new ++ l.drop (i + 1)
theorem replace_rep1 (l new : List UInt8) : replace l [42] new 1 = rep1 new l := by
  unfold replace rep1
  by_cases hn : ([42] : List UInt8) = new
  · rw [if_pos (by simp [hn])]
    cases e : at1 42 l with
    | none => rfl
    | some i =>
      obtain ⟨h1, _, _⟩ := at1_some e
      rw [← hn]
      simpa using h1
  · rw [if_neg (by simpa using hn)]
    unfold replaceNum
    rw [count_one]
    cases e : at1 42 l with
    | none =>
      have h0 : l.count 42 = 0 := List.count_eq_zero.2 (at1_none.1 e)
      rw [h0, if_pos (by omega)]
      rfl
    | some i =>
      obtain ⟨h1, h2, h3⟩ := at1_some e
      have hc : 1 ≤ l.count 42 := by rw [h1, List.count_append, List.count_cons_self]; omega
      rw [if_neg (by omega)]
      rw [show (1 : Int).toNat = 0 + 1 from rfl, replaceK_hit [42] new 0 l i (by rw [index_at1, e])]
      rfl
theorem count_star (l : List UInt8) : l.count 42 = match at1 42 l with | none => 0 | some j => 1 + (l.drop (j + 1)).count 42 := by
  cases e : at1 42 l with
  | none => exact List.count_eq_zero.2 (at1_none.1 e)
  | some i =>
    obtain ⟨h1, h2, h3⟩ := at1_some e
    have := congrArg (List.count 42) h1
    rw [List.count_append, List.count_cons_self, List.count_eq_zero.2 h2] at this
    simp only; omega

/-! ### the document's test -/
def pairAt (l : List UInt8) (i : Nat) (p : List UInt8) : Bool := (l.drop (i - 1)).take 2 == p
def okAt (l : List UInt8) (i : Nat) : Bool := okB (l.getD i 0) && !(decide (0 < i) && (pairAt l i [46, 46] || pairAt l i [64, 123]))
def allFrom (l : List UInt8) : Nat → Nat → Bool
  | 0, _ => true
  | f + 1, i => okAt l i && allFrom l f (i + 1)
def refValidL (l : List UInt8) : Bool :=
  decide (l.length ≤ 100) && decide (5 ≤ l.length) && (l.take 5 == refsL) && utf8R l.length l && !(hasSuffix l [46]) && (allFrom l l.length 0 && (splitC [] l).all okPart)

theorem allFrom_iff (l : List UInt8) : ∀ (f i : Nat), allFrom l f i = true ↔ ∀ j, i ≤ j → j < i + f → okAt l j = true
  | 0, i => by simp [allFrom]; intro j h1 h2; omega
  | f + 1, i => by
    rw [allFrom, Bool.and_eq_true, allFrom_iff l f (i + 1)]
    constructor
    · rintro ⟨h0, h1⟩ j hj1 hj2
      by_cases e : j = i
      · rw [e]; exact h0
      · exact h1 j (by omega) (by omega)
    · intro h
      exact ⟨h i (Nat.le_refl _) (by omega), fun j h1 h2 => h j (by omega) (by omega)⟩
theorem contains_pair (l : List UInt8) (x y : UInt8) : contains l [x, y] = true ↔ ∃ j, 1 ≤ j ∧ j < l.length ∧ (l.drop (j - 1)).take 2 = [x, y] := by
  unfold contains
  rw [decide_eq_true_iff]
  have hocc : ∀ i, occAt l [x, y] i = true ↔ (l.drop i).take 2 = [x, y] := by
    intro i
    unfold occAt
    rw [List.isPrefixOf_iff_prefix, List.prefix_iff_eq_take]
    constructor
    · intro h; exact h.symm
    · intro h; exact h.symm
  constructor
  · intro h
    by_cases hx : ∀ j, j ≤ l.length → occAt l [x, y] j = false
    · have := index_none (s := l) (sub := [x, y]) hx
      omega
    · have hx : ∃ j, j ≤ l.length ∧ occAt l [x, y] j = true := by
        apply Classical.byContradiction
        intro hn
        exact hx (fun j hj => by
          cases h : occAt l [x, y] j with
          | false => rfl
          | true => exact absurd ⟨j, hj, h⟩ hn)
      obtain ⟨j, hj, ho⟩ := hx
      have ht := (hocc j).1 ho
      have hl := congrArg List.length ht
      simp at hl
      exact ⟨j + 1, by omega, by omega, by simpa using ht⟩
  · rintro ⟨j, h1, h2, ht⟩
    have ho := (hocc (j - 1)).2 ht
    apply Classical.byContradiction
    intro hn
    have hm : index l [x, y] = -1 := by have := index_ge l [x, y]; omega
    rcases Nat.lt_or_ge (j - 1) (l.length + 1) with hlt | hge
    · -- the first place at which it stands
      have hex : ∃ i, i ≤ l.length ∧ occAt l [x, y] i = true ∧ ∀ k, k < i → occAt l [x, y] k = false := by
        have : ∀ n, n ≤ l.length → occAt l [x, y] n = true → ∃ i, i ≤ l.length ∧ occAt l [x, y] i = true ∧ ∀ k, k < i → occAt l [x, y] k = false := by
          intro n
          induction n using Nat.strongRecOn with
          | _ n ih =>
            intro hn1 hn2
            by_cases hk : ∀ k, k < n → occAt l [x, y] k = false
            · exact ⟨n, hn1, hn2, hk⟩
            · have : ∃ k, k < n ∧ occAt l [x, y] k = true := by
                apply Classical.byContradiction
                intro hc
                exact hk (fun k hk2 => by
                  cases h : occAt l [x, y] k with
                  | false => rfl
                  | true => exact absurd ⟨k, hk2, h⟩ hc)
              obtain ⟨k, hk1, hk2⟩ := this
              exact ih k hk1 (by omega) hk2
        exact this (j - 1) (by omega) ho
      obtain ⟨i, hi1, hi2, hi3⟩ := hex
      have := index_first hi1 hi2 hi3
      omega
    · omega

theorem allFrom_eq (l : List UInt8) : allFrom l l.length 0 = (l.all okB && !(contains l [46, 46]) && !(contains l [64, 123])) := by
  rw [Bool.eq_iff_iff, allFrom_iff, Bool.and_eq_true, Bool.and_eq_true, Bool.not_eq_true', Bool.not_eq_true', List.all_eq_true]
  constructor
  · intro h
    refine ⟨⟨?_, ?_⟩, ?_⟩
    · intro x hx
      obtain ⟨i, hi, rfl⟩ := List.mem_iff_getElem.1 hx
      have := h i (by omega) (by omega)
      unfold okAt at this
      rw [Bool.and_eq_true] at this
      have h1 := this.1
      rwa [List.getD_eq_getElem?_getD, List.getElem?_eq_getElem hi, Option.getD_some] at h1
    · cases hc : contains l [46, 46] with
      | false => rfl
      | true =>
        obtain ⟨j, h1, h2, h3⟩ := (contains_pair l 46 46).1 hc
        have := h j (by omega) (by omega)
        unfold okAt pairAt at this
        rw [h3] at this
        simp [show 0 < j by omega] at this
    · cases hc : contains l [64, 123] with
      | false => rfl
      | true =>
        obtain ⟨j, h1, h2, h3⟩ := (contains_pair l 64 123).1 hc
        have := h j (by omega) (by omega)
        unfold okAt pairAt at this
        rw [h3] at this
        simp [show 0 < j by omega] at this
  · rintro ⟨⟨h1, h2⟩, h3⟩ j _ hj
    unfold okAt pairAt
    have hj' : j < l.length := by omega
    rw [List.getD_eq_getElem?_getD, List.getElem?_eq_getElem hj', Option.getD_some, h1 _ (List.getElem_mem hj'), Bool.true_and]
    by_cases h0 : 0 < j
    · have n1 : ¬ (l.drop (j - 1)).take 2 = [46, 46] := fun e => by
        have := (contains_pair l 46 46).2 ⟨j, by omega, hj', e⟩
        rw [h2] at this; cases this
      have n2 : ¬ (l.drop (j - 1)).take 2 = [64, 123] := fun e => by
        have := (contains_pair l 64 123).2 ⟨j, by omega, hj', e⟩
        rw [h3] at this; cases this
      simp [n1, n2]
    · simp [h0]

/-- The document's test of a name is the program's. -/
theorem refValid_eq (l : List UInt8) : refValidL l = validL l := by
  unfold refValidL validL
  rw [allFrom_eq, utf8R_eq, ← split_C]
  have hp : (decide (5 ≤ l.length) && (l.take 5 == refsL)) = hasPrefix l refsL := hasPrefix_of_take l refsL
  rw [← hp]
  unfold validD
  cases validGoD l.length l <;> cases decide (l.length ≤ 100) <;> cases decide (5 ≤ l.length) <;> cases (l.take 5 == refsL) <;> cases l.all okB <;> cases (split l [47]).all okPart <;>
    cases contains l [46, 46] <;> cases contains l [64, 123] <;> cases hasSuffix l [46] <;> rfl

/-! ### refspecs -/
def sideL (l : List UInt8) : Bool × Bool := (decide (l.count 42 < 2) && validL (rep1 [120] l), decide (l.count 42 = 1))
def mayL (l : List UInt8) : Bool × Bool :=
  if starL l = -2 then (false, false) else if starL l < 0 then (validL l, false) else (validL (l.take (starL l).toNat ++ [120] ++ l.drop ((starL l).toNat + 1)), true)
theorem may_side (l : List UInt8) : mayL l = sideL l := by
  unfold mayL sideL rep1
  have hcs := count_star l
  have hst := starL_eq l
  cases e : at1 42 l with
  | none =>
    rw [e] at hcs hst
    simp only at hcs hst
    rw [hst, if_neg (by omega), if_pos (by omega), decide_eq_true (by omega : l.count 42 < 2), decide_eq_false (by omega : ¬ l.count 42 = 1)]
    simp
  | some j =>
    rw [e] at hcs hst
    simp only at hcs hst
    by_cases h : (42 : UInt8) ∈ l.drop (j + 1)
    · have hc : 1 ≤ (l.drop (j + 1)).count 42 := List.count_pos_iff.2 h
      rw [if_pos h] at hst
      rw [hst, if_pos rfl, decide_eq_false (by omega : ¬ l.count 42 < 2), decide_eq_false (by omega : ¬ l.count 42 = 1)]
      rfl
    · have hc : (l.drop (j + 1)).count 42 = 0 := List.count_eq_zero.2 h
      rw [if_neg h] at hst
      rw [hst, if_neg (by omega), if_neg (by omega), decide_eq_true (by omega : l.count 42 < 2), decide_eq_true (by omega : l.count 42 = 1)]
      simp

def srcDst (l : List UInt8) : List UInt8 × List UInt8 × Bool := match at1 58 l with | none => (l, l, false) | some i => (l.take i, l.drop (i + 1), true)
def noPlus (l : List UInt8) : List UInt8 := trimPrefix l [43]
def plus (l : List UInt8) : Bool := hasPrefix l [43]
/-- What a refspec is read as. -/
def parseL (l : List UInt8) : Option (Bool × List UInt8 × List UInt8) :=
  let p := srcDst (noPlus l)
  if (sideL p.2.1).1 = false then none
  else if ((if p.1 = [] then (p.2.2, false) else sideL p.1).1 = false ∨ (if p.1 = [] then (p.2.2, false) else sideL p.1).2 ≠ (sideL p.2.1).2) then none
  else some (plus l, p.1, p.2.1)
/-- What it maps. -/
def mapL (src dst s : List UInt8) : Option (List UInt8) :=
  match at1 42 src with
  | none => if s ≠ src then none else if validL dst then some dst else none
  | some i =>
    if hasPrefix s (src.take i) = false then none
    else if hasSuffix (s.drop i) (src.drop (i + 1)) = false then none
    else if validL (rep1 ((s.drop i).take (s.length - i - (src.drop (i + 1)).length)) dst) then some (rep1 ((s.drop i).take (s.length - i - (src.drop (i + 1)).length)) dst) else none
end Go.Proofs.YtjmlppkleeegkaaDoor.Nm
