/- The plain laws under the statements on names, second part: the document's own reading of names and refspecs, and that it is the program's. No program in sight. -/
import Derived.Test.YtjmlppkleeegkaaDoorPlain
namespace Go.Proofs.YtjmlppkleeegkaaDoor.Nm
open Go.Lib

/-! ### a byte's first place -/
theorem index_cons (b c : UInt8) (l : List UInt8) : index (b :: l) [c] = if b = c then 0 else if index l [c] = -1 then -1 else index l [c] + 1 := by
  have e0 : index (b :: l) [c] = if [c].isPrefixOf (b :: l) then 0 else if index l [c] == -1 then -1 else index l [c] + 1 := by rw [index]
  rw [e0]
  by_cases h : b = c
  · subst h; unfold List.isPrefixOf; simp
  · have h1 : ([c].isPrefixOf (b :: l)) = false := by unfold List.isPrefixOf; simp [Ne.symm h]
    rw [h1, if_neg h]
    by_cases e : index l [c] = -1
    · rw [if_pos e, if_pos (beq_iff_eq.2 e)]; rfl
    · rw [if_neg e, if_neg (fun q => e (beq_iff_eq.1 q))]; rfl
theorem index_nil (c : UInt8) : index [] [c] = -1 := by simp [index]

/-- Where the first c stands; none. -/
def at1 (c : UInt8) : List UInt8 → Option Nat
  | [] => none
  | b :: l => if b = c then some 0 else (at1 c l).map (· + 1)
theorem index_at1 (c : UInt8) : ∀ l, index l [c] = match at1 c l with | none => -1 | some i => (i : Int)
  | [] => by rw [index_nil]; rfl
  | b :: l => by
    rw [index_cons, at1]
    have ih := index_at1 c l
    by_cases h : b = c
    · rw [if_pos h, if_pos h]; rfl
    · rw [if_neg h, if_neg h]
      cases e : at1 c l with
      | none => rw [e] at ih; simp only at ih; rw [if_pos ih]; rfl
      | some i => rw [e] at ih; simp only at ih; rw [if_neg (by rw [ih]; omega), ih]; rfl
theorem at1_none {c : UInt8} : ∀ {l : List UInt8}, at1 c l = none ↔ c ∉ l
  | [] => by simp [at1]
  | b :: l => by
    rw [at1]
    by_cases h : b = c
    · rw [if_pos h]; simp [h]
    · rw [if_neg h]
      have := at1_none (c := c) (l := l)
      simp [this, Ne.symm h]
theorem at1_some {c : UInt8} : ∀ {l : List UInt8} {i : Nat}, at1 c l = some i → l = l.take i ++ c :: l.drop (i + 1) ∧ c ∉ l.take i ∧ i < l.length
  | [], i, h => by simp [at1] at h
  | b :: l, i, h => by
    rw [at1] at h
    by_cases hb : b = c
    · rw [if_pos hb] at h; cases h; subst hb; simp
    · rw [if_neg hb] at h
      cases e : at1 c l with
      | none => rw [e] at h; cases h
      | some j =>
        rw [e] at h; cases h
        obtain ⟨h1, h2, h3⟩ := at1_some e
        refine ⟨?_, ?_, by simp; omega⟩
        · simp only [List.take_succ_cons, List.drop_succ_cons, List.cons_append]
          rw [← h1]
        · simp only [List.take_succ_cons, List.mem_cons, not_or]
          exact ⟨Ne.symm hb, h2⟩
theorem at1_mk {c : UInt8} : ∀ (a : List UInt8) (r : List UInt8), c ∉ a → at1 c (a ++ c :: r) = some a.length
  | [], r, _ => by simp [at1]
  | b :: a, r, h => by
    have hb : b ≠ c := fun e => h (by simp [e])
    rw [List.cons_append, at1, if_neg hb, at1_mk a r (fun m => h (by simp [m]))]
    rfl

theorem cut_at1 (c : UInt8) (l : List UInt8) : cut l [c] = match at1 c l with | none => (l, [], false) | some i => (l.take i, l.drop (i + 1), true) := by
  unfold cut
  rw [index_at1]
  cases at1 c l with
  | none => simp
  | some i => simp

/-! ### the parts between two / -/
def splitC (cur : List UInt8) : List UInt8 → List (List UInt8)
  | [] => [cur]
  | b :: t => if b = 47 then cur :: splitC [] t else splitC (cur ++ [b]) t
theorem splitC_index : ∀ (s cur : List UInt8), splitC cur s = match at1 47 s with | none => [cur ++ s] | some i => (cur ++ s.take i) :: splitC [] (s.drop (i + 1))
  | [], cur => by simp [splitC, at1]
  | b :: t, cur => by
    rw [splitC, at1]
    by_cases h : b = 47
    · rw [if_pos h, if_pos h]; simp
    · rw [if_neg h, if_neg h, splitC_index t (cur ++ [b])]
      cases at1 47 t with
      | none => simp
      | some i => simp
theorem splitK_C : ∀ (k : Nat) (s : List UInt8), count s [47] ≤ k → splitK [47] 0 k s = splitC [] s
  | 0, s, h => by
    have hc : count s [47] = 0 := by omega
    rw [count_one] at hc
    have hn : (47 : UInt8) ∉ s := List.count_eq_zero.1 hc
    rw [splitC_index, at1_none.2 hn]; rfl
  | k + 1, s, h => by
    rw [splitC_index, splitK, index_at1]
    cases e : at1 47 s with
    | none => simp
    | some i =>
      obtain ⟨h1, h2, h3⟩ := at1_some e
      have hc : count (s.drop (i + 1)) [47] ≤ k := by
        rw [count_one] at h ⊢
        rw [h1, List.count_append, List.count_cons_self] at h
        omega
      have hne : ¬ (((i : Nat) : Int) == -1) = true := fun q => by have := beq_iff_eq.1 q; omega
      rw [if_neg hne]
      simp only [Int.toNat_natCast, Nat.add_zero, List.length_singleton, List.nil_append]
      rw [splitK_C k _ hc]
theorem split_C (s : List UInt8) : split s [47] = splitC [] s := splitK_C _ s (Nat.le_refl _)

/-! ### the document's UTF8 -/
def utf8R : Nat → List UInt8 → Bool
  | 0, _ => true
  | f + 1, l => if l = [] then true else if (decodeL l).1 = 65533 ∧ (l.length < 3 ∨ l.take 3 ≠ [239, 191, 189]) then false else utf8R f (l.drop (decodeL l).2)

theorem width_err (l : List UInt8) (h : (decodeL l).1 = 65533) : (decodeL l).2 = 1 ↔ (l.length < 3 ∨ l.take 3 ≠ [239, 191, 189]) := by
  have key : (l.length < 3 ∨ l.take 3 ≠ [239, 191, 189]) ↔ ¬ (3 ≤ l.length ∧ (l.getD 0 0).toNat = 239 ∧ (l.getD 1 0).toNat = 191 ∧ (l.getD 2 0).toNat = 189) := by
    match l with
    | [] => simp
    | [a] => simp
    | [a, b] => simp
    | a :: b :: c :: t =>
      simp only [List.length_cons, List.take_succ_cons, List.take_zero, List.getD_cons_zero, List.getD_cons_succ]
      have e : ∀ (x : UInt8) (n : Nat) (hn : n < 256), x = UInt8.ofNat n ↔ x.toNat = n := fun x n hn => by
        constructor
        · intro h; rw [h]; simp; omega
        · intro h; rw [← h]; simp
      have ea := e a 239 (by omega)
      have eb := e b 191 (by omega)
      have ec := e c 189 (by omega)
      rw [show UInt8.ofNat 239 = (239 : UInt8) from rfl] at ea
      rw [show UInt8.ofNat 191 = (191 : UInt8) from rfl] at eb
      rw [show UInt8.ofNat 189 = (189 : UInt8) from rfl] at ec
      have h3 : ¬ (t.length + 1 + 1 + 1 < 3) := by omega
      have h3' : 3 ≤ t.length + 1 + 1 + 1 := by omega
      simp only [h3, h3', false_or, true_and, ne_eq, List.cons.injEq, and_true, ea, eb, ec]
  rw [key]
  rw [decodeL_N] at h ⊢
  have b0 := (l.getD 0 0).toNat_lt
  have b1 := (l.getD 1 0).toNat_lt
  have b2 := (l.getD 2 0).toNat_lt
  have b3 := (l.getD 3 0).toNat_lt
  generalize h0 : (l.getD 0 0).toNat = x0 at *
  generalize h1 : (l.getD 1 0).toNat = x1 at *
  generalize h2 : (l.getD 2 0).toNat = x2 at *
  generalize h3 : (l.getD 3 0).toNat = x3 at *
  generalize l.length = n at *
  unfold decodeN at h ⊢
  by_cases c0 : x0 < 128
  · rw [if_pos c0] at h; simp only at h; omega
  · rw [if_neg c0] at h ⊢
    by_cases c1 : x0 / 32 = 6 ∧ (1 < n ∧ x1 / 64 = 2)
    · rw [if_pos c1] at h ⊢
      by_cases d : x0 % 32 * 64 + x1 % 64 ≥ 128
      · rw [if_pos d] at h; simp only at h; omega
      · rw [if_neg d]; simp only [true_iff]; omega
    · rw [if_neg c1] at h ⊢
      by_cases c2 : x0 / 16 = 14 ∧ (1 < n ∧ x1 / 64 = 2) ∧ (2 < n ∧ x2 / 64 = 2)
      · rw [if_pos c2] at h ⊢
        by_cases d : x0 % 16 * 4096 + x1 % 64 * 64 + x2 % 64 ≥ 2048 ∧ (x0 % 16 * 4096 + x1 % 64 * 64 + x2 % 64 < 55296 ∨ (57344 ≤ x0 % 16 * 4096 + x1 % 64 * 64 + x2 % 64 ∧ x0 % 16 * 4096 + x1 % 64 * 64 + x2 % 64 ≤ 1114111))
        · rw [if_pos d] at h ⊢; simp only at h ⊢
          have : 3 ≤ n ∧ x0 = 239 ∧ x1 = 191 ∧ x2 = 189 := by omega
          simp [this]
        · rw [if_neg d]; simp only [true_iff]; omega
      · rw [if_neg c2] at h ⊢
        by_cases c3 : x0 / 8 = 30 ∧ (1 < n ∧ x1 / 64 = 2) ∧ (2 < n ∧ x2 / 64 = 2) ∧ (3 < n ∧ x3 / 64 = 2)
        · rw [if_pos c3] at h ⊢
          by_cases d : x0 % 8 * 262144 + x1 % 64 * 4096 + x2 % 64 * 64 + x3 % 64 ≥ 65536 ∧ (x0 % 8 * 262144 + x1 % 64 * 4096 + x2 % 64 * 64 + x3 % 64 < 55296 ∨ (57344 ≤ x0 % 8 * 262144 + x1 % 64 * 4096 + x2 % 64 * 64 + x3 % 64 ∧ x0 % 8 * 262144 + x1 % 64 * 4096 + x2 % 64 * 64 + x3 % 64 ≤ 1114111))
          · rw [if_pos d] at h; simp only at h; omega
          · rw [if_neg d]; simp only [true_iff]; omega
        · rw [if_neg c3]; simp only [true_iff]; omega

theorem utf8R_eq : ∀ (f : Nat) (l : List UInt8), utf8R f l = validGoD f l
  | 0, _ => rfl
  | f + 1, l => by
    unfold utf8R validGoD
    by_cases hne : l = []
    · rw [if_pos hne, if_pos hne]
    · rw [if_neg hne, if_neg hne]
      by_cases h : (decodeL l).1 = 65533
      · have hw := width_err l h
        by_cases h1 : (decodeL l).2 = 1
        · rw [if_pos ⟨h, hw.1 h1⟩, if_pos ⟨h, h1⟩]
        · rw [if_neg (fun c => h1 (hw.2 c.2)), if_neg (fun c => h1 c.2), utf8R_eq f]
      · rw [if_neg (fun c => h c.1), if_neg (fun c => h c.1), utf8R_eq f]

end Go.Proofs.YtjmlppkleeegkaaDoor.Nm
