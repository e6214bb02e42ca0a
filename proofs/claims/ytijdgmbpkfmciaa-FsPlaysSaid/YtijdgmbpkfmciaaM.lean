/- The file system: Used. -/
import Derived.Test.YtijdgmbpkfmciaaL
import Derived.Maps.RangeWalk
namespace Go.Proofs.Ytijdgmbpkfmciaa.Fs
open Go.RowKit Go.Maps Go.ChangeMaps Go.WideMaps Go.Joins Go.Sort

def lenAt (s : St) (d : Dm) : Nat := match d with | .lit (.int _ k) => (s.files (k.toNat - 1)).1.length | _ => 0
def sumE (s : St) (left : Lit → Bool) (es : List (Lit × Dm)) : Nat := (es.map fun p => if left p.1 then 0 else lenAt s p.2).sum
def entsOf (D : Dm) : List (Lit × Dm) := match D with | .map es => es | _ => []
def used (s : St) : Nat := sumE s (fun _ => false) (entsOf s.names)

theorem sumE_le (s : St) (left : Lit → Bool) : ∀ es : List (Lit × Dm), sumE s left es ≤ sumE s (fun _ => false) es
  | [] => Nat.le_refl _
  | p :: es => by
    have := sumE_le s left es
    unfold sumE at this ⊢
    simp only [List.map_cons, List.sum_cons, Bool.false_eq_true, if_false] at this ⊢
    split <;> omega
theorem sumE_none (s : St) {left : Lit → Bool} {es : List (Lit × Dm)} (h : ∀ p ∈ es, left p.1 = true) : sumE s left es = 0 := by
  unfold sumE
  rw [List.map_congr_left (g := fun _ => 0) (fun p hp => by rw [if_pos (h p hp)])]
  induction es with
  | nil => rfl
  | cons a l ih => simpa using ih fun p hp => h p (List.mem_cons_of_mem _ hp)
theorem sumE_all (s : St) {left : Lit → Bool} {es : List (Lit × Dm)} (h : ∀ k, left k = false) : sumE s left es = sumE s (fun _ => false) es := by
  unfold sumE
  congr 1
  exact List.map_congr_left fun p _ => by rw [h]
theorem sumE_miss (s : St) {left : Lit → Bool} {k : Lit} : ∀ {es : List (Lit × Dm)}, (∀ p ∈ es, p.1 ≠ k) → sumE s (fun z => left z && !z.sameKey k) es = sumE s left es
  | [], _ => rfl
  | p :: es, h => by
    have ih := sumE_miss s (left := left) (k := k) (es := es) fun q hq => h q (List.mem_cons_of_mem _ hq)
    have hp := sameKey_ne (h p (List.mem_cons_self ..))
    unfold sumE at ih ⊢
    simp only [List.map_cons, List.sum_cons]
    rw [ih]
    simp [hp]
theorem sumE_step (s : St) {left : Lit → Bool} {k : Lit} {d : Dm} (hk : k.sameKey k = true) (hl : left k = true) : ∀ {es : List (Lit × Dm)}, es.Pairwise (fun p q => p.1 ≠ q.1) → (k, d) ∈ es →
    sumE s (fun z => left z && !z.sameKey k) es = sumE s left es + lenAt s d
  | [], _, h => by cases h
  | p :: es, hp, h => by
    rw [List.pairwise_cons] at hp
    rcases List.mem_cons.1 h with e | h
    · subst e
      have hm := sumE_miss s (left := left) (k := k) (es := es) fun q hq => (hp.1 q hq).symm
      unfold sumE at hm ⊢
      simp only [List.map_cons, List.sum_cons]
      rw [hm, hl, hk]
      simp
      omega
    · have ih := sumE_step s hk hl hp.2 h
      have hne : p.1 ≠ k := hp.1 _ h
      unfold sumE at ih ⊢
      simp only [List.map_cons, List.sum_cons]
      rw [ih]
      simp only [sameKey_ne hne, Bool.not_false, Bool.and_true]
      omega

theorem entry_of {D : Dm} {k : Lit} {y : Dm} (hD : IsMap D) (hs : ∃ x, k = .string x) (h : ∀ z, D.atKey k z = y) : (k, y) ∈ entsOf D := by
  have hh := has_true_of_atKey h
  obtain ⟨es, rfl⟩ := hD
  obtain ⟨x, rfl⟩ := hs
  rw [has_eq, List.any_eq_true] at hh
  unfold entsOf
  have ha := h (.lit (.int .i64 0))
  unfold DataW.atKey at ha
  simp only at ha
  cases hf : es.find? (fun p => p.1.sameKey (.string x)) with
  | none =>
    obtain ⟨p, hp, hq⟩ := hh
    exact absurd hq (by simpa using List.find?_eq_none.1 hf p hp)
  | some p =>
    rw [hf] at ha
    have h1 := List.find?_some hf
    have h2 := List.mem_of_find?_eq_some hf
    have e1 : p.1 = .string x := by
      obtain ⟨p1, p2⟩ := p
      simp only at h1 ⊢
      cases p1 <;> simp [Lit.sameKey] at h1
      rw [h1]
    simp only at ha
    rw [← e1, ← ha]
    exact h2
end Go.Proofs.Ytijdgmbpkfmciaa.Fs
