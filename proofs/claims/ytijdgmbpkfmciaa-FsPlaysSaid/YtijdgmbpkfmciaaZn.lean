/- The file system: how much of a map has been told to its copy. -/
import Derived.Test.YtijdgmbpkfmciaaZm
import Derived.Test.YtijdgmbpkfmciaaU
namespace Go.Proofs.Ytijdgmbpkfmciaa.Fs
open Go.RowKit Go.Maps Go.ChangeMaps Go.WideMaps Go.Joins Go.Sort

/-- What the copy of a map has so far: just what was told, each by its file's twin. -/
def Half (src D' : Dm) (left : Lit → Bool) (T : List (Nat × Nat)) : Prop :=
  ∀ nm : ByteArray, (Maps.has D' (kl nm) = true ↔ (Maps.has src (kl nm) = true ∧ left (kl nm) = false)) ∧
    (Maps.has D' (kl nm) = true → ∃ x y, look src nm = x + 1 ∧ look D' nm = y + 1 ∧ T.lookup x = some y)
theorem half_start (src : Dm) (T : List (Nat × Nat)) : Half src (.map []) (Maps.has src) T := fun nm => by
  refine ⟨⟨fun h => ?_, fun h => ?_⟩, fun h => ?_⟩
  · cases h
  · have h2 := h.2
    rw [h.1] at h2
    cases h2
  · cases h
theorem half_more {src D' : Dm} {left : Lit → Bool} {T T2 : List (Nat × Nat)} (h : Half src D' left T) (hT : ∀ z u, T.lookup z = some u → T2.lookup z = some u) : Half src D' left T2 := fun nm =>
  ⟨(h nm).1, fun hh => by
    obtain ⟨x, y, h1, h2, h3⟩ := (h nm).2 hh
    exact ⟨x, y, h1, h2, hT _ _ h3⟩⟩
theorem half_step {src D' : Dm} {left : Lit → Bool} {T : List (Nat × Nat)} (hD : IsMap D') (h : Half src D' left T) (nm : ByteArray) (hh : Maps.has src (kl nm) = true) {x y : Nat} (hx : look src nm = x + 1) (hy : T.lookup x = some y) :
    Half src (D'.put (kl nm) (.lit (.int .i64 (y + 1 : Nat)))) (fun z => left z && !z.sameKey (kl nm)) T := by
  intro n2
  by_cases e : n2 = nm
  · subst e
    have h1 : Maps.has (D'.put (kl n2) (.lit (.int .i64 (y + 1 : Nat)))) (kl n2) = true := by first | exact has_put_same hD (kl_isKey _) _ | simp [has_put_same]
    refine ⟨⟨fun _ => ⟨hh, by simp [kl, Lit.sameKey]⟩, fun _ => h1⟩, fun _ => ⟨x, y, hx, look_put_same hD n2 (y + 1), hy⟩⟩
  · have hne : kl n2 ≠ kl nm := kl_ne e
    rw [has_put_other hne, look_put_other e]
    refine ⟨?_, (h n2).2⟩
    rw [(h n2).1]
    have hs : (kl n2).sameKey (kl nm) = false := by
      cases hc : (kl n2).sameKey (kl nm) with
      | false => rfl
      | true => exact absurd (by simpa [kl, Lit.sameKey] using hc) hne
    simp [hs]
theorem half_end {src D' : Dm} {left : Lit → Bool} {T : List (Nat × Nat)} (h : Half src D' left T) (hl : ∀ z, left z = false) (nm : ByteArray) :
    Maps.has D' (kl nm) = Maps.has src (kl nm) ∧ (Maps.has D' (kl nm) = true → ∃ x y, look src nm = x + 1 ∧ look D' nm = y + 1 ∧ T.lookup x = some y) := by
  refine ⟨?_, (h nm).2⟩
  rw [Bool.eq_iff_iff, (h nm).1]
  simp [hl]
end Go.Proofs.Ytijdgmbpkfmciaa.Fs
