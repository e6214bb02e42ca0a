/- name.Parse, joined; what is read is good. -/
import Derived.Test.YtjmlppkleeegkaaDoorI
namespace Go.Proofs.YtjmlppkleeegkaaDoor.Nm
open Go.RowKit Go.Lib

theorem noPlus_le (l : List UInt8) : (noPlus l).length ≤ l.length := Lib.trimPrefix_le l [43]
theorem srcDst_le (l : List UInt8) : (srcDst l).1.length ≤ l.length ∧ (srcDst l).2.1.length ≤ l.length := by
  unfold srcDst
  cases at1 58 l with
  | none => simp
  | some i => simp; omega
theorem sideAt_any (x : ByteArray) (hx : x.size < 4294967281) : SideAt x (sideL x.data.toList).1 (sideL x.data.toList).2 := fun w hG => side_any x w hG hx

theorem nil_toList (x : ByteArray) : x.toList = x.data.toList := Lib.toList_data x

set_option maxRecDepth 100000 in
theorem parse_any (s : ByteArray) (w : World) (hG : Glob w) (hs : s.size < 4294967281) :
    Calls Tryd.prog 8 #[.string s] w fun e w' => e = .returned (specV (parseL s.data.toList)) ∧ Below w.heap.size w w' := by
  have cP : ∀ w, Calls Tryd.prog 20 #[.string s, .string ⟨#[43]⟩] w fun e w' => e = .returned (.tuple #[.string (S (noPlus s.data.toList)), .bool (plus s.data.toList)]) ∧ w' = w := fun w => Tryd.strings_CutPrefix s ⟨#[43]⟩ w
  have hl1 := noPlus_le s.data.toList
  rw [← Lib.size_eq] at hl1
  have hz1 : (S (noPlus s.data.toList)).size < 4294967281 := by rw [Lib.size_eq, S_data]; omega
  have cC : ∀ w, Glob w → Calls Tryd.prog 21 #[.string (S (noPlus s.data.toList)), .string ⟨#[58]⟩] w fun e w' => e = .returned (.tuple #[.string (S (cut (noPlus s.data.toList) [58]).1), .string (S (cut (noPlus s.data.toList) [58]).2.1), .bool (cut (noPlus s.data.toList) [58]).2.2]) ∧ ∃ n, w' = w.drewN n := by
    intro w hG
    obtain ⟨m, hm⟩ := hG.most
    have := Tryd.strings_Cut (S (noPlus s.data.toList)) ⟨#[58]⟩ m w hz1 hm
    rw [S_data] at this
    exact this
  have hsd := srcDst_le (noPlus s.data.toList)
  unfold parseL
  generalize plus s.data.toList = f at cP ⊢
  generalize noPlus s.data.toList = L at cP cC hl1 hz1 hsd ⊢
  have hsz : ∀ l : List UInt8, l.length ≤ L.length → (S l).size < 4294967281 := fun l h => by rw [Lib.size_eq, S_data]; omega
  have hsa : ∀ l : List UInt8, l.length ≤ L.length → SideAt (S l) (sideL l).1 (sideL l).2 := fun l h => by
    have := sideAt_any (S l) (hsz l h)
    rw [S_data] at this
    exact this
  rw [cut_at1] at cC
  unfold srcDst at hsd ⊢
  cases hat : at1 58 L with
  | none =>
    rw [hat] at cC hsd
    simp only at cC hsd ⊢
    have hD := hsa L (Nat.le_refl _)
    generalize sideL L = D at hD ⊢
    obtain ⟨d1, d2⟩ := D
    simp only at hD ⊢
    cases d1 with
    | false => exact parse_f0 s _ _ _ f d2 w hG cP cC hD
    | true =>
      rw [if_neg (by simp)]
      by_cases hL : L = []
      · subst hL
        rw [if_pos (.inl (by simp))]
        exact parse_f1 s _ _ f d2 w hG cP cC hD hD
      · have hne : (S L).toList ≠ [] := by rw [nil_toList, S_data]; exact hL
        rw [if_neg (by simp [hL])]
        cases d2 with
        | true => exact parse_f2 s _ _ _ f w hG cP cC hD hD hne
        | false => exact parse_f3 s _ _ _ f w hG cP cC hD hD hne
  | some i =>
    rw [hat] at cC hsd
    simp only at cC hsd ⊢
    have hD := hsa (L.drop (i + 1)) hsd.2
    have hF := hsa (L.take i) hsd.1
    generalize sideL (L.drop (i + 1)) = D at hD ⊢
    obtain ⟨d1, d2⟩ := D
    simp only at hD ⊢
    cases d1 with
    | false => exact parse_t1 s _ _ _ f d2 w hG cP cC hD
    | true =>
      rw [if_neg (by simp)]
      generalize hT : L.take i = T at hF cC ⊢
      by_cases hL : T = []
      · subst hL
        generalize sideL [] = F at hF
        obtain ⟨f1, f2⟩ := F
        simp only at hF
        cases d2 with
        | true =>
          rw [if_pos (.inr (by simp))]
          exact parse_t2a s _ _ f f1 f2 w hG cP cC hD hF
        | false =>
          rw [if_neg (by simp)]
          exact parse_t2b s _ _ f f1 f2 w hG cP cC hD hF
      · have hne : (S T).toList ≠ [] := by rw [nil_toList, S_data]; exact hL
        rw [if_neg hL]
        generalize sideL T = F at hF ⊢
        obtain ⟨f1, f2⟩ := F
        simp only at hF ⊢
        cases f1 with
        | false =>
          rw [if_pos (.inl rfl)]
          exact parse_t3 s _ _ _ f d2 f2 w hG cP cC hD hF hne
        | true =>
          cases f2 <;> cases d2
          · rw [if_neg (by simp)]; exact parse_t4 s _ _ _ f w hG cP cC hD hF hne
          · rw [if_pos (.inr (by simp))]; exact parse_t7 s _ _ _ f w hG cP cC hD hF hne
          · rw [if_pos (.inr (by simp))]; exact parse_t6 s _ _ _ f w hG cP cC hD hF hne
          · rw [if_neg (by simp)]; exact parse_t5 s _ _ _ f w hG cP cC hD hF hne
end Go.Proofs.YtjmlppkleeegkaaDoor.Nm
