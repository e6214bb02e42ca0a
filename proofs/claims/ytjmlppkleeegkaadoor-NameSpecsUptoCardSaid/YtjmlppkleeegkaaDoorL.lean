/- name.Map, joined. -/
import Derived.Test.YtjmlppkleeegkaaDoorK
namespace Go.Proofs.YtjmlppkleeegkaaDoor.Nm
open Go.RowKit Go.Lib

theorem replace_big (s new : ByteArray) (w : World) (hG : Glob w) (hs : s.size ≤ 2097152) (hn : new.size ≤ 2097152) :
    Calls Tryd.prog 24 #[.string s, .string ⟨#[42]⟩, .string new, .int .i64 1] w fun e w' => e = .returned (.string (S (rep1 new.data.toList s.data.toList))) ∧ Below w.heap.size w w' := by
  obtain ⟨m, hm⟩ := hG.most
  have hc := countB_le ⟨#[42]⟩ (by decide) s.size s (Nat.le_refl _)
  have hmul : countB s ⟨#[42]⟩ * new.size ≤ 2097152 * 2097152 := Nat.mul_le_mul (by omega) hn
  have := Tryd.strings_Replace s ⟨#[42]⟩ new 1 m w (by omega) hm (by decide) (by omega)
  rw [show (⟨#[42]⟩ : ByteArray).data.toList = [42] from rfl, replace_rep1] at this
  exact this

theorem trimPrefix_hit' {l p : List UInt8} (h : hasPrefix l p = true) : trimPrefix l p = l.drop p.length := by unfold trimPrefix; rw [if_pos h]
theorem trimSuffix_hit' {l p : List UInt8} (h : hasSuffix l p = true) : trimSuffix l p = l.take (l.length - p.length) := by unfold trimSuffix; rw [if_pos h]
theorem validAt_any (x : ByteArray) (hx : x.size ≤ 9223372036854775807) : ValidAt x (validL x.data.toList) := fun w hG => valid_any x w hG hx

theorem beq_toList (a b : ByteArray) : (a.toList == b.toList) = (a.data.toList == b.data.toList) := by rw [Lib.toList_data, Lib.toList_data]

set_option maxRecDepth 100000 in
theorem map_any (f : Bool) (src dst s : ByteArray) (w : World) (hG : Glob w) (h1 : src.size ≤ 2097152) (h2 : dst.size ≤ 2097152) (h3 : s.size ≤ 2097152) :
    Calls Tryd.prog 10 #[.agg #[.bool f, .string src, .string dst], .string s] w fun e w' => e = .returned (mapV (mapL src.data.toList dst.data.toList s.data.toList)) ∧ Below w.heap.size w w' := by
  have cC : ∀ w, Glob w → Calls Tryd.prog 21 #[.string src, .string ⟨#[42]⟩] w fun e w' => e = .returned (.tuple #[.string (S (cut src.data.toList [42]).1), .string (S (cut src.data.toList [42]).2.1), .bool (cut src.data.toList [42]).2.2]) ∧ ∃ n, w' = w.drewN n := by
    intro w hG
    obtain ⟨m, hm⟩ := hG.most
    exact Tryd.strings_Cut src ⟨#[42]⟩ m w (by omega) hm
  rw [cut_at1] at cC
  unfold mapL
  cases hat : at1 42 src.data.toList with
  | none =>
    rw [hat] at cC
    simp only at cC ⊢
    by_cases he : s.data.toList = src.data.toList
    · have hne : (s.toList == src.toList) = true := by rw [beq_toList, beq_iff_eq]; exact he
      rw [if_neg (fun h => h he)]
      have hV := validAt_any dst (by omega)
      cases hv : validL dst.data.toList with
      | false =>
        rw [hv] at hV
        rw [if_neg (by simp)]
        exact map_m2 f src dst s _ _ ⟨#[]⟩ ⟨#[]⟩ ⟨#[]⟩ w hG cC hV hne
      | true =>
        rw [hv] at hV
        rw [if_pos rfl]
        have := map_m3 f src dst s _ _ ⟨#[]⟩ ⟨#[]⟩ ⟨#[]⟩ w hG cC hV hne
        rw [show mapV (some dst.data.toList) = .tuple #[.string dst, .bool true] by unfold mapV; simp only [S_of]]
        exact this
    · have hne : (s.toList == src.toList) = false := by rw [beq_toList, beq_eq_false_iff_ne]; exact he
      rw [if_pos he]
      exact map_m1 f src dst s _ _ ⟨#[]⟩ ⟨#[]⟩ ⟨#[]⟩ w hG cC hne
  | some i =>
    obtain ⟨_, _, hi⟩ := at1_some hat
    rw [hat] at cC
    simp only at cC ⊢
    have hlen : ∀ l : List UInt8, (S l).size = l.length := fun l => by rw [Lib.size_eq, S_data]
    have hil : (src.data.toList.take i).length = i := by rw [List.length_take]; omega
    have cP : ∀ w, Calls Tryd.prog 20 #[.string s, .string (S (src.data.toList.take i))] w fun e w' => e = .returned (.tuple #[.string (S (trimPrefix s.data.toList (src.data.toList.take i))), .bool (hasPrefix s.data.toList (src.data.toList.take i))]) ∧ w' = w := fun w => by
      have := Tryd.strings_CutPrefix s (S (src.data.toList.take i)) w
      rw [S_data] at this
      exact this
    cases hp : hasPrefix s.data.toList (src.data.toList.take i) with
    | false =>
      rw [hp] at cP
      rw [if_pos rfl]
      exact map_m4 f src dst s _ _ _ ⟨#[]⟩ ⟨#[]⟩ w hG cC cP
    | true =>
      rw [hp, trimPrefix_hit' hp, hil] at cP
      rw [if_neg (by simp)]
      have hd : (s.data.toList.drop i).length ≤ 2097152 := by rw [List.length_drop, ← Lib.size_eq]; omega
      have cS : ∀ w, Calls Tryd.prog 23 #[.string (S (s.data.toList.drop i)), .string (S (src.data.toList.drop (i + 1)))] w fun e w' => e = .returned (.tuple #[.string (S (trimSuffix (s.data.toList.drop i) (src.data.toList.drop (i + 1)))), .bool (hasSuffix (s.data.toList.drop i) (src.data.toList.drop (i + 1)))]) ∧ w' = w := fun w => by
        have := Tryd.strings_CutSuffix (S (s.data.toList.drop i)) (S (src.data.toList.drop (i + 1))) w (by rw [hlen]; omega)
        rw [S_data, S_data] at this
        exact this
      cases hs : hasSuffix (s.data.toList.drop i) (src.data.toList.drop (i + 1)) with
      | false =>
        rw [hs] at cS
        rw [if_pos rfl]
        exact map_m5 f src dst s _ _ _ _ ⟨#[]⟩ w hG cC cP cS
      | true =>
        rw [hs, trimSuffix_hit' hs] at cS
        rw [if_neg (by simp)]
        rw [show (s.data.toList.drop i).length - (src.data.toList.drop (i + 1)).length = s.data.toList.length - i - (src.data.toList.drop (i + 1)).length by rw [List.length_drop]] at cS
        generalize hM : (s.data.toList.drop i).take (s.data.toList.length - i - (src.data.toList.drop (i + 1)).length) = M at cS ⊢
        have hMl : M.length ≤ 2097152 := by rw [← hM, List.length_take]; omega
        have cR : ∀ w, Glob w → Calls Tryd.prog 24 #[.string dst, .string ⟨#[42]⟩, .string (S M), .int .i64 1] w fun e w' => e = .returned (.string (S (rep1 M dst.data.toList))) ∧ Below w.heap.size w w' := fun w hG => by
          have := replace_big dst (S M) w hG h2 (by rw [hlen]; exact hMl)
          rw [S_data] at this
          exact this
        have hr := rep1_len M dst.data.toList
        rw [← Lib.size_eq] at hr
        have hV := validAt_any (S (rep1 M dst.data.toList)) (by rw [hlen]; omega)
        rw [S_data] at hV
        cases hv : validL (rep1 M dst.data.toList) with
        | false =>
          rw [hv] at hV
          rw [if_neg (by simp)]
          exact map_m6 f src dst s _ _ _ _ _ w hG cC cP cS cR hV
        | true =>
          rw [hv] at hV
          rw [if_pos rfl]
          exact map_m7 f src dst s _ _ _ _ _ w hG cC cP cS cR hV
end Go.Proofs.YtjmlppkleeegkaaDoor.Nm
