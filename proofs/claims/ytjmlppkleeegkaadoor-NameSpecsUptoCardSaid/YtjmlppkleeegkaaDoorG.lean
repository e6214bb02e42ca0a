/- Walks: sides of refspecs, names under names, texts of refspecs. -/
import Derived.Test.YtjmlppkleeegkaaDoorF
import Derived.Deep.RegionWith
namespace Go.Proofs.YtjmlppkleeegkaaDoor.Nm
open Go.RowKit Go.Lib
open Go (below_drewN)

abbrev lim : Nat := 4294967000

theorem rep1_len (new l : List UInt8) : (rep1 new l).length ≤ l.length + new.length := by
  unfold rep1
  cases e : at1 42 l with
  | none => simp
  | some i => obtain ⟨_, _, h3⟩ := at1_some e; simp; omega

set_option maxHeartbeats 1000000 in
set_option maxRecDepth 100000 in
theorem replace_any (s new : ByteArray) (w : World) (hG : Glob w) (hs : s.size < 4294967281) (hn : new.size ≤ 10000) :
    Calls Tryd.prog 24 #[.string s, .string ⟨#[42]⟩, .string new, .int .i64 1] w fun e w' => e = .returned (.string ⟨(rep1 new.data.toList s.data.toList).toArray⟩) ∧ Below w.heap.size w w' := by
  obtain ⟨m, hm⟩ := hG.most
  have hc := countB_le ⟨#[42]⟩ (by decide) s.size s (Nat.le_refl _)
  have hmul : countB s ⟨#[42]⟩ * new.size ≤ 4294967281 * 10000 := Nat.mul_le_mul (by omega) hn
  have := Tryd.strings_Replace s ⟨#[42]⟩ new 1 m w hs hm (by decide) (by omega)
  rw [show (⟨#[42]⟩ : ByteArray).data.toList = [42] from rfl, replace_rep1] at this
  exact this

set_option maxHeartbeats 1000000 in
set_option maxRecDepth 100000 in
theorem side_any (s : ByteArray) (w : World) (hG : Glob w) (hs : s.size < 4294967281) :
    Calls Tryd.prog 22 #[.string s] w fun e w' => e = .returned (.tuple #[.bool (sideL s.data.toList).1, .bool (sideL s.data.toList).2]) ∧ Below w.heap.size w w' := by
  have cC : Calls Tryd.prog 38 #[.string s, .string ⟨#[42]⟩] w _ := Tryd.strings_Count_one s 42 w
  unfold sideL
  have hct : countByte s.data.toList 42 = s.data.toList.count 42 := rfl
  rw [hct] at cC
  have hcl : s.data.toList.count 42 ≤ s.size := by rw [Lib.size_eq]; exact List.count_le_length
  generalize s.data.toList.count 42 = N at cC hcl ⊢
  clear hct
  by_cases h2 : N < 2
  · have b1 : ((N : Nat) : Int) < 2 := by omega
    rw [decide_eq_true h2, Bool.true_and]
    have cR := replace_any s ⟨#[120]⟩ w hG hs (by decide)
    rw [show (⟨#[120]⟩ : ByteArray).data.toList = [120] from rfl] at cR
    have hl := rep1_len [120] s.data.toList
    rw [← Lib.size_eq] at hl
    have cV : ∀ w2, Below w.heap.size w w2 → Calls Tryd.prog 11 #[.string ⟨(rep1 [120] s.data.toList).toArray⟩] w2 _ := fun w2 hb => valid_any ⟨(rep1 [120] s.data.toList).toArray⟩ w2 (hG.below hb) (by rw [Lib.size_eq]; simp at hl ⊢; omega)
    simp only [] at cV
    generalize validL (rep1 [120] s.data.toList) = V at cV ⊢
    have hN : N = 0 ∨ N = 1 := by omega
    clear hl h2
    rcases hN with rfl | rfl
    all_goals
      go_enter Tryd.func22, Tryd.ntmps22
      go_wp2_with (first | (go_at_call 38; refine cC.mono ?_; rintro e w' ⟨rfl, rfl⟩) | (go_at_call 24; refine cR.mono ?_; rintro e w2 ⟨rfl, hb⟩) | (go_at_call 11; refine (cV _ hb).mono ?_; rintro e w3 ⟨rfl, hb2⟩))
      go_ret2
      exact ⟨rfl, hb.trans (hb2.mono hb.size)⟩
  · have b1 : ¬ ((N : Nat) : Int) < 2 := by omega
    have b2 : (((N : Nat) : Int) == 1) = false := by rw [beq_eq_false_iff_ne]; omega
    rw [decide_eq_false h2, Bool.false_and, decide_eq_false (by omega : ¬ N = 1)]
    clear h2
    go_enter Tryd.func22, Tryd.ntmps22
    go_wp2_with (first | (go_at_call 38; refine cC.mono ?_; rintro e w' ⟨rfl, rfl⟩))
    go_ret2
    exact ⟨rfl, Below.refl _ _⟩

def textB (f : Bool) (s d : ByteArray) : ByteArray := if f then ⟨#[43]⟩ ++ (s ++ ⟨#[58]⟩ ++ d) else s ++ ⟨#[58]⟩ ++ d
theorem size_app (a b : ByteArray) : (a ++ b).size = a.size + b.size := ByteArray.size_append

set_option maxHeartbeats 1000000 in
set_option maxRecDepth 100000 in
theorem text_any (f : Bool) (s d : ByteArray) (w : World) (hs : s.size ≤ 140737488351232) (hd : d.size ≤ 140737488351232) :
    Calls Tryd.prog 18 #[.agg #[.bool f, .string s, .string d]] w fun e w' => e = .returned (.string (textB f s d)) ∧ Below w.heap.size w w' := by
  have z1 : (s ++ (⟨#[58]⟩ : ByteArray)).size = s.size + 1 := size_app _ _
  have z2 : (s ++ (⟨#[58]⟩ : ByteArray) ++ d).size = s.size + 1 + d.size := by rw [size_app, z1]
  have e1 : s.size + 1 ≤ 9223372036854775807 := by omega
  have e2 : s.size + 1 + d.size ≤ 9223372036854775807 := by omega
  have e3 : 1 + (s.size + 1 + d.size) ≤ 9223372036854775807 := by omega
  cases f
  · go_enter Tryd.func18, Tryd.ntmps18
    go_wp2
    go_ret
    exact ⟨rfl, (Below.refl _ _).alloc (Nat.le_refl _) _⟩
  · go_enter Tryd.func18, Tryd.ntmps18
    go_wp2
    go_ret
    exact ⟨rfl, (Below.refl _ _).alloc (Nat.le_refl _) _⟩

set_option maxHeartbeats 1000000 in
set_option maxRecDepth 100000 in
theorem rtext_any (f : Bool) (s d : ByteArray) (w : World) (hs : s.size ≤ 140737488351232) (hd : d.size ≤ 140737488351232) :
    Calls Tryd.prog 19 #[.agg #[.bool f, .string s, .string d]] w fun e w' => e = .returned (.string (textB f s d)) ∧ Below w.heap.size w w' := by
  have z1 : (s ++ (⟨#[58]⟩ : ByteArray)).size = s.size + 1 := size_app _ _
  have z2 : (s ++ (⟨#[58]⟩ : ByteArray) ++ d).size = s.size + 1 + d.size := by rw [size_app, z1]
  have e1 : s.size + 1 ≤ 9223372036854775807 := by omega
  have e2 : s.size + 1 + d.size ≤ 9223372036854775807 := by omega
  have e3 : 1 + (s.size + 1 + d.size) ≤ 9223372036854775807 := by omega
  cases f
  · go_enter Tryd.func19, Tryd.ntmps19
    go_wp2
    go_ret
    exact ⟨rfl, (Below.refl _ _).alloc (Nat.le_refl _) _⟩
  · go_enter Tryd.func19, Tryd.ntmps19
    go_wp2
    go_ret
    exact ⟨rfl, (Below.refl _ _).alloc (Nat.le_refl _) _⟩

set_option maxHeartbeats 1000000 in
set_option maxRecDepth 100000 in
theorem under_any (a b : ByteArray) (w : World) (ha : a.size ≤ 140737488351232) (_hb : b.size ≤ 140737488351232) :
    Calls Tryd.prog 13 #[.string a, .string b] w fun e w' => e = .returned (.bool (hasPrefix b.data.toList (a ++ (⟨#[47]⟩ : ByteArray)).data.toList)) ∧ w' = w := by
  have z1 : (a ++ (⟨#[47]⟩ : ByteArray)).size = a.size + 1 := size_app _ _
  have e1 : a.size + 1 ≤ 9223372036854775807 := by omega
  go_enter Tryd.func13, Tryd.ntmps13
  go_wp2_with (go_at_call 26; refine (Tryd.strings_HasPrefix _ _ _).mono ?_; rintro e w' ⟨rfl, rfl⟩)
  go_ret
  exact ⟨rfl, rfl⟩

set_option maxHeartbeats 1000000 in
set_option maxRecDepth 100000 in
theorem runder_any (a b : ByteArray) (w : World) (ha : a.size ≤ 140737488351232) (_hb : b.size ≤ 140737488351232) :
    Calls Tryd.prog 14 #[.string a, .string b] w fun e w' => e = .returned (.bool (hasPrefix b.data.toList (a ++ (⟨#[47]⟩ : ByteArray)).data.toList)) ∧ w' = w := by
  obtain ⟨ANS, hA⟩ : ∃ A, hasPrefix b.data.toList (a ++ (⟨#[47]⟩ : ByteArray)).data.toList = A := ⟨_, rfl⟩
  rw [hA]
  have z1 : (a ++ (⟨#[47]⟩ : ByteArray)).size = a.size + 1 := size_app _ _
  have e1 : a.size + 1 ≤ 9223372036854775807 := by omega
  have HR := Lib.hid ((hasPrefix_raw b (a ++ (⟨#[47]⟩ : ByteArray))).trans hA)
  clear hA
  by_cases h : a.size < b.size
  · have h1 : (a.size : Int) < (b.size : Int) := by omega
    have h2 : (a.size : Int) + 1 ≤ (b.size : Int) := by omega
    go_enter Tryd.func14, Tryd.ntmps14
    go_wp2
    go_ret
    refine ⟨?_, rfl⟩
    rw [← HR.out, z1, decide_eq_true (by omega : a.size + 1 ≤ b.size), Bool.true_and]
    rfl
  · have h1 : ¬ (a.size : Int) < (b.size : Int) := by omega
    have h2 : decide ((a.size : Int) < (b.size : Int)) = false := decide_eq_false h1
    go_enter Tryd.func14, Tryd.ntmps14
    go_wp2
    go_ret
    refine ⟨?_, rfl⟩
    rw [← HR.out, z1, decide_eq_false (by omega : ¬ a.size + 1 ≤ b.size), Bool.false_and]
    rfl
end Go.Proofs.YtjmlppkleeegkaaDoor.Nm
