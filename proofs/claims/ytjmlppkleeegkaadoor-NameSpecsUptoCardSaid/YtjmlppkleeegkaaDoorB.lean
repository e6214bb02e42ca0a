/- Walks: strings.ContainsRune at the seven bytes; name.Valid. -/
import Derived.Test.YtjmlppkleeegkaaDoorA
namespace Go.Proofs.YtjmlppkleeegkaaDoor.Nm
open Go.RowKit Go.Lib
open Go (below_drewN)

def anyBad (r : Nat) : Bool := bad7.any (fun b => b.toNat == r)
theorem anyBad_high (r : Nat) (h : 128 ≤ r) : anyBad r = false := by
  have := okR_high r h
  unfold okR at this
  unfold anyBad
  revert this
  cases bad7.any (fun b => b.toNat == r) <;> simp
theorem anyBad_low (r : Nat) (h : r < 128) : decide (0 ≤ Go.Lib.indexByte [126, 94, 58, 63, 42, 91, 92] (r : Int).toNat.toUInt8) = anyBad r := by
  have : ∀ r : Fin 128, decide (0 ≤ Go.Lib.indexByte [126, 94, 58, 63, 42, 91, 92] (r.val : Int).toNat.toUInt8) = anyBad r.val := by decide +kernel
  exact this ⟨r, h⟩

set_option maxHeartbeats 1000000 in
set_option maxRecDepth 100000 in
theorem containsBad (r : Nat) (w : World) (hr : r ≤ 1114111) (hs : r < 55296 ∨ 57343 < r) :
    Calls Tryd.prog 27 #[.string ⟨#[126, 94, 58, 63, 42, 91, 92]⟩, .int .i32 (r : Int)] w fun e w' => e = .returned (.bool (anyBad r)) ∧ Below w.heap.size w w' := by
  by_cases h : r < 128
  · refine (Tryd.strings_ContainsRune_ascii _ _ _ (by omega) (by omega)).mono ?_
    rintro e w' ⟨rfl, rfl⟩
    exact ⟨by rw [← anyBad_low r h], Below.refl _ _⟩
  · rw [anyBad_high r (by omega)]
    have c : Calls Tryd.prog 47 #[.string ⟨#[126, 94, 58, 63, 42, 91, 92]⟩, .int .i32 (r : Int)] w fun e w' => e = .returned (.int .i64 (-1)) ∧ Below w.heap.size w w' := by
      by_cases h2 : r = 65533
      · subst h2; exact indexRune_fffd w
      · exact indexRune_high r w (by omega) hr hs h2
    go_enter Tryd.func27, Tryd.ntmps27
    go_wp2_with (go_at_call 47; refine c.mono ?_; rintro e w' ⟨rfl, hb⟩)
    go_ret
    exact ⟨rfl, hb⟩

/-- What the program's own variables hold: utf8's two tables, and some number. -/
structure Glob (w : World) : Prop where
  tabs : Utf8Tabs 0 1 w
  most : ∃ m : Int, w.cell? ⟨2, 0, none⟩ = some (.int .i64 m)
  size : 3 ≤ w.heap.size
theorem Glob.below {w w' : World} (h : Glob w) (hb : Below w.heap.size w w') : Glob w' := by
  refine ⟨Utf8Tabs_below h.tabs hb, ?_, Nat.le_trans h.size hb.size⟩
  obtain ⟨m, hm⟩ := h.most
  exact ⟨m, (hb.cell (p := ⟨2, 0, none⟩) (by have := h.size; simp; omega)).trans hm⟩
theorem Glob.below' {B : Nat} {w w' : World} (h : Glob w) (hb : Below B w w') (hB : w.heap.size ≤ B) : Glob w' := h.below (hb.mono hB)

def okPB (p : ByteArray) : Bool := okPart p.data.toList

set_option maxHeartbeats 2000000 in
set_option maxRecDepth 1000000 in
theorem valid_early (s : ByteArray) (w : World) (hG : Glob w) (hs : s.size ≤ 9223372036854775807) (hno : (validD s.data.toList && decide (s.size ≤ 100) && hasPrefix s.data.toList refsL) = false) :
    Calls Tryd.prog 11 #[.string s] w fun e w' => e = .returned (.bool false) ∧ Below w.heap.size w w' := by
  have cV := Tryd.utf8_ValidString s w hs hG.tabs
  have cP := fun w => Tryd.strings_HasPrefix s ⟨#[114, 101, 102, 115, 47]⟩ w
  generalize validD s.data.toList = V at cV hno
  have eP : (⟨#[114, 101, 102, 115, 47]⟩ : ByteArray).data.toList = refsL := rfl
  rw [eP] at cP
  generalize hasPrefix s.data.toList refsL = H at cP hno
  cases V with
  | false =>
    clear hno
    go_enter Tryd.func11, Tryd.ntmps11
    go_wp2_with (go_at_call 25; refine cV.mono ?_; rintro e w' ⟨rfl, hb⟩)
    go_ret
    exact ⟨rfl, hb⟩
  | true =>
    by_cases h : s.size ≤ 100
    · rw [decide_eq_true h] at hno
      simp only [Bool.and_true, Bool.true_and] at hno
      subst hno
      have h1 : ¬ (100 : Int) < (s.size : Int) := by omega
      go_enter Tryd.func11, Tryd.ntmps11
      go_wp2_with (first | (go_at_call 25; refine cV.mono ?_; rintro e w' ⟨rfl, hb⟩) | (go_at_call 26; refine (cP _).mono ?_; rintro e w' ⟨rfl, rfl⟩))
      go_ret
      exact ⟨rfl, hb⟩
    · have h1 : (100 : Int) < (s.size : Int) := by omega
      clear hno
      go_enter Tryd.func11, Tryd.ntmps11
      go_wp2_with (go_at_call 25; refine cV.mono ?_; rintro e w' ⟨rfl, hb⟩)
      go_ret
      exact ⟨rfl, hb⟩
end Go.Proofs.YtjmlppkleeegkaaDoor.Nm
