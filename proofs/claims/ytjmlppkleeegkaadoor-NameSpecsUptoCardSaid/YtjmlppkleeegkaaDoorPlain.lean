/- The plain laws under the statements on names: what a valid name is, over lists of bytes, and that the document's reading of it is the program's. No program in sight. -/
import Derived.Lib.ValidU
import Derived.Lib.MapLaws
import Derived.Lib.Split
import Derived.Lib.SplitLaws
import Derived.Lib.Replace
import Derived.Lib.CutLaws
namespace Go.Proofs.YtjmlppkleeegkaaDoor.Nm
open Go.Lib

def bad7 : List UInt8 := [126, 94, 58, 63, 42, 91, 92]
def refsL : List UInt8 := [114, 101, 102, 115, 47]
def lockL : List UInt8 := [46, 108, 111, 99, 107]
/-- May this byte stand in a name? -/
def okB (b : UInt8) : Bool := !(decide (b.toNat < 33) || b.toNat == 127 || bad7.contains b)
/-- May this rune? -/
def okR (r : Nat) : Bool := !(decide (r < 33) || r == 127 || bad7.any (fun b => b.toNat == r))
def runesOk : Nat → List UInt8 → Bool
  | 0, _ => true
  | f + 1, l => if l = [] then true else if okR (decodeL l).1 then runesOk f (l.drop (decodeL l).2) else false
def okPart (p : List UInt8) : Bool := !(p.isEmpty) && !(p.head? == some 46) && !(hasSuffix p lockL)
def validL (l : List UInt8) : Bool :=
  validD l && decide (l.length ≤ 100) && hasPrefix l refsL && l.all okB && (split l [47]).all okPart && !(contains l [46, 46]) && !(contains l [64, 123]) && !(hasSuffix l [46])

/-- A step of the decoder that is no error: a byte below 128, or some bytes from 128 on. -/
theorem step_ok (l : List UInt8) (hne : l ≠ []) (hv : ¬ ((decodeL l).1 = 65533 ∧ (decodeL l).2 = 1)) :
    ((l.getD 0 0).toNat < 128 ∧ decodeL l = ((l.getD 0 0).toNat, 1)) ∨
    (128 ≤ (decodeL l).1 ∧ 2 ≤ (decodeL l).2 ∧ (decodeL l).2 ≤ 4 ∧ (decodeL l).2 ≤ l.length ∧ ∀ i, i < (decodeL l).2 → 128 ≤ (l.getD i 0).toNat) := by
  have hl : 1 ≤ l.length := by cases l with | nil => exact absurd rfl hne | cons a t => simp
  have hle := decodeL_le l hne
  rw [decodeL_N] at hv hle ⊢
  have b0 := (l.getD 0 0).toNat_lt
  have b1 := (l.getD 1 0).toNat_lt
  have b2 := (l.getD 2 0).toNat_lt
  have b3 := (l.getD 3 0).toNat_lt
  generalize h0 : (l.getD 0 0).toNat = x0 at *
  generalize h1 : (l.getD 1 0).toNat = x1 at *
  generalize h2 : (l.getD 2 0).toNat = x2 at *
  generalize h3 : (l.getD 3 0).toNat = x3 at *
  generalize l.length = n at *
  unfold decodeN at hv hle ⊢
  by_cases c0 : x0 < 128
  · left; rw [if_pos c0]; exact ⟨c0, rfl⟩
  · right
    rw [if_neg c0] at hv hle ⊢
    by_cases c1 : x0 / 32 = 6 ∧ (1 < n ∧ x1 / 64 = 2)
    · rw [if_pos c1] at hv hle ⊢
      by_cases d : x0 % 32 * 64 + x1 % 64 ≥ 128
      · rw [if_pos d] at hv hle ⊢
        refine ⟨d, by simp, by simp, hle, fun i hi => ?_⟩
        simp only at hi
        match i, hi with
        | 0, _ => omega
        | 1, _ => omega
        | i + 2, hi => omega
      · rw [if_neg d] at hv; simp at hv
    · rw [if_neg c1] at hv hle ⊢
      by_cases c2 : x0 / 16 = 14 ∧ (1 < n ∧ x1 / 64 = 2) ∧ (2 < n ∧ x2 / 64 = 2)
      · rw [if_pos c2] at hv hle ⊢
        by_cases d : x0 % 16 * 4096 + x1 % 64 * 64 + x2 % 64 ≥ 2048 ∧ (x0 % 16 * 4096 + x1 % 64 * 64 + x2 % 64 < 55296 ∨ (57344 ≤ x0 % 16 * 4096 + x1 % 64 * 64 + x2 % 64 ∧ x0 % 16 * 4096 + x1 % 64 * 64 + x2 % 64 ≤ 1114111))
        · rw [if_pos d] at hv hle ⊢
          refine ⟨by simp only; omega, by simp, by simp, hle, fun i hi => ?_⟩
          simp only at hi
          match i, hi with
          | 0, _ => omega
          | 1, _ => omega
          | 2, _ => omega
          | i + 3, hi => omega
        · rw [if_neg d] at hv; simp at hv
      · rw [if_neg c2] at hv hle ⊢
        by_cases c3 : x0 / 8 = 30 ∧ (1 < n ∧ x1 / 64 = 2) ∧ (2 < n ∧ x2 / 64 = 2) ∧ (3 < n ∧ x3 / 64 = 2)
        · rw [if_pos c3] at hv hle ⊢
          by_cases d : x0 % 8 * 262144 + x1 % 64 * 4096 + x2 % 64 * 64 + x3 % 64 ≥ 65536 ∧ (x0 % 8 * 262144 + x1 % 64 * 4096 + x2 % 64 * 64 + x3 % 64 < 55296 ∨ (57344 ≤ x0 % 8 * 262144 + x1 % 64 * 4096 + x2 % 64 * 64 + x3 % 64 ∧ x0 % 8 * 262144 + x1 % 64 * 4096 + x2 % 64 * 64 + x3 % 64 ≤ 1114111))
          · rw [if_pos d] at hv hle ⊢
            refine ⟨by simp only; omega, by simp, by simp, hle, fun i hi => ?_⟩
            simp only at hi
            match i, hi with
            | 0, _ => omega
            | 1, _ => omega
            | 2, _ => omega
            | 3, _ => omega
            | i + 4, hi => omega
          · rw [if_neg d] at hv; simp at hv
        · rw [if_neg c3] at hv; simp at hv

/-- What the decoder yields is no surrogate, and no more than the greatest rune. -/
theorem dec_scalar (l : List UInt8) : (decodeL l).1 ≤ 1114111 ∧ ((decodeL l).1 < 55296 ∨ 57343 < (decodeL l).1) := by
  rw [decodeL_N]
  have b0 := (l.getD 0 0).toNat_lt
  generalize (l.getD 0 0).toNat = x0 at *
  generalize (l.getD 1 0).toNat = x1 at *
  generalize (l.getD 2 0).toNat = x2 at *
  generalize (l.getD 3 0).toNat = x3 at *
  generalize l.length = n at *
  unfold decodeN
  repeat' split
  all_goals (simp only; omega)

theorem u8_all {p : UInt8 → Prop} (h : ∀ n : Fin 256, p (UInt8.ofNat n.val)) (b : UInt8) : p b := by
  have e := h ⟨b.toNat, b.toNat_lt⟩
  simpa using e
theorem okB_high (b : UInt8) : 128 ≤ b.toNat → okB b = true :=
  u8_all (p := fun b => 128 ≤ b.toNat → okB b = true) (by decide +kernel) b
theorem okR_low (b : UInt8) : b.toNat < 128 → okR b.toNat = okB b :=
  u8_all (p := fun b => b.toNat < 128 → okR b.toNat = okB b) (by decide +kernel) b
theorem okR_high (r : Nat) (h : 128 ≤ r) : okR r = true := by
  have h1 : ¬ r < 33 := by omega
  have h2 : r ≠ 127 := by omega
  have h3 : bad7.any (fun b => b.toNat == r) = false := by
    simp only [bad7, List.any_cons, List.any_nil, Bool.or_false, Bool.or_eq_false_iff, beq_eq_false_iff_ne]
    refine ⟨?_, ?_, ?_, ?_, ?_, ?_, ?_⟩ <;> (intro e; rw [← e] at h; revert h; decide)
  simp [okR, h1, h2, h3]

/-- Of a valid text: all runes may stand just where all bytes may. -/
theorem runes_bytes : ∀ (f : Nat) (l : List UInt8), l.length ≤ f → validGoD f l = true → runesOk f l = l.all okB
  | 0, l, h, _ => by
    have : l = [] := List.eq_nil_of_length_eq_zero (by omega)
    subst this; rfl
  | f + 1, l, h, hv => by
    unfold validGoD at hv
    unfold runesOk
    by_cases hne : l = []
    · rw [if_pos hne, hne]; rfl
    · rw [if_neg hne] at hv ⊢
      by_cases hb : (decodeL l).1 = 65533 ∧ (decodeL l).2 = 1
      · rw [if_pos hb] at hv; exact absurd hv (by simp)
      · rw [if_neg hb] at hv
        have hw := decodeL_width l
        have ih := runes_bytes f (l.drop (decodeL l).2) (by simp; omega) hv
        rw [ih]
        rcases step_ok l hne hb with ⟨hlo, he⟩ | ⟨hhi, _, _, hle, hby⟩
        · rw [he]
          cases l with
          | nil => exact absurd rfl hne
          | cons a t =>
            simp only [List.getD_cons_zero] at hlo ⊢
            rw [okR_low a hlo]
            simp only [List.drop_succ_cons, List.drop_zero, List.all_cons]
            cases okB a <;> simp
        · rw [if_pos (okR_high _ hhi)]
          have hsp : l.all okB = ((l.take (decodeL l).2).all okB && (l.drop (decodeL l).2).all okB) := by
            rw [← List.all_append, List.take_append_drop]
          rw [hsp]
          have ht : (l.take (decodeL l).2).all okB = true := by
            rw [List.all_eq_true]
            intro x hx
            obtain ⟨i, hi, rfl⟩ := List.mem_iff_getElem.1 hx
            rw [List.length_take] at hi
            have := hby i (by omega)
            rw [List.getElem_take]
            apply okB_high
            rwa [List.getD_eq_getElem?_getD, List.getElem?_eq_getElem (by omega), Option.getD_some] at this
          rw [ht, Bool.true_and]

theorem runesOk_valid (l : List UInt8) (hv : validD l = true) : runesOk l.length l = l.all okB := runes_bytes _ l (Nat.le_refl _) hv

end Go.Proofs.YtjmlppkleeegkaaDoor.Nm
