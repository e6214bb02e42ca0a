/- Deflate: what good matches give one by one; Matches of nothing. -/
import Derived.Test.YtiadnngfccbdmaaO
namespace Go.Proofs.Ytiadnngfccbdmaa.Df
open Go.RowKit Go.Joins Go.Maps

def endOf (ms : List (Nat × Nat × Nat)) (i : Nat) : Nat := match (ms.take i).getLast? with | some m => m.1 + m.2.1 | none => 0
theorem endOf_zero (ms : List (Nat × Nat × Nat)) : endOf ms 0 = 0 := by simp [endOf]
theorem endOf_succ (ms : List (Nat × Nat × Nat)) (i : Nat) (h : i < ms.length) : endOf ms (i + 1) = (ms[i]).1 + (ms[i]).2.1 := by
  unfold endOf
  rw [List.take_add_one, List.getElem?_eq_getElem h]
  show (match (ms.take i ++ [ms[i]]).getLast? with | some m => m.1 + m.2.1 | none => 0) = _
  rw [List.getLast?_concat]
theorem good_end {bs : List UInt8} {R : Int} {ms : List (Nat × Nat × Nat)} {e : Nat} (h : GoodTo bs R ms e) : endOf ms ms.length = e := by
  induction h with
  | nil => rfl
  | @snoc ms e a l d _ _ _ _ =>
    unfold endOf
    rw [List.take_of_length_le (Nat.le_refl _), List.getLast?_concat]
theorem good_at {bs : List UInt8} {R : Int} {ms : List (Nat × Nat × Nat)} {e : Nat} (h : GoodTo bs R ms e) : ∀ i (hi : i < ms.length), endOf ms i ≤ (ms[i]).1 ∧ One bs R (ms[i]).1 (ms[i]).2.1 (ms[i]).2.2 := by
  induction h with
  | nil => intro i hi; simp at hi
  | @snoc ms e a l d h1 h2 h3 ih =>
    intro i hi
    by_cases hl : i < ms.length
    · have := ih i hl
      rw [List.getElem_append_left hl]
      refine ⟨?_, this.2⟩
      unfold endOf at this ⊢
      rw [List.take_append_of_le_length (by omega)]
      exact this.1
    · have : i = ms.length := by simp at hi; omega
      subst this
      rw [List.getElem_append_right (Nat.le_refl _)]
      simp only [Nat.sub_self, List.getElem_cons_zero]
      refine ⟨?_, h3⟩
      have := good_end h1
      unfold endOf at this ⊢
      rw [List.take_append_of_le_length (Nat.le_refl _), this]
      exact h2
theorem cells_at (ms : List (Nat × Nat × Nat)) : ∀ i (hi : i < ms.length), (cellsOf ms)[i * 3]? = some (intV (ms[i]).1) ∧ (cellsOf ms)[i * 3 + 1]? = some (intV (ms[i]).2.1) ∧ (cellsOf ms)[i * 3 + 2]? = some (intV (ms[i]).2.2) := by
  induction ms with
  | nil => intro i hi; simp at hi
  | cons m ms ih =>
    intro i hi
    have e : cellsOf (m :: ms) = [intV m.1, intV m.2.1, intV m.2.2] ++ cellsOf ms := rfl
    rw [e]
    cases i with
    | zero => exact ⟨rfl, rfl, rfl⟩
    | succ i =>
      have := ih i (by simpa using hi)
      have h3 : ∀ j, ([intV m.1, intV m.2.1, intV m.2.2] ++ cellsOf ms)[(i + 1) * 3 + j]? = (cellsOf ms)[i * 3 + j]? := fun j => by
        rw [List.getElem?_append_right (by simp; omega)]
        congr 1
        simp; omega
      refine ⟨(h3 0).trans this.1, (h3 1).trans this.2.1, (h3 2).trans this.2.2⟩

set_option maxHeartbeats 8000000 in
set_option maxRecDepth 100000 in
theorem matches_none (ba : Option Addr) (c : Nat) (reach : Int) (w : World) (hr : -9223372036854775808 ≤ reach ∧ reach < 9223372036854775808) :
    Calls Try.prog 7 #[.slice ba 0 c, .int .i64 reach] w (Matched [] reach w) := by
  have hmk : ∀ w : World, (Instr.makeSlice 36 (.int .i64 0) (.int .i64 0)).run Try.prog w = .ok (.slice (some ⟨w.heap.size, 0, none⟩) 0 0) (w.alloc (.cells (zeros 0) 3)) := mk_ints 0 (by decide)
  have hmm := @run_makeMap Try.prog
  obtain ⟨w0, hw0⟩ : ∃ w0, ((((w.alloc (.cells #[.slice ba 0 c] 22)).alloc (.map #[] 0)).alloc (.cells #[.map (some (w.heap.size + 1))] 35)).alloc (.cells (zeros 0) 3)).alloc (.cells #[.slice (some ⟨w.heap.size + 1 + 1 + 1, 0, none⟩) 0 0] 36) = w0 := ⟨_, rfl⟩
  have HB : Hid (Below w.heap.size w w0) := Lib.hid (by rw [← hw0]; exact (((((Below.refl _ _).alloc (Nat.le_refl _) _).alloc (by simp) _).alloc (by simp; omega) _).alloc (by simp; omega) _).alloc (by simp; omega) _)
  have hbx : w0.cell? ⟨w.heap.size, 0, none⟩ = some (.slice ba 0 c) := by rw [← hw0]; simp [go_sem]
  have HW0 := Lib.hid hw0
  clear hw0
  by_cases hle : reach ≤ 32768
  · skip
    go_enter Try.func7, Try.ntmps7
    go_wp2_with fail
    rw [HW0.out]
    clear hmk hmm
    go_loopw [5, 9] (fun a i wr => a = .slice none 0 0 ∧ i = .int .i64 0 ∧ wr = w0) (fun _ _ _ => 0)
    case atStart => exact ⟨rfl, rfl, rfl⟩
    case round =>
      obtain ⟨rfl, rfl, rfl⟩ := hrel
      go_wp2_with fail
      go_ret
      exact ⟨_, [], 0, rfl, .nil, fun _ => rfl, Nat.le_refl _, ⟨none, 0, rfl, Nat.le_refl _, .inl rfl⟩, HB.out⟩
  · have hle2 : (32768 : Int) < reach := by omega
    clear hle
    go_enter Try.func7, Try.ntmps7
    go_wp2_with fail
    rw [HW0.out]
    clear hmk hmm
    go_loopw [5, 9] (fun a i wr => a = .slice none 0 0 ∧ i = .int .i64 0 ∧ wr = w0) (fun _ _ _ => 0)
    case atStart => exact ⟨rfl, rfl, rfl⟩
    case round =>
      obtain ⟨rfl, rfl, rfl⟩ := hrel
      go_wp2_with fail
      go_ret
      exact ⟨_, [], 0, rfl, .nil, fun _ => rfl, Nat.le_refl _, ⟨none, 0, rfl, Nat.le_refl _, .inl rfl⟩, HB.out⟩
end Go.Proofs.Ytiadnngfccbdmaa.Df
