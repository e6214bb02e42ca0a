/- Walks: strings.ContainsRune at the seven bytes that no name may hold and a rune from 128 on. -/
import Derived.Test.YtjmlppkleeegkaaDoorLib
import Derived.Test.YtjmlppkleeegkaaDoorPlain2
import Derived.WalkKit
import Derived.Walk3
import Derived.WalkMore
import Derived.WalkSmall
import Derived.WalkSpells
import Derived.WalkLawsBesides
import Derived.Deep.LoopGhost
import Derived.Deep.QuietTactic
import Derived.BigQuiet
import Derived.Outline
import Derived.Lib.Hide
import Derived.Lib.OthersKept
namespace Go.Proofs.YtjmlppkleeegkaaDoor.Nm
open Go.RowKit Go.Lib
open Go (below_drewN)

def bad7B : ByteArray := ⟨#[126, 94, 58, 63, 42, 91, 92]⟩

set_option maxRecDepth 100000 in
theorem enc_high (r : Nat) (h : 128 ≤ r) (hr : r ≤ 1114111) (hs : r < 55296 ∨ 57343 < r) : ∃ (m : Nat) (x : UInt8), 1 ≤ m ∧ m ≤ 3 ∧ (Utf8.encode (r : Int)).size = m + 1 ∧ (Utf8.encode (r : Int)).data.toList[m]? = some x ∧ 128 ≤ x.toNat := by
  have hv : Utf8.valid (r : Int) = true := by
    unfold Utf8.valid
    rcases hs with h1 | h1
    · simp; omega
    · simp; omega
  unfold Utf8.encode
  rw [if_pos hv]
  simp only [Int.toNat_natCast]
  have e : ∀ n : Nat, 128 ≤ n → n < 256 → 128 ≤ (UInt8.ofNat n).toNat := fun n h1 h2 => by simp; omega
  by_cases c1 : r < 2048
  · rw [if_neg (by omega), if_pos c1]; exact ⟨1, _, by omega, by omega, rfl, rfl, e _ (by omega) (by omega)⟩
  · by_cases c2 : r < 65536
    · rw [if_neg (by omega), if_neg c1, if_pos c2]; exact ⟨2, _, by omega, by omega, rfl, rfl, e _ (by omega) (by omega)⟩
    · rw [if_neg (by omega), if_neg c1, if_neg c2]; exact ⟨3, _, by omega, by omega, rfl, rfl, e _ (by omega) (by omega)⟩

set_option maxHeartbeats 2000000 in
set_option maxRecDepth 1000000 in
theorem indexRune_high (r : Nat) (w : World) (h : 128 ≤ r) (hr : r ≤ 1114111) (hs : r < 55296 ∨ 57343 < r) (hne : r ≠ 65533) :
    Calls Tryd.prog 47 #[.string ⟨#[126, 94, 58, 63, 42, 91, 92]⟩, .int .i32 (r : Int)] w fun e w' => e = .returned (.int .i64 (-1)) ∧ Below w.heap.size w w' := by
  have d1 : decide ((0 : Int) ≤ (r : Int)) = true := by simp
  have d2 : decide ((r : Int) < 128) = false := by simp; omega
  have d3 : ((r : Int) == 65533) = false := by rw [beq_eq_false_iff_ne]; omega
  have d4 : Go.Lib.validRune (r : Int) = true := by unfold Go.Lib.validRune; simp; omega
  go_enter Tryd.func47, Tryd.ntmps47
  go_wp2_with fail
  refine (Tryd.utf8_ValidRune _ _).mono ?_
  rintro e w' ⟨rfl, hw⟩
  obtain rfl := hw
  rw [d4]
  go_wp2
  obtain ⟨m, x, hm1, hm3, hz, hx, hx8⟩ := enc_high r h hr hs
  generalize hE : Utf8.encode (r : Int) = R at hz hx
  have hRx : ∀ hh, R[m]'hh = x := fun hh => by
    have := List.getElem?_eq_getElem (l := R.data.toList) (i := m) (by rw [← Lib.size_eq]; omega)
    rw [hx] at this
    exact (Option.some.inj this).symm
  have hx256 := x.toNat_lt
  obtain ⟨X, hX⟩ : ∃ X : Int, X = (x.toNat : Int) := ⟨_, rfl⟩
  have hm : m = 1 ∨ m = 2 ∨ m = 3 := by omega
  have hn : ∀ y ∈ bad7, y ≠ x := by
    have h7 : ∀ y ∈ bad7, y.toNat < 128 := by decide
    intro y hy e
    have := h7 y hy
    rw [e] at this
    omega
  have hno : ∀ (l : List UInt8), (∀ y ∈ l, y ≠ x) → Go.Lib.indexByte l x = -1 := by
    intro l
    induction l with
    | nil => intro _; rfl
    | cons a l ih =>
      intro hl
      unfold Go.Lib.indexByte
      rw [if_neg (by simpa using hl a (by simp)), ih (fun y hy => hl y (by simp [hy]))]
      rfl
  rcases hm with rfl | rfl | rfl
  · have t1 : (((⟨#[126, 94, 58, 63, 42, 91, 92]⟩ : ByteArray)[1].toNat : Int) != (x.toNat : Int)) = true := by
      rw [bne_iff_ne]; show ((94 : Nat) : Int) ≠ _; omega
    have l1 : (1 : Int) < (R.size : Int) := by omega
    have i1 : Go.Lib.indexByte [58, 63, 42, 91, 92] x = -1 := hno _ (fun y hy => hn y ((by decide : ∀ y ∈ ([58, 63, 42, 91, 92] : List UInt8), y ∈ bad7) y hy))
    clear hx hm1 hm3 h hr hs hne hno hn
    go_step3
    go_wp2
    refine wp_loop_rounds 1 ?_
    rw [rounds_succ]
    go_wp2
    go_step3
    go_wp2
    go_quiet (fail)
    go_wp2
    have hb1 := below_drewN (Below.refl w'.heap.size w')
    generalize hw2 : World.drewN w' _ = w2
    have hb2 : Below w'.heap.size w' w2 := by rw [← hw2]; exact hb1 _
    clear hw2 hb1
    go_quiet ((go_at_call 56; exact Calls.quiet_of_same (Tryd.strings_IndexByte _ _ _)))
    go_wp2
    rw [Exit.noGoto_ret]
    go_wp2
    rw [Exit.noGoto_ret]
    go_ret
    exact ⟨rfl, below_drewN hb2 _⟩
  · have t1 : (((⟨#[126, 94, 58, 63, 42, 91, 92]⟩ : ByteArray)[2].toNat : Int) != (x.toNat : Int)) = true := by
      rw [bne_iff_ne]; show ((58 : Nat) : Int) ≠ _; omega
    have l1 : (2 : Int) < (R.size : Int) := by omega
    have i1 : Go.Lib.indexByte [63, 42, 91, 92] x = -1 := hno _ (fun y hy => hn y ((by decide : ∀ y ∈ ([63, 42, 91, 92] : List UInt8), y ∈ bad7) y hy))
    clear hx hm1 hm3 h hr hs hne hno hn
    go_step3
    go_wp2
    refine wp_loop_rounds 1 ?_
    rw [rounds_succ]
    go_wp2
    go_step3
    go_wp2
    go_quiet (fail)
    go_wp2
    have hb1 := below_drewN (Below.refl w'.heap.size w')
    generalize hw2 : World.drewN w' _ = w2
    have hb2 : Below w'.heap.size w' w2 := by rw [← hw2]; exact hb1 _
    clear hw2 hb1
    go_quiet ((go_at_call 56; exact Calls.quiet_of_same (Tryd.strings_IndexByte _ _ _)))
    go_wp2
    rw [Exit.noGoto_ret]
    go_wp2
    rw [Exit.noGoto_ret]
    go_ret
    exact ⟨rfl, below_drewN hb2 _⟩
  · have t1 : (((⟨#[126, 94, 58, 63, 42, 91, 92]⟩ : ByteArray)[3].toNat : Int) != (x.toNat : Int)) = true := by
      rw [bne_iff_ne]; show ((63 : Nat) : Int) ≠ _; omega
    have l1 : (3 : Int) < (R.size : Int) := by omega
    have i1 : Go.Lib.indexByte [42, 91, 92] x = -1 := hno _ (fun y hy => hn y ((by decide : ∀ y ∈ ([42, 91, 92] : List UInt8), y ∈ bad7) y hy))
    clear hx hm1 hm3 h hr hs hne hno hn
    go_step3
    go_wp2
    refine wp_loop_rounds 1 ?_
    rw [rounds_succ]
    go_wp2
    go_step3
    go_wp2
    go_quiet (fail)
    go_wp2
    have hb1 := below_drewN (Below.refl w'.heap.size w')
    generalize hw2 : World.drewN w' _ = w2
    have hb2 : Below w'.heap.size w' w2 := by rw [← hw2]; exact hb1 _
    clear hw2 hb1
    go_quiet ((go_at_call 56; exact Calls.quiet_of_same (Tryd.strings_IndexByte _ _ _)))
    go_wp2
    rw [Exit.noGoto_ret]
    go_wp2
    rw [Exit.noGoto_ret]
    go_ret
    exact ⟨rfl, below_drewN hb2 _⟩

theorem dec_bad (pos : Nat) (h : pos < 7) : (Utf8.decode ⟨#[126, 94, 58, 63, 42, 91, 92]⟩ pos).1 < 128 ∧ (Utf8.decode ⟨#[126, 94, 58, 63, 42, 91, 92]⟩ pos).2 = 1 := by
  have : ∀ p : Fin 7, (Utf8.decode ⟨#[126, 94, 58, 63, 42, 91, 92]⟩ p.val).1 < 128 ∧ (Utf8.decode ⟨#[126, 94, 58, 63, 42, 91, 92]⟩ p.val).2 = 1 := by decide +kernel
  exact this ⟨pos, h⟩

set_option maxHeartbeats 2000000 in
set_option maxRecDepth 1000000 in
theorem indexRune_fffd (w : World) :
    Calls Tryd.prog 47 #[.string ⟨#[126, 94, 58, 63, 42, 91, 92]⟩, .int .i32 65533] w fun e w' => e = .returned (.int .i64 (-1)) ∧ Below w.heap.size w w' := by
  go_enter Tryd.func47, Tryd.ntmps47
  go_wp2
  go_loopw [] (fun wr => ∃ pos : Nat, pos ≤ 7 ∧ wr.heap[w.heap.size]? = some (.stringIter ⟨#[126, 94, 58, 63, 42, 91, 92]⟩ pos) ∧ Below w.heap.size w wr) (fun wr => 7 - wr.iterPos w.heap.size)
  case atStart => exact ⟨0, by omega, World.iter_heap w _ 0, (Below.refl _ _).alloc (Nat.le_refl _) _⟩
  case round =>
    obtain ⟨pos, hp, hit, hbw⟩ := hrel
    have hpos0 := iterPos_of hit
    by_cases hlt : pos < 7
    · obtain ⟨d1, d2⟩ := dec_bad pos hlt
      have hnx : ∀ ty, (Instr.next (.pointer (some ⟨w.heap.size, 0, none⟩)) true ty).run Tryd.prog wr = _ := fun ty => Lib.run_next_any_at wr w.heap.size ⟨#[126, 94, 58, 63, 42, 91, 92]⟩ pos ty hit hlt
      rw [d2] at hnx
      have hit2 := Lib.iterAt_heap wr w.heap.size _ pos (pos + 1) hit
      have hbw2 := Lib.below_iterAt hbw (k := w.heap.size) (Nat.le_refl _) ⟨#[126, 94, 58, 63, 42, 91, 92]⟩ (pos + 1)
      generalize (Utf8.decode ⟨#[126, 94, 58, 63, 42, 91, 92]⟩ pos).1 = q at d1 hnx
      have q1 : (((q : Nat) : Int) == 65533) = false := by rw [beq_eq_false_iff_ne]; omega
      obtain ⟨W1, hW1⟩ : ∃ W1, W1 = wr.iterAt w.heap.size ⟨#[126, 94, 58, 63, 42, 91, 92]⟩ (pos + 1) := ⟨_, rfl⟩
      rw [← hW1] at hnx hit2 hbw2
      clear hW1 hit hbw d2
      go_wp2
      go_roundw
      case rel => exact ⟨pos + 1, by omega, hit2, hbw2⟩
      case measure => rw [iterPos_of hit2, hpos0]; omega
    · have hnx : ∀ ty, (Instr.next (.pointer (some ⟨w.heap.size, 0, none⟩)) true ty).run Tryd.prog wr = _ := fun ty => Lib.run_next_end_at wr w.heap.size ⟨#[126, 94, 58, 63, 42, 91, 92]⟩ pos ty hit hlt
      go_wp2
      go_ret
      exact ⟨rfl, hbw⟩
end Go.Proofs.YtjmlppkleeegkaaDoor.Nm
