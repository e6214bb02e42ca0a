/- Walks: the document's own small functions on names: UTF8, ends, star, parts. -/
import Derived.Test.YtjmlppkleeegkaaDoorC
namespace Go.Proofs.YtjmlppkleeegkaaDoor.Nm
open Go.RowKit Go.Lib
open Go (below_drewN)

set_option maxHeartbeats 4000000 in
set_option maxRecDepth 1000000 in
theorem utf8_any (s : ByteArray) (w : World) (hs : s.size ≤ 9223372036854775000) (ANS : Bool) (hA : utf8R s.size s.data.toList = ANS) :
    Calls Tryd.prog 31 #[.string s] w fun e w' => e = .returned (.bool ANS) ∧ Below w.heap.size w w' := by
  have hdl : (s.data.toList).length = s.size := (Lib.size_eq s).symm
  have HA := Lib.hid hA
  clear hA
  go_enter Tryd.func31, Tryd.ntmps31
  go_wp2
  go_loopw [] (fun wr => ∃ pos f : Nat, pos ≤ s.size ∧ s.size ≤ pos + f ∧ wr.heap[w.heap.size]? = some (.stringIter s pos) ∧ Below w.heap.size w wr ∧ Hid (utf8R f (s.data.toList.drop pos) = ANS)) (fun wr => s.size - wr.iterPos w.heap.size)
  case atStart => exact ⟨0, s.size, by omega, by omega, World.iter_heap w _ 0, (Below.refl _ _).alloc (Nat.le_refl _) _, HA⟩
  case round =>
    clear HA
    obtain ⟨pos, f, hp, hf, hit, hbw, HK⟩ := hrel
    have hpos0 := iterPos_of hit
    by_cases hlt : pos < s.size
    · obtain ⟨f, rfl⟩ : ∃ f', f = f' + 1 := ⟨f - 1, by omega⟩
      have hne : s.data.toList.drop pos ≠ [] := by intro e; have := congrArg List.length e; simp [hdl] at this; omega
      have hk := HK.out
      rw [utf8R, if_neg hne] at hk
      have hle := decodeL_le (s.data.toList.drop pos) hne
      have hw1 := decodeL_width (s.data.toList.drop pos)
      rw [List.length_drop, hdl] at hle
      have hdec := decodeL_drop s pos
      rw [List.drop_drop, List.length_drop, hdl] at hk
      rw [hdec] at hk hle hw1
      clear hne hdec HK
      have hnx : ∀ ty, (Instr.next (.pointer (some ⟨w.heap.size, 0, none⟩)) true ty).run Tryd.prog wr = _ := fun ty => Lib.run_next_any_at wr w.heap.size s pos ty hit hlt
      generalize hD : Utf8.decode s pos = D at hk hle hw1 hnx
      clear hD
      obtain ⟨r, n⟩ := D
      simp only at hk hle hw1 hnx
      have hit2 := Lib.iterAt_heap wr w.heap.size _ pos (pos + n) hit
      have hbw2 := Lib.below_iterAt hbw (k := w.heap.size) (Nat.le_refl _) s (pos + n)
      obtain ⟨W1, hW1⟩ : ∃ W1, W1 = wr.iterAt w.heap.size s (pos + n) := ⟨_, rfl⟩
      rw [← hW1] at hnx hit2 hbw2
      clear hW1 hit hbw
      by_cases c1 : r = 65533
      · have k1 : (((r : Nat) : Int) == 65533) = true := by rw [beq_iff_eq]; omega
        by_cases c2 : s.size - pos < 3
        · rw [if_pos ⟨c1, .inl c2⟩] at hk
          have k2 : (s.size : Int) - (pos : Int) < 3 := by omega
          have HK := Lib.hid hk
          clear hk c1
          go_wp2
          go_ret
          exact ⟨by rw [← HK.out]; rfl, hbw2⟩
        · have k2 : ¬ (s.size : Int) - (pos : Int) < 3 := by omega
          have hex : (s.extract pos (pos + 3)).toList = (s.data.toList.drop pos).take 3 := by rw [Lib.extract_toList]; congr 1; omega
          have b1 : (pos : Int) + 3 ≤ (s.size : Int) := by omega
          by_cases c3 : (s.data.toList.drop pos).take 3 = [239, 191, 189]
          · rw [if_neg (by rintro ⟨_, h | h⟩; exact c2 h; exact h c3)] at hk
            have k3 : ((s.extract pos (pos + 3)).toList == [239, 191, 189]) = true := by rw [beq_iff_eq, hex]; exact c3
            have HK := Lib.hid hk
            clear hk c1 c3 hex
            go_wp2
            go_roundw
            case rel => exact ⟨pos + n, f, by omega, by omega, hit2, hbw2, HK⟩
            case measure => rw [iterPos_of hit2, hpos0]; omega
          · rw [if_pos ⟨c1, .inr c3⟩] at hk
            have k3 : ((s.extract pos (pos + 3)).toList == [239, 191, 189]) = false := by rw [beq_eq_false_iff_ne, hex]; exact c3
            have HK := Lib.hid hk
            clear hk c1 c3 hex
            go_wp2
            go_ret
            exact ⟨by rw [← HK.out]; rfl, hbw2⟩
      · have k1 : (((r : Nat) : Int) == 65533) = false := by rw [beq_eq_false_iff_ne]; omega
        rw [if_neg (fun h => c1 h.1)] at hk
        have HK := Lib.hid hk
        clear hk c1
        go_wp2
        go_roundw
        case rel => exact ⟨pos + n, f, by omega, by omega, hit2, hbw2, HK⟩
        case measure => rw [iterPos_of hit2, hpos0]; omega
    · have hnx : ∀ ty, (Instr.next (.pointer (some ⟨w.heap.size, 0, none⟩)) true ty).run Tryd.prog wr = _ := fun ty => Lib.run_next_end_at wr w.heap.size s pos ty hit hlt
      have hall : Hid (ANS = true) := by
        rw [← HK.out]
        have hd : s.data.toList.drop pos = [] := List.drop_eq_nil_of_le (by omega)
        rw [hd]
        cases f <;> simp [utf8R, Hid]
      clear HK
      go_wp2
      go_ret
      exact ⟨by rw [hall.out]; rfl, hbw⟩

set_option maxHeartbeats 1000000 in
set_option maxRecDepth 100000 in
theorem ends_any (s t : ByteArray) (w : World) (hs : s.size ≤ 9223372036854775000) :
    Calls Tryd.prog 32 #[.string s, .string t] w fun e w' => e = .returned (.bool (hasSuffix s.data.toList t.data.toList)) ∧ w' = w := by
  have HR := Lib.hid (hasSuffix_raw s t)
  by_cases h : t.size ≤ s.size
  · have h1 : (t.size : Int) ≤ (s.size : Int) := by omega
    go_enter Tryd.func32, Tryd.ntmps32
    go_wp2
    go_ret
    refine ⟨?_, rfl⟩
    rw [← HR.out, decide_eq_true h, Bool.true_and]
    rfl
  · have h1 : ¬ (t.size : Int) ≤ (s.size : Int) := by omega
    go_enter Tryd.func32, Tryd.ntmps32
    go_wp2
    go_ret
    refine ⟨?_, rfl⟩
    rw [← HR.out, decide_eq_false h, Bool.false_and]
    rfl
end Go.Proofs.YtjmlppkleeegkaaDoor.Nm
