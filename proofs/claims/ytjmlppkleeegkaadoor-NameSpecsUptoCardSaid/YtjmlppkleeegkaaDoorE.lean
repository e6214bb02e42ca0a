/- Walks: the document's star and parts. -/
import Derived.Test.YtjmlppkleeegkaaDoorD
import Derived.Test.YtjmlppkleeegkaaDoorPlain3
namespace Go.Proofs.YtjmlppkleeegkaaDoor.Nm
open Go.RowKit Go.Lib
open Go (below_drewN)

theorem get_data (s : ByteArray) (i : Nat) (h : i < s.size) : s.data.toList.drop i = s[i]'h :: s.data.toList.drop (i + 1) := by
  have h' : i < s.data.toList.length := by rw [← Lib.size_eq]; exact h
  rw [List.drop_eq_getElem_cons h']
  rfl

set_option maxHeartbeats 1000000 in
set_option maxRecDepth 100000 in
theorem star_any (s : ByteArray) (w : World) (hs : s.size ≤ 9223372036854775000) :
    Calls Tryd.prog 35 #[.string s] w fun e w' => e = .returned (.int .i64 (starL s.data.toList)) ∧ w' = w := by
  obtain ⟨ANS, hA⟩ : ∃ A, starR 0 (-1) s.data.toList = A := ⟨_, rfl⟩
  rw [show starL s.data.toList = ANS from hA]
  have HA := Lib.hid hA
  clear hA
  go_enter Tryd.func35, Tryd.ntmps35
  go_wp2
  go_loop [3, 4] (fun a i => ∃ (k : Nat) (b : Int), k ≤ s.size ∧ i = .int .i64 k ∧ a = .int .i64 b ∧ -1 ≤ b ∧ Hid (starR k b (s.data.toList.drop k) = ANS)) (fun _ i => s.size - (RowKit.intOf i).toNat)
  case atStart => exact ⟨0, -1, by omega, rfl, rfl, by omega, HA⟩
  case round =>
    clear HA
    obtain ⟨k, b, hk, rfl, rfl, hb, HK⟩ := hrel
    by_cases hlt : k < s.size
    · have h1 : (k : Int) < (s.size : Int) := by omega
      have hd := HK.out
      rw [get_data s k hlt, starR] at hd
      by_cases c : s[k]'hlt = 42
      · rw [if_pos c] at hd
        have c1 : (((s[k]'hlt).toNat : Int) == 42) = true := by rw [c]; rfl
        by_cases c2 : 0 ≤ b
        · rw [if_pos c2] at hd
          have HD := Lib.hid hd
          have c3 : decide (0 ≤ b) = true := decide_eq_true c2
          clear hd c HK
          go_wp2
          go_ret
          exact ⟨by rw [← HD.out]; rfl, rfl⟩
        · rw [if_neg c2] at hd
          have HD := Lib.hid hd
          have c3 : decide (0 ≤ b) = false := decide_eq_false c2
          clear hd c HK
          go_wp2
          go_round
          case rel => exact ⟨k + 1, k, by omega, by go_num, rfl, by omega, HD⟩
          case measure => simp [RowKit.intOf]; omega
      · rw [if_neg c] at hd
        have c1 : (((s[k]'hlt).toNat : Int) == 42) = false := by
          rw [beq_eq_false_iff_ne]; intro e; exact c (UInt8.toNat_inj.1 (by simpa using (by omega : (s[k]'hlt).toNat = 42)))
        have HD := Lib.hid hd
        clear hd c HK
        go_wp2
        go_round
        case rel => exact ⟨k + 1, b, by omega, by go_num, rfl, hb, HD⟩
        case measure => simp [RowKit.intOf]; omega
    · have h1 : ¬ (k : Int) < (s.size : Int) := by omega
      have HD : Hid (b = ANS) := by
        have := HK.out
        rw [List.drop_eq_nil_of_le (by rw [← Lib.size_eq]; omega)] at this
        exact this
      clear HK
      go_wp2
      go_ret
      exact ⟨by rw [← HD.out]; rfl, rfl⟩

theorem info9 : (Tryd.prog.info? 9).map (fun i => (i.zero, i.size, i.bytes)) = some (some (.string ⟨#[]⟩), 1, 16) := by kernel_rfl

theorem splitC_nil (cur : List UInt8) : splitC cur [] = [cur] := rfl
theorem take_next (s : ByteArray) (a k : Nat) (h : k < s.size) (ha : a ≤ k) : (s.data.toList.drop a).take (k + 1 - a) = (s.data.toList.drop a).take (k - a) ++ [s[k]'h] := by
  have h' : k - a < (s.data.toList.drop a).length := by rw [List.length_drop, ← Lib.size_eq]; omega
  rw [show k + 1 - a = (k - a) + 1 by omega, List.take_succ_eq_append_getElem h']
  congr 1
  rw [List.getElem_drop]
  have e : a + (k - a) = k := by omega
  simp only [e]
  rfl

/-- v is a row of the call's own that holds the parts of s. -/
def PartsAre (s : ByteArray) (B : Nat) (v : Value) (w' : World) : Prop :=
  ∃ ks : List ByteArray, ks.map (·.data.toList) = splitC [] s.data.toList ∧ w'.ownsRow B 9 1 v ks.length (ks.map Value.string)

set_option maxHeartbeats 4000000 in
set_option maxRecDepth 100000 in
theorem parts_any (s : ByteArray) (w : World) (hs : s.size ≤ 1000000) :
    Calls Tryd.prog 33 #[.string s] w fun e w' => ∃ v : Value, e = .returned v ∧ PartsAre s w.heap.size v w' ∧ Below w.heap.size w w' := by
  obtain ⟨i0, hi, hz0, hz1, hz2⟩ := info_parts info9
  go_enter Tryd.func33, Tryd.ntmps33
  go_wp2
  go_loopw [3, 4, 5] (fun v f i wr => ∃ (k a : Nat) (ks : List ByteArray), i = .int .i64 k ∧ f = .int .i64 a ∧ a ≤ k ∧ k ≤ s.size + 1 ∧ ks.length ≤ k ∧
      wr.ownsRow w.heap.size 9 1 v ks.length (ks.map Value.string) ∧ Below w.heap.size w wr ∧
      Hid ((k ≤ s.size ∧ ks.map (·.data.toList) ++ splitC ((s.data.toList.drop a).take (k - a)) (s.data.toList.drop k) = splitC [] s.data.toList) ∨ (k = s.size + 1 ∧ ks.map (·.data.toList) = splitC [] s.data.toList)))
    (fun _ _ i _ => s.size + 1 - (RowKit.intOf i).toNat)
  case atStart => exact ⟨0, 0, [], rfl, rfl, by omega, by omega, by simp, World.ownsRow_nil _ _ _ _, Below.refl _ _, .inl ⟨by omega, rfl⟩⟩
  case round =>
    obtain ⟨k, a, ks, rfl, rfl, hak, hk, hks, hown, hbw, HK⟩ := hrel
    by_cases hle : k ≤ s.size
    · have h1 : (k : Int) ≤ (s.size : Int) := by omega
      have hd : ks.map (·.data.toList) ++ splitC ((s.data.toList.drop a).take (k - a)) (s.data.toList.drop k) = splitC [] s.data.toList := by
        rcases HK.out with h | h
        · exact h.2
        · omega
      have hex : (s.extract a k).data.toList = (s.data.toList.drop a).take (k - a) := Lib.extract_data s a k
      have h2 : (a : Int) ≤ (k : Int) := by omega
      clear HK
      have fin : ∀ (v' : Value) (w1 : World), w1.ownsRow w.heap.size 9 1 v' (ks.length + 1) (ks.map Value.string ++ [.string (s.extract a k)]) → w1.ownsRow w.heap.size 9 1 v' (ks ++ [s.extract a k]).length ((ks ++ [s.extract a k]).map Value.string) := by
        intro v' w1 h
        simpa using h
      by_cases he : k = s.size
      · have h3 : ((k : Int) == (s.size : Int)) = true := by rw [beq_iff_eq]; omega
        have HD : Hid ((ks ++ [s.extract a k]).map (·.data.toList) = splitC [] s.data.toList) := by
          have e0 : s.data.toList.drop k = [] := List.drop_eq_nil_of_le (by rw [← Lib.size_eq]; omega)
          rw [e0, splitC_nil] at hd
          rw [← hd, List.map_append, ← hex]; rfl
        have HE := Lib.hid he
        clear hd hex he
        go_wp2_with (first
          | (at_builtin; refine wpList_append_own _ rfl _ _ 22 rfl w.heap.size 9 i0 (.string ⟨#[]⟩) 1 16 Tryd.underlying22 hi hz0 hz1 hz2 rfl (by decide) _ _ _ rfl (hown.alloc _) ⟨wr.heap.size, 0, none⟩ 1 1 [.string (s.extract a k)] rfl rfl (cell_one_new _ _ _) (by intro u hu; simp at hu; subst hu; rfl) (by unfold maxLen; omega) (by omega) (by have := hbw.size; simp; omega) ?_; intro v' w1 hown1 hgrow1 _))
        have hb2 : Below w.heap.size w w1 := (hbw.alloc hbw.size _).grown hgrow1 (by have := hbw.size; simp; omega) (fun j hj => (hown.lt j hj).1)
        go_roundw
        case rel => exact ⟨k + 1, k + 1, ks ++ [s.extract a k], by go_num, by go_num, by omega, by omega, by simp; omega, fin _ _ hown1, hb2, .inr ⟨by have := HE.out; omega, HD.out⟩⟩
        case measure => simp [RowKit.intOf]; omega
      · have h3 : ((k : Int) == (s.size : Int)) = false := by rw [beq_eq_false_iff_ne]; omega
        have hlt : k < s.size := by omega
        have h4 : (k : Int) < (s.size : Int) := by omega
        rw [get_data s k hlt, splitC] at hd
        by_cases c : s[k]'hlt = 47
        · rw [if_pos c] at hd
          have c1 : (((s[k]'hlt).toNat : Int) == 47) = true := by rw [c]; rfl
          have HD : Hid ((ks ++ [s.extract a k]).map (·.data.toList) ++ splitC ((s.data.toList.drop (k + 1)).take (k + 1 - (k + 1))) (s.data.toList.drop (k + 1)) = splitC [] s.data.toList) := by
            rw [← hd, List.map_append, ← hex]; simp [Hid]
          clear hd hex he c
          go_wp2_with (first
            | (at_builtin; refine wpList_append_own _ rfl _ _ 22 rfl w.heap.size 9 i0 (.string ⟨#[]⟩) 1 16 Tryd.underlying22 hi hz0 hz1 hz2 rfl (by decide) _ _ _ rfl (hown.alloc _) ⟨wr.heap.size, 0, none⟩ 1 1 [.string (s.extract a k)] rfl rfl (cell_one_new _ _ _) (by intro u hu; simp at hu; subst hu; rfl) (by unfold maxLen; omega) (by omega) (by have := hbw.size; simp; omega) ?_; intro v' w1 hown1 hgrow1 _))
          have hb2 : Below w.heap.size w w1 := (hbw.alloc hbw.size _).grown hgrow1 (by have := hbw.size; simp; omega) (fun j hj => (hown.lt j hj).1)
          go_roundw
          case rel => exact ⟨k + 1, k + 1, ks ++ [s.extract a k], by go_num, by go_num, by omega, by omega, by simp; omega, fin _ _ hown1, hb2, .inl ⟨by omega, HD.out⟩⟩
          case measure => simp [RowKit.intOf]; omega
        · rw [if_neg c] at hd
          have c1 : (((s[k]'hlt).toNat : Int) == 47) = false := by
            rw [beq_eq_false_iff_ne]; intro e; exact c (UInt8.toNat_inj.1 (by simpa using (by omega : (s[k]'hlt).toNat = 47)))
          have HD : Hid (ks.map (·.data.toList) ++ splitC ((s.data.toList.drop a).take (k + 1 - a)) (s.data.toList.drop (k + 1)) = splitC [] s.data.toList) := by
            rw [← hd, take_next s a k hlt hak]; rfl
          clear hd hex he c fin
          go_wp2
          go_roundw
          case rel => exact ⟨k + 1, a, ks, by go_num, rfl, by omega, by omega, by omega, hown, hbw, .inl ⟨by omega, HD.out⟩⟩
          case measure => simp [RowKit.intOf]; omega
    · have h1 : ¬ (k : Int) ≤ (s.size : Int) := by omega
      have HD : Hid (ks.map (·.data.toList) = splitC [] s.data.toList) := by
        rcases HK.out with h | h
        · omega
        · exact h.2
      clear HK
      go_wp2
      go_ret
      exact ⟨_, rfl, ⟨ks, HD.out, hown⟩, hbw⟩
end Go.Proofs.YtjmlppkleeegkaaDoor.Nm
