/- The file system: two lists of texts. -/
import Derived.Test.YtijdgmbpkfmciaaZt
namespace Go.Proofs.Ytijdgmbpkfmciaa.Fs
open Go.RowKit Go.Maps Go.ChangeMaps Go.WideMaps Go.Joins Go.Sort Go.WideShapes

theorem news_row {w : World} {e : TypeId} {v : Value} {xs : List Value} (h : Row w e v xs) : News w v xs := by
  rcases h with h | ⟨b, cap, cur, h1, h2, h3, h4, h5, h6, h7⟩
  · exact .inl h
  · refine .inr ⟨⟨b, 0, none⟩, cap, h1, h3, fun j u hj => ?_⟩
    rw [add_head, World.cell?]
    simp only [h2]
    rw [← h7, List.getElem?_take] at hj
    split at hj
    · simpa using hj
    · cases hj

theorem news_cell {w : World} {a : Option Addr} {c : Nat} {L : List (List UInt8)} (h : News w (.slice a L.length c) (L.map encStr)) {k : Nat} (hk : k < L.length) : ∃ b, a = some b ∧ L.length ≤ c ∧ w.cell? (b.add k) = some (encStr (L[k]'hk)) := by
  rcases h with ⟨h1, h2⟩ | ⟨b, c', h1, h2, h3⟩
  · have h4 := congrArg List.length h2
    rw [List.length_map] at h4
    simp at h4
    rw [h4] at hk
    simp at hk
  · rw [List.length_map] at h1 h2
    cases h1
    exact ⟨b, rfl, h2, h3 k _ (by rw [List.getElem?_map, List.getElem?_eq_getElem hk]; rfl)⟩

set_option maxHeartbeats 2000000 in
set_option maxRecDepth 100000 in
theorem texts_any (va vb : Value) (A B : List (List UInt8)) (w : World) (ha : News w va (A.map encStr)) (hb : News w vb (B.map encStr)) (hl : A.length ≤ 1000000000) :
    Calls Try.prog 26 #[va, vb] w fun e w' => e = .returned (.bool (decide (A = B))) ∧ Below w.heap.size w w' := by
  obtain ⟨aa, ac, rfl⟩ := ha.slice
  obtain ⟨ba, bc, rfl⟩ := hb.slice
  rw [List.length_map] at ha ⊢
  rw [List.length_map] at hb ⊢
  have HA := Lib.hid ha
  have HB := Lib.hid hb
  clear ha hb
  by_cases hlen : A.length = B.length
  · have d1 : ((A.length : Int) != (B.length : Int)) = false := by rw [bne_eq_false_iff_eq]; omega
    have hl1 : A.length ≤ B.length := by omega
    have hl2 : B.length ≤ A.length := by omega
    clear hlen
    go_enter Try.func26, Try.ntmps26
    go_wp2_with fail
    go_loopw [5] (fun i wr => ∃ k : Nat, k ≤ A.length ∧ i = .int .i64 k ∧ Hid (A.take k = B.take k) ∧ Below w.heap.size w wr) (fun i _ => A.length - (RowKit.intOf i).toNat)
    case atStart => exact ⟨0, Nat.zero_le _, rfl, Lib.hid rfl, Below.refl _ _⟩
    case round =>
      obtain ⟨k, hk, rfl, HT, hbr⟩ := hrel
      by_cases hlt : k < A.length
      · have s1 : (k : Int) < (A.length : Int) := by omega
        have hltB : k < B.length := by omega
        obtain ⟨ba', rfl, hac, hca⟩ := news_cell HA.out hlt
        obtain ⟨bb', rfl, hbc, hcb⟩ := news_cell HB.out hltB
        have hbr' := fun (x : Addr) (u : Value) (h : w.cell? x = some u) => (hbr.cell (p := x) (World.block_lt_of_cell? w _ h)).trans h
        have h1 := hbr' _ _ hca
        have h2 := hbr' _ _ hcb
        have HL : Hid (A = B → A[k]'hlt = B[k]'hltB) := Lib.hid (fun e => by subst e; rfl)
        have HN : Hid (A[k]'hlt = B[k]'hltB → A.take (k + 1) = B.take (k + 1)) := Lib.hid (fun e => by
          rw [List.take_add_one, List.take_add_one, List.getElem?_eq_getElem hlt, List.getElem?_eq_getElem hltB, HT.out, e])
        clear hca hcb hbr'
        generalize A[k]'hlt = x at h1 HL HN
        generalize B[k]'hltB = y at h2 HL HN
        rw [show encStr x = .string ⟨x.toArray⟩ from rfl] at h1
        rw [show encStr y = .string ⟨y.toArray⟩ from rfl] at h2
        by_cases hxy : x = y
        · subst hxy
          have HTK := Lib.hid (HN.out rfl)
          go_wp2_with fail
          go_quiet (fail)
          go_wp2_with fail
          go_roundw
          case measure => simp [RowKit.intOf]; omega
          case rel => exact ⟨k + 1, by omega, by go_num, HTK, hbr.trans ⟨rfl, rfl, rfl, Nat.le_refl _, fun _ _ => rfl⟩⟩
        · have e1 : (x == y) = false := beq_eq_false_iff_ne.2 hxy
          have HX : Hid (decide (A = B) = false) := Lib.hid (decide_eq_false fun e => hxy (HL.out e))
          clear hxy
          go_wp2_with fail
          go_quiet (fail)
          go_wp2_with fail
          go_ret
          exact ⟨by rw [HX.out]; rfl, hbr.trans ⟨rfl, rfl, rfl, Nat.le_refl _, fun _ _ => rfl⟩⟩
      · have s1 : ¬ (k : Int) < (A.length : Int) := by omega
        have HX : Hid (decide (A = B) = true) := Lib.hid (decide_eq_true (by
          have := HT.out
          rwa [List.take_of_length_le (by omega), List.take_of_length_le (by omega)] at this))
        go_wp2_with fail
        go_ret
        exact ⟨by rw [HX.out]; rfl, hbr⟩
  · have d1 : ((A.length : Int) != (B.length : Int)) = true := by rw [bne_iff_ne]; omega
    have HX : Hid (decide (A = B) = false) := Lib.hid (decide_eq_false fun e => hlen (by rw [e]))
    clear hlen
    go_enter Try.func26, Try.ntmps26
    go_wp2_with fail
    go_ret
    exact ⟨by rw [HX.out]; rfl, Below.refl _ _⟩
end Go.Proofs.Ytijdgmbpkfmciaa.Fs
