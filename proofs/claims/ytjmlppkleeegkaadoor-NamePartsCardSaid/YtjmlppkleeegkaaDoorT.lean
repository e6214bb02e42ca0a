/- The law NameParts walked. -/
import Derived.Test.YtjmlppkleeegkaaDoorPlain6
import Derived.Test.YtjmlppkleeegkaaDoorQ
import Derived.Laws.IdiomStrings
namespace Go.Proofs.YtjmlppkleeegkaaDoor.Nm
open Go.RowKit Go.Lib
open Go (below_drewN)

theorem and7_nat (n : Int) : ∃ i : Nat, i < 8 ∧ bits .and .i64 n 7 = (i : Int) := by
  refine ⟨(n % 8).toNat, by omega, ?_⟩
  have := i64_and_mask 3 (by decide) n
  rw [show ((2 ^ 3 - 1 : Nat) : Int) = 7 from rfl, show ((2 ^ 3 : Nat) : Int) = 8 from rfl] at this
  rw [this]
  omega
theorem and15_nat (n : Int) : ∃ i : Nat, i < 16 ∧ bits .and .i64 n 15 = (i : Int) := by
  refine ⟨(n % 16).toNat, by omega, ?_⟩
  have := i64_and_mask 4 (by decide) n
  rw [show ((2 ^ 4 - 1 : Nat) : Int) = 15 from rfl, show ((2 ^ 4 : Nat) : Int) = 16 from rfl] at this
  rw [this]
  omega

theorem conv1 (wr : World) {k : Nat} (hk : k < 8) : (convert 35 9 (.slice (some ⟨wr.heap.size, 0, none⟩) 1 1)).run Tryd.prog (wr.alloc (.cells #[.int .u8 (97 + (k : Int))] 5)) =
    .ok (.string ⟨#[97 + UInt8.ofNat k]⟩) (wr.alloc (.cells #[.int .u8 (97 + (k : Int))] 5)) := by
  have hn : ∀ k < 8, ((97 + UInt8.ofNat k).toNat : Int) = 97 + (k : Int) := by decide
  refine run_convert_bytes_back (P := Tryd.prog) (wr.alloc (.cells #[.int .u8 (97 + (k : Int))] 5)) 35 9 5 ⟨wr.heap.size, 0, none⟩ 1 [97 + UInt8.ofNat k] Tryd.underlying35 Tryd.underlying5 Tryd.underlying9 ?_
  intro j hj
  have : j = 0 := by simpa using hj
  subst this
  rw [show (([97 + UInt8.ofNat k] : List UInt8)[0]'hj) = 97 + UInt8.ofNat k from rfl, hn k hk]
  simp [Addr.add, go_sem]
theorem sS_next (k : Nat) : S (sL k) ++ (⟨#[47, 112]⟩ : ByteArray) ++ (⟨#[97 + UInt8.ofNat k]⟩ : ByteArray) ++ (⟨#[195, 169]⟩ : ByteArray) = S (sL (k + 1)) := by
  rw [S_app, data_app, data_app]
  simp [sL]

def oSg : Obj := .cells #[.string (S (sgL 0)), .string (S (sgL 1)), .string (S (sgL 2)), .string (S (sgL 3)), .string (S (sgL 4)), .string (S (sgL 5)), .string (S (sgL 6)), .string (S (sgL 7)), .string (S (sgL 8)), .string (S (sgL 9)), .string (S (sgL 10)), .string (S (sgL 11)), .string (S (sgL 12)), .string (S (sgL 13)), .string (S (sgL 14)), .string (S (sgL 15))] 9
theorem cellSg (w : World) {i : Nat} (h : i < 16) : (w.alloc oSg).cell? ⟨w.heap.size, i, none⟩ = some (.string (S (sgL i))) := by
  rcases (show i = 0 ∨ i = 1 ∨ i = 2 ∨ i = 3 ∨ i = 4 ∨ i = 5 ∨ i = 6 ∨ i = 7 ∨ i = 8 ∨ i = 9 ∨ i = 10 ∨ i = 11 ∨ i = 12 ∨ i = 13 ∨ i = 14 ∨ i = 15 by omega) with rfl | rfl | rfl | rfl | rfl | rfl | rfl | rfl | rfl | rfl | rfl | rfl | rfl | rfl | rfl | rfl <;> simp [oSg, go_sem]
theorem start_at (at' : Int) (L : Nat) (h : 9 ≤ L) (hL : L ≤ 100) : ∃ k : Nat, 5 ≤ k ∧ k < L ∧ IntKind.i64.wrap (at'.tmod ((L : Int) - 5) + (L : Int)) = at'.tmod ((L : Int) - 5) + (L : Int) ∧
    IntKind.i64.wrap (at'.tmod ((L : Int) - 5) + (L : Int) - 5) = at'.tmod ((L : Int) - 5) + (L : Int) - 5 ∧ IntKind.i64.wrap (5 + (at'.tmod ((L : Int) - 5) + (L : Int) - 5).tmod ((L : Int) - 5)) = (k : Int) := by
  have hM : (0 : Int) < (L : Int) - 5 := by omega
  have h1 : at'.tmod ((L : Int) - 5) < (L : Int) - 5 := Int.tmod_lt_of_pos _ hM
  have h2 : -((L : Int) - 5) < at'.tmod ((L : Int) - 5) := by
    have := Int.lt_tmod_of_pos at' hM
    omega
  have h3 : (at'.tmod ((L : Int) - 5) + (L : Int) - 5).tmod ((L : Int) - 5) < (L : Int) - 5 := Int.tmod_lt_of_pos _ hM
  have h4 : 0 ≤ (at'.tmod ((L : Int) - 5) + (L : Int) - 5).tmod ((L : Int) - 5) := Int.tmod_nonneg _ (by omega)
  refine ⟨(5 + (at'.tmod ((L : Int) - 5) + (L : Int) - 5).tmod ((L : Int) - 5)).toNat, by omega, by omega, IntWalk.i64_in _ (by omega), IntWalk.i64_in _ (by omega), ?_⟩
  rw [IntWalk.i64_in _ (by omega)]
  omega

set_option maxHeartbeats 2000000 in
set_option maxRecDepth 1000000 in
theorem law_parts (n at' bad : Int) (w : World) (hG : Glob w) :
    Calls Tryd.prog 5 #[.int .i64 n, .int .i64 at', .int .i64 bad] w fun e w' => e = .returned (.bool true) ∧ Below w.heap.size w w' := by
  have hGs := hG.size
  obtain ⟨i0, hi0, ei0⟩ := and7_nat n
  obtain ⟨j0, hj0, ej0⟩ := and15_nat bad
  have g1 : IntKind.i64.wrap ((i0 : Int) + 1) = (i0 : Int) + 1 := IntWalk.i64_in _ (by omega)
  go_enter Tryd.func5, Tryd.ntmps5
  go_wp2
  go_loopw [7, 8] (fun s i wr => ∃ k : Nat, k ≤ i0 + 1 ∧ i = .int .i64 k ∧ s = .string (S (sL k)) ∧ Below w.heap.size w wr) (fun _ i _ => i0 + 1 - (RowKit.intOf i).toNat)
  case atStart => exact ⟨0, by omega, rfl, rfl, Below.refl _ _⟩
  case round =>
    obtain ⟨k, hk, rfl, rfl, hb⟩ := hrel
    have hz := hb.size
    by_cases hlt : k < i0 + 1
    · have h1 : (k : Int) < (i0 : Int) + 1 := by omega
      have hcv := conv1 wr (k := k) (by omega)
      have hsz := sL_length k
      rw [← S_size] at hsz
      have q1 : (S (sL k) ++ (⟨#[47, 112]⟩ : ByteArray)).size = (S (sL k)).size + 2 := size_app _ _
      have q2 : (S (sL k) ++ (⟨#[47, 112]⟩ : ByteArray) ++ (⟨#[97 + UInt8.ofNat k]⟩ : ByteArray)).size = (S (sL k)).size + 2 + 1 := by rw [size_app, q1]; rfl
      have f1 : (9223372036854775807 < (S (sL k)).size + 2) = False := eq_false (by omega)
      have f2 : (9223372036854775807 < (S (sL k)).size + 2 + 1) = False := eq_false (by omega)
      have f3 : (9223372036854775807 < (S (sL k)).size + 2 + 1 + 2) = False := eq_false (by omega)
      go_wp2
      go_roundw
      case rel => exact ⟨k + 1, by omega, by go_num, by rw [← sS_next], hb.alloc hz _⟩
      case measure => simp [RowKit.intOf]; omega
    · have h1 : ¬ (k : Int) < (i0 : Int) + 1 := by omega
      have hk1 : k = i0 + 1 := by omega
      subst hk1
      have hBd : (S (sL (i0 + 1))).data.toList = sL (i0 + 1) := S_data _
      have hBz : (S (sL (i0 + 1))).size = 4 + 5 * (i0 + 1) := by rw [S_size, sL_length]
      obtain ⟨v1, v2, v3, v4⟩ := ends_bad hi0
      have hput : ∀ k, 5 ≤ k → k ≤ 4 + 5 * (i0 + 1) → _ → _ := fun k a b c => put_bad hi0 a b c hj0
      have hsg := sgL_le j0 hj0
      rw [← S_size] at hsg
      rw [← hBd] at v1 v2 v3 v4 hput
      rw [← hBz] at hput
      have hgz : (S (sgL j0)).data.toList = sgL j0 := S_data _
      rw [← hgz] at hput
      have hcell := cellSg wr hj0
      generalize S (sgL j0) = G at hgz hput hsg hcell ⊢
      clear hgz
      generalize S (sL (i0 + 1)) = B at hBd hBz v1 v2 v3 v4 hput ⊢
      have hB9 : 9 ≤ B.size := by omega
      have hB44 : B.size ≤ 44 := by omega
      clear hBz hBd
      obtain ⟨k0, hk5, hkL, m2, m3, m4⟩ := start_at at' B.size (by omega) (by omega)
      have m1 : IntKind.i64.wrap ((B.size : Int) - 5) = (B.size : Int) - 5 := IntWalk.i64_in _ (by omega)
      have m5 : ((B.size : Int) - 5 == 0) = false := by rw [beq_eq_false_iff_ne]; omega
      have m6 : (B.size : Int) - 5 ≠ 0 := by omega
      obtain ⟨w0, hw0⟩ : ∃ w0, w0 = wr.alloc oSg := ⟨_, rfl⟩
      have hb0 : Below w.heap.size w w0 := by rw [hw0]; exact hb.alloc hz _
      have hz0 : w0.heap.size = wr.heap.size + 1 := by rw [hw0]; simp
      rw [← hw0] at hcell
      have k15 : (j0 : Int) < 16 := by omega
      have l15 : (0 : Int) ≤ (j0 : Int) := by omega
      go_wp2
      change Code.wp _ _ _ _ (wr.alloc oSg)
      rw [← hw0]
      clear hw0
      go_loop [10] (fun i => ∃ k : Nat, 5 ≤ k ∧ k ≤ B.size ∧ i = .int .i64 k) (fun i => B.size - (RowKit.intOf i).toNat)
      case atStart => exact ⟨k0, hk5, by omega, rfl⟩
      case round =>
        obtain ⟨k, h5, hkB, rfl⟩ := hrel
        by_cases hlt2 : k < B.size
        · have h2 : (k : Int) < (B.size : Int) := by omega
          by_cases hge : 128 ≤ (B[k]'hlt2).toNat
          · have h3 : (128 : Int) ≤ ((B[k]'hlt2).toNat : Int) := by omega
            go_wp2
            go_round
            case rel => exact ⟨k + 1, by omega, by omega, by go_num⟩
            case measure => simp [RowKit.intOf]; omega
          · have h3 : decide ((128 : Int) ≤ ((B[k]'hlt2).toNat : Int)) = false := decide_eq_false (by omega)
            have HC : k = B.size ∨ B.data.toList.getD k 0 < 128 := by
              refine .inr ?_
              have e : B.data.toList.getD k 0 = B[k]'hlt2 := by rw [List.getD_eq_getElem?_getD, List.getElem?_eq_getElem (by rw [← Lib.size_eq]; exact hlt2)]; rfl
              rw [e, UInt8.lt_iff_toNat_lt]
              show (B[k]'hlt2).toNat < 128
              omega
            go_wp2
            have z1 : (B.extract 0 k).size = k := by rw [ByteArray.size_extract]; omega
            have z2 : (B.extract k B.size).size = B.size - k := by rw [ByteArray.size_extract]; omega
            have z3 : (B.extract 0 k ++ G).size = k + G.size := by rw [size_app, z1]
            have z4 : (B.extract 0 k ++ G ++ B.extract k B.size).size ≤ 50 := by rw [size_app, z3, z2]; omega
            have f1 : (9223372036854775807 < k + G.size) = False := eq_false (by omega)
            have f2 : (9223372036854775807 < k + G.size + (B.size - k)) = False := eq_false (by omega)
            have b1 : (k : Int) ≤ (B.size : Int) := by omega
            have b2 : (0 : Int) ≤ (k : Int) := by omega
            have vT : validL (B.extract 0 k ++ G ++ B.extract k B.size).data.toList = false := by
              rw [data_app, data_app, ext_to, ext_from]
              exact hput k h5 hkB HC
            clear hput
            go_quiet (fail)
            have hGq : Glob (w0.drewN nq) := (hG.below hb0).drewN _
            have hbq : Below w.heap.size w (w0.drewN nq) := Go.below_drewN hb0 nq
            generalize w0.drewN nq = wq at hGq hbq ⊢
            clear z1 z2 z3 f1 f2
            generalize B.extract 0 k ++ G ++ B.extract k B.size = T at z4 vT ⊢
            have hle : decide ((100 : Int) < (T.size : Int)) = false := decide_eq_false (by omega)
            have cB := fun w h => valid_any B w h (by omega)
            have cT := fun w h => valid_any T w h (by omega)
            have q1 : (B ++ (⟨#[47]⟩ : ByteArray)).size = B.size + 1 := size_app _ _
            have q2 : (B ++ (⟨#[46, 108, 111, 99, 107]⟩ : ByteArray)).size = B.size + 5 := size_app _ _
            have q3 : (B ++ (⟨#[46]⟩ : ByteArray)).size = B.size + 1 := size_app _ _
            have c1 := fun w h => valid_any (B ++ (⟨#[47]⟩ : ByteArray)) w h (by omega)
            have c2 := fun w h => valid_any (B ++ (⟨#[46, 108, 111, 99, 107]⟩ : ByteArray)) w h (by omega)
            have c3 := fun w h => valid_any (B ++ (⟨#[46]⟩ : ByteArray)) w h (by omega)
            rw [show (B ++ (⟨#[47]⟩ : ByteArray)).data.toList = B.data.toList ++ [47] by rw [data_app], v2] at c1
            rw [show (B ++ (⟨#[46, 108, 111, 99, 107]⟩ : ByteArray)).data.toList = B.data.toList ++ [46, 108, 111, 99, 107] by rw [data_app], v3] at c2
            rw [show (B ++ (⟨#[46]⟩ : ByteArray)).data.toList = B.data.toList ++ [46] by rw [data_app], v4] at c3
            rw [v1] at cB
            rw [vT] at cT
            have f1 : (9223372036854775807 < B.size + 1) = False := eq_false (by omega)
            have f2 : (9223372036854775807 < B.size + 5) = False := eq_false (by omega)
            clear v1 v2 v3 v4 vT
            go_wp2_with fail
            refine (cB _ hGq).mono ?_
            rintro e w1 ⟨rfl, hb1⟩
            have hG1 := hGq.below hb1
            have hz1 := hb1.size
            go_wp2_with fail
            refine (cT _ hG1).mono ?_
            rintro e w2 ⟨rfl, hb2⟩
            have hG2 := hG1.below hb2
            have hz2 := hb2.size
            go_wp2_with fail
            refine (c1 _ hG2).mono ?_
            rintro e w3 ⟨rfl, hb3⟩
            have hG3 := hG2.below hb3
            have hz3 := hb3.size
            go_wp2_with fail
            refine (c2 _ hG3).mono ?_
            rintro e w4 ⟨rfl, hb4⟩
            have hG4 := hG3.below hb4
            have hz4 := hb4.size
            go_wp2_with fail
            refine (c3 _ hG4).mono ?_
            rintro e w5 ⟨rfl, hb5⟩
            have hG5 := hG4.below hb5
            have hz5 := hb5.size
            go_wp2_with fail
            refine (awake_any _ hG5).mono ?_
            rintro e w6 ⟨rfl, hb6⟩
            go_wp2
            go_ret
            have hzq := hbq.size
            exact ⟨rfl, (((((hbq.trans (hb1.mono hzq)).trans (hb2.mono (by omega))).trans (hb3.mono (by omega))).trans (hb4.mono (by omega))).trans (hb5.mono (by omega))).trans (hb6.mono (by omega))⟩
        · have h2 : decide ((k : Int) < (B.size : Int)) = false := decide_eq_false (by omega)
          have HC : k = B.size ∨ B.data.toList.getD k 0 < 128 := .inl (by omega)
          go_wp2
          have z1 : (B.extract 0 k).size = k := by rw [ByteArray.size_extract]; omega
          have z2 : (B.extract k B.size).size = B.size - k := by rw [ByteArray.size_extract]; omega
          have z3 : (B.extract 0 k ++ G).size = k + G.size := by rw [size_app, z1]
          have z4 : (B.extract 0 k ++ G ++ B.extract k B.size).size ≤ 50 := by rw [size_app, z3, z2]; omega
          have f1 : (9223372036854775807 < k + G.size) = False := eq_false (by omega)
          have f2 : (9223372036854775807 < k + G.size + (B.size - k)) = False := eq_false (by omega)
          have b1 : (k : Int) ≤ (B.size : Int) := by omega
          have b2 : (0 : Int) ≤ (k : Int) := by omega
          have vT : validL (B.extract 0 k ++ G ++ B.extract k B.size).data.toList = false := by
            rw [data_app, data_app, ext_to, ext_from]
            exact hput k h5 hkB HC
          clear hput
          go_quiet (fail)
          have hGq : Glob (w0.drewN nq) := (hG.below hb0).drewN _
          have hbq : Below w.heap.size w (w0.drewN nq) := Go.below_drewN hb0 nq
          generalize w0.drewN nq = wq at hGq hbq ⊢
          clear z1 z2 z3 f1 f2
          generalize B.extract 0 k ++ G ++ B.extract k B.size = T at z4 vT ⊢
          have hle : decide ((100 : Int) < (T.size : Int)) = false := decide_eq_false (by omega)
          have cB := fun w h => valid_any B w h (by omega)
          have cT := fun w h => valid_any T w h (by omega)
          have q1 : (B ++ (⟨#[47]⟩ : ByteArray)).size = B.size + 1 := size_app _ _
          have q2 : (B ++ (⟨#[46, 108, 111, 99, 107]⟩ : ByteArray)).size = B.size + 5 := size_app _ _
          have q3 : (B ++ (⟨#[46]⟩ : ByteArray)).size = B.size + 1 := size_app _ _
          have c1 := fun w h => valid_any (B ++ (⟨#[47]⟩ : ByteArray)) w h (by omega)
          have c2 := fun w h => valid_any (B ++ (⟨#[46, 108, 111, 99, 107]⟩ : ByteArray)) w h (by omega)
          have c3 := fun w h => valid_any (B ++ (⟨#[46]⟩ : ByteArray)) w h (by omega)
          rw [show (B ++ (⟨#[47]⟩ : ByteArray)).data.toList = B.data.toList ++ [47] by rw [data_app], v2] at c1
          rw [show (B ++ (⟨#[46, 108, 111, 99, 107]⟩ : ByteArray)).data.toList = B.data.toList ++ [46, 108, 111, 99, 107] by rw [data_app], v3] at c2
          rw [show (B ++ (⟨#[46]⟩ : ByteArray)).data.toList = B.data.toList ++ [46] by rw [data_app], v4] at c3
          rw [v1] at cB
          rw [vT] at cT
          have f1 : (9223372036854775807 < B.size + 1) = False := eq_false (by omega)
          have f2 : (9223372036854775807 < B.size + 5) = False := eq_false (by omega)
          clear v1 v2 v3 v4 vT
          go_wp2_with fail
          refine (cB _ hGq).mono ?_
          rintro e w1 ⟨rfl, hb1⟩
          have hG1 := hGq.below hb1
          have hz1 := hb1.size
          go_wp2_with fail
          refine (cT _ hG1).mono ?_
          rintro e w2 ⟨rfl, hb2⟩
          have hG2 := hG1.below hb2
          have hz2 := hb2.size
          go_wp2_with fail
          refine (c1 _ hG2).mono ?_
          rintro e w3 ⟨rfl, hb3⟩
          have hG3 := hG2.below hb3
          have hz3 := hb3.size
          go_wp2_with fail
          refine (c2 _ hG3).mono ?_
          rintro e w4 ⟨rfl, hb4⟩
          have hG4 := hG3.below hb4
          have hz4 := hb4.size
          go_wp2_with fail
          refine (c3 _ hG4).mono ?_
          rintro e w5 ⟨rfl, hb5⟩
          have hG5 := hG4.below hb5
          have hz5 := hb5.size
          go_wp2_with fail
          refine (awake_any _ hG5).mono ?_
          rintro e w6 ⟨rfl, hb6⟩
          go_wp2
          go_ret
          have hzq := hbq.size
          exact ⟨rfl, (((((hbq.trans (hb1.mono hzq)).trans (hb2.mono (by omega))).trans (hb3.mono (by omega))).trans (hb4.mono (by omega))).trans (hb5.mono (by omega))).trans (hb6.mono (by omega))⟩
end Go.Proofs.YtjmlppkleeegkaaDoor.Nm
