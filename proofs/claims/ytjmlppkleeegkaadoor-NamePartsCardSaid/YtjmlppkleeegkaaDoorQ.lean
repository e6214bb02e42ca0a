/- The law NameStars walked. -/
import Derived.Test.YtjmlppkleeegkaaDoorPlain5
import Derived.Deep.QuietTactic
import Derived.BigQuiet
import Derived.Laws.BitsLemmas
namespace Go.Proofs.YtjmlppkleeegkaaDoor.Nm
open Go.RowKit Go.Lib
open Go (below_drewN)

theorem i64_and_mask (k : Nat) (hk : k ≤ 32) (n : Int) : bits .and .i64 n ((2 ^ k - 1 : Nat) : Int) = n % (2 ^ k : Nat) := by
  have hb : 2 ^ k ≤ 2 ^ 32 := Nat.pow_le_pow_right (by decide) hk
  have hm : (BitVec.ofInt 64 ((2 ^ k - 1 : Nat) : Int)).toNat = 2 ^ k - 1 := by
    rw [BitVec.ofInt_natCast, BitVec.toNat_ofNat, Nat.mod_eq_of_lt (by omega)]
  have key : (BitVec.ofInt 64 n &&& BitVec.ofInt 64 ((2 ^ k - 1 : Nat) : Int)).toNat = (n % ((2 ^ 64 : Nat) : Int)).toNat % 2 ^ k := by
    rw [BitVec.toNat_and, BitVec.toNat_ofInt, hm, Nat.and_two_pow_sub_one_eq_mod]
  show IntKind.i64.wrap ((BitVec.ofInt 64 n &&& BitVec.ofInt 64 ((2 ^ k - 1 : Nat) : Int)).toNat : Nat) = n % (2 ^ k : Nat)
  have hd : ((2 ^ k : Nat) : Int) ∣ ((2 ^ 64 : Nat) : Int) := Int.natCast_dvd_natCast.2 (Nat.pow_dvd_pow 2 (by omega))
  have h3 : (((n % ((2 ^ 64 : Nat) : Int)).toNat % 2 ^ k : Nat) : Int) = n % (2 ^ k : Nat) := by
    rw [Int.natCast_emod, Int.toNat_of_nonneg (by omega), Int.emod_emod_of_dvd _ hd]
  rw [key, h3, IntKind.wrap_i64]
  have h1 : 0 ≤ n % ((2 ^ k : Nat) : Int) := Int.emod_nonneg _ (by have := Nat.two_pow_pos k; omega)
  have h2 : n % ((2 ^ k : Nat) : Int) < ((2 ^ k : Nat) : Int) := Int.emod_lt_of_pos _ (by have := Nat.two_pow_pos k; omega)
  omega
theorem and3_nat (n : Int) : ∃ i : Nat, i < 4 ∧ bits .and .i64 n 3 = (i : Int) := by
  refine ⟨(n % 4).toNat, by omega, ?_⟩
  have := i64_and_mask 2 (by decide) n
  rw [show ((2 ^ 2 - 1 : Nat) : Int) = 3 from rfl, show ((2 ^ 2 : Nat) : Int) = 4 from rfl] at this
  rw [this]
  omega


def oX : Obj := .cells #[.string (S (xL 0)), .string (S (xL 1)), .string (S (xL 2)), .string (S (xL 3))] 9
def oE : Obj := .cells #[.string (S (eL 0)), .string (S (eL 1)), .string (S (eL 2)), .string (S (eL 3))] 9
theorem cellX (w : World) {i : Nat} (h : i < 4) : ((w.alloc oX).alloc oE).cell? ⟨w.heap.size, i, none⟩ = some (.string (S (xL i))) := by
  rcases (show i = 0 ∨ i = 1 ∨ i = 2 ∨ i = 3 by omega) with rfl | rfl | rfl | rfl <;> (rw [cell_alloc_old (w.alloc oX) (by simp)]; simp [oX, go_sem])
theorem cellE (w : World) {i : Nat} (h : i < 4) : ((w.alloc oX).alloc oE).cell? ⟨w.heap.size + 1, i, none⟩ = some (.string (S (eL i))) := by
  have e : (w.alloc oX).heap.size = w.heap.size + 1 := by simp
  rw [← e]
  rcases (show i = 0 ∨ i = 1 ∨ i = 2 ∨ i = 3 by omega) with rfl | rfl | rfl | rfl <;> simp [oE, go_sem]
theorem S_app (a b : ByteArray) : (a ++ b) = S (a.data.toList ++ b.data.toList) := by rw [← data_app, S_of]

/-- What the law asks of its callees. -/
structure StarAsk (A B F T : ByteArray) (okF okT : Bool) : Prop where
  p1 : ∀ w, Glob w → Calls Tryd.prog 8 #[.string (A ++ ⟨#[58]⟩ ++ B)] w fun e w' => e = .returned (.tuple #[.agg #[.bool false, .string A, .string B], .int .i64 0]) ∧ Below w.heap.size w w'
  p2 : ∀ w, Glob w → Calls Tryd.prog 8 #[.string (⟨#[43]⟩ ++ B ++ ⟨#[58]⟩ ++ A)] w fun e w' => e = .returned (.tuple #[.agg #[.bool true, .string B, .string A], .int .i64 0]) ∧ Below w.heap.size w w'
  m1 : ∀ w, Glob w → Calls Tryd.prog 10 #[.agg #[.bool false, .string A, .string B], .string F] w fun e w' => e = .returned (.tuple #[.string (if okT then T else ⟨#[]⟩), .bool okT]) ∧ Below w.heap.size w w'
  m2 : ∀ w, Glob w → Calls Tryd.prog 10 #[.agg #[.bool true, .string B, .string A], .string (if okT then T else ⟨#[]⟩)] w fun e w' => e = .returned (.tuple #[.string (if okT && okF then F else ⟨#[]⟩), .bool (okT && okF)]) ∧ Below w.heap.size w w'
  vF : ∀ w, Glob w → Calls Tryd.prog 11 #[.string F] w fun e w' => e = .returned (.bool okF) ∧ Below w.heap.size w w'
  vT : ∀ w, Glob w → Calls Tryd.prog 11 #[.string T] w fun e w' => e = .returned (.bool okT) ∧ Below w.heap.size w w'

theorem pat_S (i j : Nat) : S (xL i) ++ ⟨#[42]⟩ ++ S (eL j) = S (xL i ++ 42 :: eL j) := by rw [S_app, data_app]; simp
theorem full_S (i j : Nat) (s : ByteArray) : S (xL i) ++ s ++ S (eL j) = S (xL i ++ (s.data.toList ++ eL j)) := by rw [S_app, data_app]; simp

theorem starAsk {i0 j0 i1 j1 : Nat} (hi0 : i0 < 4) (hj0 : j0 < 4) (hi1 : i1 < 4) (hj1 : j1 < 4) (s : ByteArray) (hs : s.size ≤ 60) :
    ∃ okF okT, StarAsk (S (xL i0) ++ ⟨#[42]⟩ ++ S (eL j0)) (S (xL i1) ++ ⟨#[42]⟩ ++ S (eL j1)) (S (xL i0) ++ s ++ S (eL j0)) (S (xL i1) ++ s ++ S (eL j1)) okF okT := by
  have a0 := xL_le i0 hi0
  have a1 := xL_le i1 hi1
  have b0 := eL_le j0 hj0
  have b1 := eL_le j1 hj1
  have n0 := pat_no i0 hi0
  have n1 := pat_no i1 hi1
  have hs' := hs
  rw [Lib.size_eq] at hs'
  rw [pat_S, pat_S, full_S, full_S]
  refine ⟨validL (xL i0 ++ (s.data.toList ++ eL j0)), validL (xL i1 ++ (s.data.toList ++ eL j1)), ?_, ?_, ?_, ?_, ?_, ?_⟩
  · intro w hG
    have h := parse_any (S (xL i0 ++ 42 :: eL j0) ++ ⟨#[58]⟩ ++ S (xL i1 ++ 42 :: eL j1)) w hG (by rw [S_app, S_size]; simp; omega)
    have e : (S (xL i0 ++ 42 :: eL j0) ++ ⟨#[58]⟩ ++ S (xL i1 ++ 42 :: eL j1)).data.toList = textL false (xL i0 ++ 42 :: eL j0) (xL i1 ++ 42 :: eL j1) := by rw [data_app, data_app]; simp [textL]
    rw [e, pat_parse false hi0 hj0 hi1 hj1] at h
    exact h
  · intro w hG
    have h := parse_any (⟨#[43]⟩ ++ S (xL i1 ++ 42 :: eL j1) ++ ⟨#[58]⟩ ++ S (xL i0 ++ 42 :: eL j0)) w hG (by rw [S_app, S_size]; simp; omega)
    have e : (⟨#[43]⟩ ++ S (xL i1 ++ 42 :: eL j1) ++ ⟨#[58]⟩ ++ S (xL i0 ++ 42 :: eL j0)).data.toList = textL true (xL i1 ++ 42 :: eL j1) (xL i0 ++ 42 :: eL j0) := by rw [data_app, data_app, data_app]; simp [textL]
    rw [e, pat_parse true hi1 hj1 hi0 hj0] at h
    exact h
  · intro w hG
    have h := map_any false (S (xL i0 ++ 42 :: eL j0)) (S (xL i1 ++ 42 :: eL j1)) (S (xL i0 ++ (s.data.toList ++ eL j0))) w hG (by rw [S_size]; simp; omega) (by rw [S_size]; simp; omega) (by rw [S_size]; simp; omega)
    rw [S_data, S_data, S_data, map_pat n0 n1] at h
    generalize validL (xL i1 ++ (s.data.toList ++ eL j1)) = V at h ⊢
    cases V <;> exact h
  · intro w hG
    generalize hV : validL (xL i1 ++ (s.data.toList ++ eL j1)) = V
    cases V with
    | false =>
      have h := map_any true (S (xL i1 ++ 42 :: eL j1)) (S (xL i0 ++ 42 :: eL j0)) ⟨#[]⟩ w hG (by rw [S_size]; simp; omega) (by rw [S_size]; simp; omega) (by decide)
      rw [S_data, S_data, show (⟨#[]⟩ : ByteArray).data.toList = [] from rfl, map_nil n1 a1.2] at h
      exact h
    | true =>
      have h := map_any true (S (xL i1 ++ 42 :: eL j1)) (S (xL i0 ++ 42 :: eL j0)) (S (xL i1 ++ (s.data.toList ++ eL j1))) w hG (by rw [S_size]; simp; omega) (by rw [S_size]; simp; omega) (by rw [S_size]; simp; omega)
      rw [S_data, S_data, S_data, map_pat n1 n0] at h
      generalize validL (xL i0 ++ (s.data.toList ++ eL j0)) = V at h ⊢
      cases V <;> exact h
  · intro w hG
    have h := valid_any (S (xL i0 ++ (s.data.toList ++ eL j0))) w hG (by rw [S_size]; simp; omega)
    rw [S_data] at h
    exact h
  · intro w hG
    have h := valid_any (S (xL i1 ++ (s.data.toList ++ eL j1))) w hG (by rw [S_size]; simp; omega)
    rw [S_data] at h
    exact h
end Go.Proofs.YtjmlppkleeegkaaDoor.Nm
