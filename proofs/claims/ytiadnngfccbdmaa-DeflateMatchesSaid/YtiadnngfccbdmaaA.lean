/- Deflate: three, alike. -/
import Derived.Test.YtiadnngfccbdmaaProg
import Derived.WalkKit
import Derived.Lib.Hide
import Derived.Lib.SmallJoins
import Derived.Deep.QuietTactic
import Derived.BigQuiet
import Derived.IntWalk
import Derived.Laws.BitsAllLaws
namespace Go.Proofs.Ytiadnngfccbdmaa.Df
open Go.RowKit Go.Joins

def byteV (b : UInt8) : Value := .int .u8 b.toNat
/-- These bytes lie there. -/
def Arr (w : World) (k o : Nat) (bs : List UInt8) : Prop := ∀ j (hj : j < bs.length), w.cell? ⟨k, o + j, none⟩ = some (byteV (bs[j]'hj))
def key3 (x y z : UInt8) : Int := bits .or .u32 (bits .or .u32 (x.toNat : Int) ((y.toNat : Int) * 256)) ((z.toNat : Int) * 65536)
theorem key3_wf (x y z : UInt8) : (Lit.int .u32 (key3 x y z)).wf = true := by
  unfold key3 bits
  generalize (BitVec.toNat _) = m
  simp only [Lit.wf, IntKind.wrap_u32, IntKind.min, IntKind.max, IntKind.signed, IntKind.bits, Bool.and_eq_true, decide_eq_true_eq]
  simp
  omega

set_option maxHeartbeats 1000000 in
set_option maxRecDepth 100000 in
theorem three_any (k o n c : Nat) (x y z : UInt8) (w : World) (hn : 3 ≤ n) (h0 : w.cell? ⟨k, o, none⟩ = some (byteV x)) (h1 : w.cell? ⟨k, o + 1, none⟩ = some (byteV y)) (h2 : w.cell? ⟨k, o + 2, none⟩ = some (byteV z)) :
    Calls Try.prog 12 #[.slice (some ⟨k, o, none⟩) n c] w fun e w' => e = .returned (.int .u32 (key3 x y z)) ∧ ∃ m, w' = w.drewN m := by
  unfold key3
  unfold byteV at h0 h1 h2
  have hx := x.toNat_lt
  have hy := y.toNat_lt
  have hz := z.toNat_lt
  generalize x.toNat = X at h0 hx ⊢
  generalize y.toNat = Y at h1 hy ⊢
  generalize z.toNat = Z at h2 hz ⊢
  have n0 : (0 : Int) < (n : Int) := by omega
  have n1 : (1 : Int) < (n : Int) := by omega
  have n2 : (2 : Int) < (n : Int) := by omega
  go_enter Try.func12, Try.ntmps12
  go_wp2_with fail
  go_quiet (fail)
  go_wp2
  go_ret
  exact ⟨rfl, nq, rfl⟩

def Alike (bs : List UInt8) (i j n : Nat) : Prop := n ≤ 258 ∧ j + n ≤ bs.length ∧ ∀ m, m < n → bs[i + m]? = bs[j + m]?
theorem drewN_drewN (w : World) (a b : Nat) : (w.drewN a).drewN b = w.drewN (a + b) := by
  simp [World.drewN, Nat.add_assoc]

set_option maxHeartbeats 2000000 in
set_option maxRecDepth 100000 in
theorem alike_any (k o c i j : Nat) (bs : List UInt8) (w : World) (ha : Arr w k o bs) (hij : i < j) (hj : j ≤ bs.length) (hl : bs.length ≤ 1000000) :
    Calls Try.prog 13 #[.slice (some ⟨k, o, none⟩) bs.length c, .int .i64 i, .int .i64 j] w fun e w' => ∃ n, Alike bs i j n ∧ e = .returned (.int .i64 (n : Nat)) ∧ ∃ m, w' = w.drewN m := by
  go_enter Try.func13, Try.ntmps13
  go_wp2_with fail
  go_loopw [7] (fun a wr => ∃ n q : Nat, Hid (Alike bs i j n) ∧ n ≤ 258 ∧ a = .int .i64 n ∧ Hid (wr = w.drewN q)) (fun a _ => 258 - (RowKit.intOf a).toNat)
  case atStart => exact ⟨0, 0, Lib.hid ⟨Nat.zero_le _, by omega, fun m hm => absurd hm (by omega)⟩, Nat.zero_le _, rfl, Lib.hid rfl⟩
  case round =>
    obtain ⟨n, q, HA, hn, rfl, HQ⟩ := hrel
    obtain ⟨a1, a2, a3⟩ := HA.out
    have hcl : ∀ m (hm : m < bs.length), wr.cell? ⟨k, o + m, none⟩ = some (byteV (bs[m]'hm)) := by
      intro m hm
      rw [HQ.out]
      exact ha m hm
    clear a3
    by_cases h1 : n < 258
    · have s1 : (n : Int) < 258 := by omega
      by_cases h2 : j + n < bs.length
      · have s2 : (j : Int) + (n : Int) < (bs.length : Int) := by omega
        have s3 : (i : Int) + (n : Int) < (bs.length : Int) := by omega
        have e1 := hcl (i + n) (by omega)
        have e2 := hcl (j + n) h2
        have HNX : Hid (bs[i + n]'(by omega) = bs[j + n]'h2 → Alike bs i j (n + 1)) := Lib.hid fun e => ⟨by omega, by omega, fun m hm => by
          by_cases h : m < n
          · exact HA.out.2.2 m h
          · have : m = n := by omega
            subst this
            rw [List.getElem?_eq_getElem (by omega), List.getElem?_eq_getElem h2, e]⟩
        generalize (bs[i + n]'(by omega)) = x at e1 HNX
        generalize (bs[j + n]'h2) = y at e2 HNX
        unfold byteV at e1 e2
        clear hcl ha
        have w1 : IntKind.i64.wrap ((j : Int) + (n : Int)) = (j : Int) + (n : Int) := IntWalk.i64_in _ (by omega)
        have w2 : IntKind.i64.wrap ((i : Int) + (n : Int)) = (i : Int) + (n : Int) := IntWalk.i64_in _ (by omega)
        have p1 : (0 : Int) ≤ (j : Int) + (n : Int) := by omega
        have p2 : (0 : Int) ≤ (i : Int) + (n : Int) := by omega
        have t1 : ((j : Int) + (n : Int)).toNat = j + n := by omega
        have t2 : ((i : Int) + (n : Int)).toNat = i + n := by omega
        by_cases hxy : x = y
        · subst hxy
          have HA2 := Lib.hid (HNX.out rfl)
          clear HNX
          go_wp2_with fail
          go_quiet (fail)
          clear w1 w2 t1 t2
          go_wp2
          go_roundw
          case measure => simp [RowKit.intOf]; omega
          case rel => exact ⟨n + 1, q + nq, HA2, by omega, by go_num, Lib.hid (by rw [HQ.out, drewN_drewN])⟩
        · have hne : ((x.toNat : Int) == (y.toNat : Int)) = false := by
            rw [beq_eq_false_iff_ne]
            intro e
            exact hxy (UInt8.toNat_inj.1 (by omega))
          clear HNX hxy
          go_wp2_with fail
          go_quiet (fail)
          clear w1 w2 t1 t2
          go_wp2
          go_ret
          exact ⟨n, HA.out, rfl, q + nq, by rw [HQ.out, drewN_drewN]⟩
      · have s2 : decide ((j : Int) + (n : Int) < (bs.length : Int)) = false := decide_eq_false (by omega)
        have w1 : IntKind.i64.wrap ((j : Int) + (n : Int)) = (j : Int) + (n : Int) := IntWalk.i64_in _ (by omega)
        clear hcl ha
        go_wp2_with fail
        go_quiet (fail)
        clear w1
        go_wp2
        go_ret
        exact ⟨n, HA.out, rfl, q + nq, by rw [HQ.out, drewN_drewN]⟩
    · have s1 : decide ((n : Int) < 258) = false := decide_eq_false (by omega)
      clear hcl ha
      go_wp2_with fail
      go_quiet (fail)
      go_wp2
      go_ret
      exact ⟨n, HA.out, rfl, q + nq, by rw [HQ.out, drewN_drewN]⟩
end Go.Proofs.Ytiadnngfccbdmaa.Df
