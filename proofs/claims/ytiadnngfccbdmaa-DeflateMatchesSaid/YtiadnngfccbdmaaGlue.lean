/- What a row's start gives: bytes in a slice as a list. -/
import Derived.Test.YtiadnngfccbdmaaQ
import Derived.ProofKit
import Derived.OpenShut
import Derived.ShutString
import Derived.ChangeOld
import Derived.Below
import Derived.SizedLaws
namespace Go.Proofs.Ytiadnngfccbdmaa.Df
open Go.ChangeShapes Go.WideShapes Go.ChangeAt Go.RowKit

theorem own : ownKnob Try.prog.godebug = none := by kernel_rfl
theorem laidOut : laidOutB Try.prog = true := by kernel_rfl
theorem int_wf {n : Int} (h : (Lit.int .i64 n).wf = true) : -9223372036854775808 ≤ n ∧ n < 9223372036854775808 := by
  simp only [Lit.wf, IntKind.min, IntKind.max, IntKind.signed, IntKind.bits, Bool.and_eq_true, decide_eq_true_eq, if_true] at h
  omega
theorem bytes_ints (zs : List Int) (h : ∀ n ∈ zs, (Lit.int .u8 n).wf = true) : zs.map (Value.int .u8) = (zs.map fun n => UInt8.ofNat n.toNat).map byteV := by
  rw [List.map_map]
  refine List.map_congr_left fun n hn => ?_
  have h1 := h n hn
  simp only [Lit.wf, IntKind.min, IntKind.max, IntKind.signed, IntKind.bits, Bool.and_eq_true] at h1
  show Value.int .u8 n = Value.int .u8 ((UInt8.ofNat n.toNat).toNat : Int)
  congr 1
  simp at h1 ⊢
  omega
variable {H : Type} {enc : TypeId × Value → H} {W : World} {base b0 : Nat} {spare : Nat → Bool} {held : Bool} {v : Value} {d : DataW H} {p : List MemPlace}
set_option maxRecDepth 100000 in
theorem bytes_came (_hv : Value.okWide Try.prog W .any base 22 v) (h : DataW.Trod enc Try.prog W b0 (fun _ => true) held 22 v d p) : ∃ zs : List UInt8, Came W v zs ∧ zs.length ≤ 9223372036854775807 := by
  obtain ⟨a0, len0, cap0, rfl⟩ := okWide_slice Try.underlying22 _hv
  obtain ⟨fuel, hf⟩ := h
  rcases open_ints Try.underlying22 Try.underlying5 (by kernel_rfl) hf with ⟨hcs, _⟩ | ⟨x, l, c, zs, hcs, q1, hl, hm, hz, hx, hcell, hwz⟩
  · simp [Value.cells] at hcs
    obtain ⟨rfl, rfl, rfl⟩ := hcs
    exact ⟨[], .inl ⟨_, _, rfl, rfl⟩, Nat.zero_le _⟩
  · simp [Value.cells] at hcs
    obtain ⟨rfl, rfl, rfl⟩ := hcs
    simp at hz
    by_cases h0 : len0 = 0
    · subst h0
      exact ⟨[], .inl ⟨_, _, rfl, rfl⟩, Nat.zero_le _⟩
    · have h00 := hcell 0 (by omega)
      have e0 : x.add 0 = x := rfl
      rw [e0] at h00
      obtain ⟨k, o, spot⟩ := x
      have hsp : spot = none := by
        cases spot with
        | none => rfl
        | some q =>
          unfold World.cell? at h00
          simp at h00
          split at h00 <;> simp at h00
      subst hsp
      have hlen : ((zs.take len0).map fun n => UInt8.ofNat n.toNat).length = len0 := by simp; omega
      refine ⟨(zs.take len0).map fun n => UInt8.ofNat n.toNat, .inr ⟨k, o, cap0, by rw [hlen], by omega, World.block_lt_of_cell? W _ h00, fun j hj => ?_⟩, by rw [hlen]; unfold maxLen at hm; omega⟩
      have hj2 : j < len0 := by omega
      rw [← addr_add, hcell j (by omega)]
      have hb := bytes_ints (zs.take len0) (fun n hn => hwz n (List.mem_of_mem_take hn))
      have hb2 := congrArg (fun l => l[j]?) hb
      simp only [List.getElem?_map] at hb2
      rw [List.getElem?_take, if_pos hj2, List.getElem?_eq_getElem (by omega)] at hb2
      simp only [Option.map_some] at hb2
      rw [List.getElem_map, List.getElem_take]
      simpa [show j < zs.length by omega] using hb2
end Go.Proofs.Ytiadnngfccbdmaa.Df
