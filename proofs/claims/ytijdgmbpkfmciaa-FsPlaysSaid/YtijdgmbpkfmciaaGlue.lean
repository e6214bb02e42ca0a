/- What a row's start gives: integers and bytes in slices as lists. -/
import Derived.Test.YtijdgmbpkfmciaaU
import Derived.ProofKit
import Derived.OpenShut
import Derived.ShutString
import Derived.ChangeOld
import Derived.Below
import Derived.SizedLaws
namespace Go.Proofs.Ytijdgmbpkfmciaa.Fs
open Go.ChangeShapes Go.WideShapes Go.ChangeAt Go.RowKit

theorem own : ownKnob Try.prog.godebug = none := by kernel_rfl
theorem laidOut : laidOutB Try.prog = true := by kernel_rfl
theorem int_wf {n : Int} (h : (Lit.int .i64 n).wf = true) : -9223372036854775808 ≤ n ∧ n < 9223372036854775808 := by
  simp only [Lit.wf, IntKind.min, IntKind.max, IntKind.signed, IntKind.bits, Bool.and_eq_true, decide_eq_true_eq, if_true] at h
  omega
theorem news_of {w : World} {x : Addr} {l c : Nat} {zs : List Int} {k : IntKind} (hl : l ≤ zs.length) (hlc : l ≤ c) (hcell : ∀ i, i < zs.length → w.cell? (x.add i) = some (.int k (zs.getD i 0))) : News w (.slice (some x) l c) ((zs.take l).map (Value.int k)) := by
  have e : ((zs.take l).map (Value.int k)).length = l := by simp; omega
  refine .inr ⟨x, c, by rw [e], by rw [e]; exact hlc, fun j u hj => ?_⟩
  have hjl : j < l := by
    have := (List.getElem?_eq_some_iff.1 hj).1
    rwa [e] at this
  rw [hcell j (by omega)]
  rw [List.getElem?_map, List.getElem?_take, if_pos hjl, List.getElem?_eq_getElem (by omega)] at hj
  rw [← hj]
  simp [show j < zs.length by omega]
variable {H : Type} {enc : TypeId × Value → H} {W : World} {base b0 : Nat} {spare : Nat → Bool} {held : Bool} {v : Value} {d : DataW H} {p : List MemPlace}
set_option maxRecDepth 100000 in
theorem ints_news (_hv : Value.okWide Try.prog W .any base 22 v) (h : DataW.Trod enc Try.prog W b0 (fun _ => true) held 22 v d p) : ∃ zs : List Int, News W v (zs.map intV) ∧ zs.length ≤ 9223372036854775807 := by
  obtain ⟨a0, len0, cap0, rfl⟩ := okWide_slice Try.underlying22 _hv
  obtain ⟨fuel, hf⟩ := h
  rcases open_ints Try.underlying22 Try.underlying3 (by kernel_rfl) hf with ⟨hcs, _⟩ | ⟨x, l, c, zs, hcs, _, hl, hm, hz, _, hcell, hwz⟩
  · simp [Value.cells] at hcs
    obtain ⟨rfl, rfl, rfl⟩ := hcs
    exact ⟨[], .inl ⟨rfl, rfl⟩, Nat.zero_le _⟩
  · simp [Value.cells] at hcs
    obtain ⟨rfl, rfl, rfl⟩ := hcs
    simp at hz
    refine ⟨zs.take len0, news_of (by omega) hl hcell, ?_⟩
    unfold maxLen at hm
    simp; omega
theorem bytes_ints (zs : List Int) (h : ∀ n ∈ zs, (Lit.int .u8 n).wf = true) : zs.map (Value.int .u8) = (zs.map fun n => UInt8.ofNat n.toNat).map byteV := by
  rw [List.map_map]
  refine List.map_congr_left fun n hn => ?_
  have h1 := h n hn
  simp only [Lit.wf, IntKind.min, IntKind.max, IntKind.signed, IntKind.bits, Bool.and_eq_true] at h1
  show Value.int .u8 n = Value.int .u8 ((UInt8.ofNat n.toNat).toNat : Int)
  congr 1
  simp at h1 ⊢
  omega
set_option maxRecDepth 100000 in
theorem bytes_sized {ts : List TypeId} {ds : List (DataW H)} (hsz : (DataW.weightsEach Try.prog ts ds).all (· ≤ reachBytes) = true) {j : Nat} (ht : ts[j]? = some 27) (hd : ds[j]? = some d)
    (_hv : Value.okWide Try.prog W .any base 27 v) (h : DataW.Trod enc Try.prog W b0 (fun _ => true) held 27 v d p) : ∃ zs : List UInt8, News W v (zs.map byteV) ∧ zs.length ≤ 140737488351232 := by
  obtain ⟨a0, len0, cap0, rfl⟩ := okWide_slice Try.underlying27 _hv
  obtain ⟨fuel, hf⟩ := h
  rcases open_ints Try.underlying27 Try.underlying5 (by kernel_rfl) hf with ⟨hcs, _⟩ | ⟨x, l, c, zs, hcs, _, hl, hm, hz, hx, hcell, hwz⟩
  · simp [Value.cells] at hcs
    obtain ⟨rfl, rfl, rfl⟩ := hcs
    exact ⟨[], .inl ⟨rfl, rfl⟩, Nat.zero_le _⟩
  · simp [Value.cells] at hcs
    obtain ⟨rfl, rfl, rfl⟩ := hcs
    simp at hz
    refine ⟨(zs.take len0).map fun n => UInt8.ofNat n.toNat, ?_, ?_⟩
    · rw [← bytes_ints _ (fun n hn => hwz n (List.mem_of_mem_take hn))]
      exact news_of (by omega) hl hcell
    · simp only [Prod.mk.injEq] at hx
      rw [hx.1] at hd
      have hr := sized_slice hsz (e := 5) ht hd Try.underlying27
      rw [show Try.prog.bytesOf 5 = 1 from by kernel_rfl] at hr
      simp [lits] at hr
      unfold reachBytes at hr
      simp
      omega
end Go.Proofs.Ytijdgmbpkfmciaa.Fs
