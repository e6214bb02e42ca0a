/- The file system: Used walked. -/
import Derived.Test.YtijdgmbpkfmciaaM
namespace Go.Proofs.Ytijdgmbpkfmciaa.Fs
open Go.RowKit Go.Maps Go.ChangeMaps Go.WideMaps Go.Joins Go.Sort

theorem below_grown_new {w wr w' : World} {r : Nat} (hb : Below w.heap.size w wr) (hg : wr.grownBy w' (some r)) (hr : w.heap.size ≤ r) : Below w.heap.size w w' :=
  ⟨hg.os.trans hb.os, hg.tape.trans hb.tape, hg.output.trans hb.output, Nat.le_trans hb.size hg.size, fun k hk => by
    have := hb.size
    rw [hg.block k (by omega) (by simp; omega), hb.block k hk]⟩

set_option maxHeartbeats 1000000 in
set_option maxRecDepth 100000 in
theorem used_any (g : Gh) (s : St) (w : World) (h : Rep w g s) (hI : Ids s g) (hb : used s ≤ 4611686018427387904) :
    Calls Try.prog 16 #[.pointer (some ⟨g.p, 0, none⟩)] w fun e w' => e = .returned (.int .i64 (used s : Nat)) ∧ Below w.heap.size w w' := by
  obtain ⟨-, h1, -⟩ := fs_cells h.cells
  have hnm := h.nm
  have HT := Lib.hid (hnm.tidy law)
  have HM := Lib.hid hnm.isMap
  have HR := Lib.hid h
  have HI := Lib.hid hI
  clear h hI
  go_enter Try.func16, Try.ntmps16
  go_wp2_with (first | (at_range; refine wpList_range_own _ rfl _ 58 rfl 9 63 law Try.underlying58 ptrR g.m _ s.names rfl hnm ?_; intro w0 hrg0 hg0 hs0))
  go_frame
  have hb0 : Below w.heap.size w w0 := ⟨hg0.os, hg0.tape, hg0.output, hg0.size, fun k hk => hg0.block k hk (by simp)⟩
  go_loopw [3, 5] (fun a _ wr => ∃ left cnt, wr.ranges Try.prog 9 ptrR g.m w.heap.size (Maps.size s.names) s.names left cnt ∧ a = .int .i64 (sumE s left (entsOf s.names) : Nat) ∧ Below w.heap.size w wr) (fun _ _ wr => wr.rangeLeft g.m w.heap.size)
  case atStart => 
    refine ⟨_, _, hrg0, ?_, hb0⟩
    rw [sumE_none s (fun p hp => by
      obtain ⟨es, he⟩ := HM.out
      rw [he] at hp ⊢
      rw [has_eq, List.any_eq_true]
      have hstr : ∃ x, p.1 = .string x := by
        obtain ⟨es', he', hk⟩ := hnm.keysOf
        rw [he] at he'
        cases he'
        obtain ⟨v, hv⟩ := hk p hp
        obtain ⟨x, _, e, _⟩ := string_of_keyOf Try.underlying9 hv
        exact ⟨_, e⟩
      obtain ⟨x, hx⟩ := hstr
      exact ⟨p, hp, by rw [hx]; simp [Lit.sameKey]⟩)]
    rfl
  case round =>
    obtain ⟨left, cnt, hrg, rfl, hbr⟩ := hrel
    go_wp2_with (first | (at_next; refine wpList_next_ranges _ rfl _ rfl 9 law ptrR Value.string ptrV (fun key kl hk => by obtain ⟨x, e, _⟩ := string_of_keyOf Try.underlying9 hk; exact ⟨x, e⟩) (fun v y hv => by obtain ⟨k, e, _⟩ := ptrR_inv hv; exact ⟨k, e⟩) g.m w.heap.size _ s.names left cnt rfl hrg ?_ ?_))
    · intro _ hl0
      have HE := Lib.hid (sumE_all s (es := entsOf s.names) hl0)
      go_wp2
      go_ret
      exact ⟨by rw [show used s = sumE s left (entsOf s.names) from HE.out.symm]; rfl, hbr⟩
    · intro x c kl' yd ps w1 cnt1 hkx hlx hvc hat hrg1 hlt hg1 hs1 hen
      obtain ⟨x', ex, rfl, hxs⟩ := string_of_keyOf Try.underlying9 hkx
      cases ex
      rw [ptrR_V] at hvc
      cases hvc
      have hlk : look s.names x = c := by unfold look; rw [show kl x = .string x.data.toList from rfl, hat]; simp
      obtain ⟨f, hf, e⟩ := HI.out x (has_true_of_atKey hat)
      obtain rfl : c = f + 1 := hlk.symm.trans e
      rw [show ptrV (f + 1) = .pointer (some ⟨f, 0, none⟩) from rfl] at hen ⊢
      have hb1 := below_grown_new hbr hg1 (Nat.le_refl _)
      obtain ⟨hfc, hfr⟩ := HR.out.fl f hf
      have hflt := HR.out.lt f (mem_foot.2 (.inr (.inr (.inr (.inr (.inl hf))))))
      obtain ⟨f0, -, -⟩ := file_cells ((hb1.block f hflt).trans hfc)
      obtain ⟨va, vc, hv⟩ := row_slice hfr
      rw [hv, List.length_map] at f0
      have hmem := entry_of HM.out ⟨_, rfl⟩ hat
      have hst : sumE s (fun z => left z && !z.sameKey (.string x.data.toList)) (entsOf s.names) = sumE s left (entsOf s.names) + (s.files f).1.length := by
        obtain ⟨es, he, hpw⟩ := HT.out
        have hmem' := hmem
        rw [he] at hmem' ⊢
        have := sumE_step s (left := left) (k := .string x.data.toList) (by simp [Lit.sameKey]) hlx hpw hmem'
        refine this.trans ?_
        show sumE s left es + _ = sumE s left es + _
        congr 1
      have hle := sumE_le s (fun z => left z && !z.sameKey (.string x.data.toList)) (entsOf s.names)
      rw [hst] at hle
      have hle2 : sumE s left (entsOf s.names) + (s.files f).1.length ≤ 4611686018427387904 := Nat.le_trans hle hb
      have hw1 : IntKind.i64.wrap ((sumE s left (entsOf s.names) : Nat) + ((s.files f).1.length : Nat) : Int) = ((sumE s left (entsOf s.names) : Nat) : Int) + ((s.files f).1.length : Nat) := IntWalk.i64_in _ (by omega)
      have HST := Lib.hid hst
      have HRG := Lib.hid hrg1
      have HRG0 := Lib.hid hrg
      clear hst hle hmem hat hkx hlx hfc hfr hv e hlk hrg hg1
      go_wp2
      go_roundw
      case rel => exact ⟨_, _, HRG.out, by rw [HST.out]; go_num, hb1⟩
      case measure => rw [HRG.out.left_eq, HRG0.out.left_eq]; omega
end Go.Proofs.Ytijdgmbpkfmciaa.Fs
