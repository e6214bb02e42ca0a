/- The file system: what is wrong with a name; the fuse. -/
import Derived.Test.YtijdgmbpkfmciaaA
import Derived.Test.YtijdgmbpkfmciaaLib
import Derived.Deep.QuietTactic
import Derived.BigQuiet
namespace Go.Proofs.Ytijdgmbpkfmciaa.Fs
open Go.RowKit Go.Maps Go.ChangeMaps Go.WideMaps Go.Joins

theorem turn_set (w : World) (p o : Nat) (v : Value) : Turn w (w.setCell ⟨p, o, none⟩ v) [p] := by
  refine ⟨rfl, rfl, rfl, by simp, fun k _ hF => ?_⟩
  have hne : k ≠ p := by simpa using hF
  unfold World.setCell
  simp only [Array.getElem?_modify]
  rw [if_neg (Ne.symm hne)]
def okN (s : ByteArray) : Bool := decide (1 ≤ s.size) && (decide (s.size ≤ 200) && decide (Lib.indexByte s.data.toList 0 < 0))
def namedE (dead : Bool) (l : List ByteArray) : Int := if dead then 50 else if l.all okN then 0 else 1

theorem fs_cells {w : World} {p : Nat} {a0 a1 a2 a3 a4 a5 : Value} (h : w.heap[p]? = some (.cells #[a0, a1, a2, a3, a4, a5] 61 (0, 0))) :
    w.cell? ⟨p, 0, none⟩ = some a0 ∧ w.cell? ⟨p, 1, none⟩ = some a1 ∧ w.cell? ⟨p, 2, none⟩ = some a2 ∧ w.cell? ⟨p, 3, none⟩ = some a3 ∧ w.cell? ⟨p, 4, none⟩ = some a4 ∧ w.cell? ⟨p, 5, none⟩ = some a5 ∧ ∀ o, w.frozen? ⟨p, o, none⟩ = false := by
  refine ⟨?_, ?_, ?_, ?_, ?_, ?_, fun o => unfrozen_of_block h o⟩ <;> rw [cell_of_block h] <;> rfl

set_option maxHeartbeats 2000000 in
set_option maxRecDepth 100000 in
theorem named_any (p b : Nat) (dead : Bool) (l : List ByteArray) (w : World) (hd : w.cell? ⟨p, 5, none⟩ = some (.bool dead)) (hl : l.length ≤ 2) (hne : 0 < l.length)
    (hc : ∀ j (hj : j < l.length), w.cell? ⟨b, j, none⟩ = some (.string (l[j]'hj))) (hs : ∀ j (hj : j < l.length), (l[j]'hj).size ≤ 9223372036854775807) :
    Calls Try.prog 32 #[.pointer (some ⟨p, 0, none⟩), .slice (some ⟨b, 0, none⟩) l.length l.length] w fun e w' => e = .returned (.int .i64 (namedE dead l)) ∧ w' = w := by
  obtain ⟨ANS, hA⟩ : ∃ A, namedE dead l = A := ⟨_, rfl⟩
  rw [hA]
  unfold namedE at hA
  cases dead with
  | true =>
    rw [if_pos rfl] at hA
    have HA := Lib.hid hA
    clear hA
    go_enter Try.func32, Try.ntmps32
    go_wp2_with fail
    go_ret
    exact ⟨by rw [← HA.out]; rfl, rfl⟩
  | false =>
    rw [if_neg (by simp)] at hA
    have HA := Lib.hid hA
    clear hA
    go_enter Try.func32, Try.ntmps32
    go_wp2_with fail
    go_loop [13] (fun i => ∃ k : Nat, k ≤ l.length ∧ i = .int .i64 k ∧ Hid ((l.take k).all okN = true)) (fun i => l.length - (RowKit.intOf i).toNat)
    case atStart => exact ⟨0, Nat.zero_le _, rfl, Lib.hid (by simp)⟩
    case round =>
      obtain ⟨k, hk, rfl, HK⟩ := hrel
      by_cases hlt : k < l.length
      · have h1 : (k : Int) < (l.length : Int) := by omega
        have hck := hc k hlt
        have hsk := hs k hlt
        have hnext : ((l.take (k + 1)).all okN) = ((l.take k).all okN && okN (l[k]'hlt)) := by
          rw [List.take_add_one, List.all_append, List.getElem?_eq_getElem hlt]
          simp
        have hall : okN (l[k]'hlt) = false → l.all okN = false := fun h => by
          rw [Bool.eq_false_iff]
          intro ha
          rw [List.all_eq_true.1 ha _ (List.getElem_mem hlt)] at h
          cases h
        clear hc hs
        generalize l[k]'hlt = s at hck hnext hall hsk
        have hnext := Lib.hid hnext
        have cI := Try.strings_IndexByte s 0
        rw [show (0 : Int).toNat.toUInt8 = 0 from rfl] at cI
        by_cases c1 : 1 ≤ s.size
        · have d1 : decide ((s.size : Int) < 1) = false := decide_eq_false (by omega)
          by_cases c2 : s.size ≤ 200
          · have d2 : decide ((200 : Int) < (s.size : Int)) = false := decide_eq_false (by omega)
            by_cases c3 : Lib.indexByte s.data.toList 0 < 0
            · have d3 : decide ((0 : Int) ≤ Lib.indexByte s.data.toList 0) = false := decide_eq_false (by omega)
              have hok : okN s = true := by simp [okN, c1, c2, c3]
              have HN : Hid ((l.take (k + 1)).all okN = true) := Lib.hid (by rw [hnext.out, HK.out, hok]; rfl)
              clear hnext HK hok
              go_wp2_with (first | (go_at_call 52; refine (cI _).mono ?_; rintro e w' ⟨rfl, rfl⟩))
              go_round
              case rel => exact ⟨k + 1, by omega, by go_num, HN⟩
              case measure => simp [RowKit.intOf]; omega
            · have d3 : (0 : Int) ≤ Lib.indexByte s.data.toList 0 := by omega
              have hok : okN s = false := by simp [okN, c3]
              have HN := Lib.hid (hall hok)
              clear hnext HK hok hall
              go_wp2_with (first | (go_at_call 52; refine (cI _).mono ?_; rintro e w' ⟨rfl, rfl⟩))
              go_ret
              exact ⟨by rw [← HA.out, HN.out]; rfl, rfl⟩
          · have d2 : (200 : Int) < (s.size : Int) := by omega
            have hok : okN s = false := by simp [okN, c2]
            have HN := Lib.hid (hall hok)
            clear hnext HK hok hall
            go_wp2_with (first | (go_at_call 52; refine (cI _).mono ?_; rintro e w' ⟨rfl, rfl⟩))
            go_ret
            exact ⟨by rw [← HA.out, HN.out]; rfl, rfl⟩
        · have d1 : (s.size : Int) < 1 := by omega
          have hok : okN s = false := by simp [okN, c1]
          have HN := Lib.hid (hall hok)
          clear hnext HK hok hall
          go_wp2_with (first | (go_at_call 52; refine (cI _).mono ?_; rintro e w' ⟨rfl, rfl⟩))
          go_ret
          exact ⟨by rw [← HA.out, HN.out]; rfl, rfl⟩
      · have h1 : ¬ (k : Int) < (l.length : Int) := by omega
        have HN : Hid (l.all okN = true) := Lib.hid (by have := HK.out; rw [List.take_of_length_le (by omega)] at this; exact this)
        clear HK
        go_wp2
        go_ret
        exact ⟨by rw [← HA.out, HN.out]; rfl, rfl⟩

def burnV (f : Int) : Int := if f = 0 then 50 else 0
def burnF (f : Int) : Int := if f = 0 then 0 else max (f - 1) (-1)

set_option maxHeartbeats 2000000 in
set_option maxRecDepth 100000 in
/-- The fuse burns by one call. -/
theorem burn_any (p : Nat) (a0 a1 a2 a3 : Value) (f : Int) (dead : Bool) (w : World) (h : w.heap[p]? = some (.cells #[a0, a1, a2, a3, .int .i64 f, .bool dead] 61 (0, 0))) (hf : -1 ≤ f) (hf2 : f < 9223372036854775808) :
    Calls Try.prog 35 #[.pointer (some ⟨p, 0, none⟩)] w fun e w' => e = .returned (.int .i64 (burnV f)) ∧ Turn w w' [p] ∧
      w'.heap[p]? = some (.cells #[a0, a1, a2, a3, .int .i64 (burnF f), .bool (dead || f == 0)] 61 (0, 0)) := by
  obtain ⟨-, -, -, -, h4, h5, hfr⟩ := fs_cells h
  have hT : ∀ o v, Turn w (w.setCell ⟨p, o, none⟩ v) [p] := fun o v => turn_set w p o v
  by_cases hz : f = 0
  · subst hz
    have hb := block_setCell (i := 5) h (.bool true)
    have HB := Lib.hid hb
    have HT := Lib.hid (hT 5 (.bool true))
    clear hb hT h
    go_enter Try.func35, Try.ntmps35
    go_wp2
    go_ret
    refine ⟨rfl, HT.out, ?_⟩
    rw [HB.out]
    simp [burnF]
  · have hz1 : (f == 0) = false := beq_eq_false_iff_ne.2 hz
    have hw1 : IntKind.i64.wrap (f - 1) = f - 1 := IntWalk.i64_in _ (by omega)
    have hb := block_setCell (i := 4) h (.int .i64 (max (f - 1) (-1)))
    have HB := Lib.hid hb
    have HT := Lib.hid (hT 4 (.int .i64 (max (f - 1) (-1))))
    clear hb hT h
    go_enter Try.func35, Try.ntmps35
    go_wp2
    go_ret
    refine ⟨by simp [burnV, hz], HT.out, ?_⟩
    rw [HB.out]
    simp [burnF, hz, hz1]

/-- What 'of' tells of a name. -/
def ofE (s : St) (nm : ByteArray) : Int := if namedE s.dead [nm] = 0 then (if look s.names nm = 0 then 61 else 0) else namedE s.dead [nm]
def ofF (s : St) (nm : ByteArray) : Nat := if namedE s.dead [nm] = 0 then look s.names nm else 0

set_option maxHeartbeats 2000000 in
set_option maxRecDepth 100000 in
theorem of_any (g : Gh) (s : St) (nm : ByteArray) (w : World) (h : Rep w g s) (hs : nm.size ≤ maxLen) :
    Calls Try.prog 34 #[.pointer (some ⟨g.p, 0, none⟩), .string nm] w fun e w' => e = .returned (.tuple #[ptrV (ofF s nm), .int .i64 (ofE s nm)]) ∧ w' = w.alloc (.cells #[.string nm] 9) := by
  obtain ⟨-, h1, -, -, -, h5, hfr⟩ := fs_cells h.cells
  have hlt := h.lt g.p (mem_foot.2 (.inl rfl))
  have cN := named_any g.p w.heap.size s.dead [nm] (w.alloc (.cells #[.string nm] 9)) (by rw [World.cell?_of_block (Below.heap_alloc _ _ _ hlt)]; exact h5) (by simp) (by simp)
    (fun j hj => by have : j = 0 := by simpa using hj
                    subst this; simp [go_sem]) (fun j hj => by have : j = 0 := by simpa using hj
                                                               subst this; exact hs)
  obtain ⟨hL, -⟩ := look_run (owns_frame (w' := w.alloc (.cells #[.string nm] 9)) h.nm (Below.heap_alloc _ _ _ h.nm.lt)) hs
  unfold ofE ofF
  simp only [List.length_singleton] at cN
  generalize namedE s.dead [nm] = E at cN ⊢
  generalize look s.names nm = K at hL ⊢
  have h1' : (w.alloc (.cells #[.string nm] 9)).cell? ⟨g.p, 1, none⟩ = some (.map (some g.m)) := by rw [World.cell?_of_block (Below.heap_alloc _ _ _ hlt)]; exact h1
  by_cases hE : E = 0
  · subst hE
    simp only [if_pos]
    cases K with
    | zero =>
      rw [show ptrV 0 = .pointer none from rfl] at hL
      go_enter Try.func34, Try.ntmps34
      go_wp2_with (first | (go_at_call 32; refine cN.mono ?_; rintro e w' ⟨rfl, rfl⟩))
      go_ret2
      exact ⟨rfl, rfl⟩
    | succ K =>
      rw [show ptrV (K + 1) = .pointer (some ⟨K, 0, none⟩) from rfl] at hL
      go_enter Try.func34, Try.ntmps34
      go_wp2_with (first | (go_at_call 32; refine cN.mono ?_; rintro e w' ⟨rfl, rfl⟩))
      go_ret2
      exact ⟨rfl, rfl⟩
  · simp only [if_neg hE]
    have hE1 : (E == 0) = false := beq_eq_false_iff_ne.2 hE
    go_enter Try.func34, Try.ntmps34
    go_wp2_with (first | (go_at_call 32; refine cN.mono ?_; rintro e w' ⟨rfl, rfl⟩))
    go_ret2
    exact ⟨rfl, rfl⟩
end Go.Proofs.Ytijdgmbpkfmciaa.Fs
