/- The file system: a map from pointers to pointers (Copy's twins): its laws. -/
import Derived.Test.YtijdgmbpkfmciaaZa
import Derived.LaidEql
namespace Go.Proofs.Ytijdgmbpkfmciaa.Fs
open Go.RowKit Go.Maps Go.ChangeMaps Go.WideMaps Go.Joins

def pV (x : Nat) : Value := .pointer (some ⟨x, 0, none⟩)
theorem size66 (w : World) : (sizeOf 66).run Try.prog w = .ok 2 w := by kernel_rfl
/-- A block of a file. -/
def FileB (w : World) (x : Nat) : Prop := ∃ ca, w.heap[x]? = some (.cells ca 66 (0, 0))
theorem equal_same (w : World) (x : Nat) : (Op.equal 63 (pV x) (pV x)).run Try.prog w = .ok true w := by
  have key : ∀ d, (Op.equalIn (d + 1) 63 (pV x) (pV x)).run Try.prog w = .ok true w := fun d => by
    simp [Op.equalIn, pV, run_underlying Try.underlying63, run_sameAddr_same]
  exact key 9999
theorem equal_other {w : World} {x y : Nat} (h : x ≠ y) (hx : FileB w x) (hy : FileB w y) : (Op.equal 63 (pV x) (pV y)).run Try.prog w = .ok false w := by
  obtain ⟨ca, ha⟩ := hx
  obtain ⟨cb, hb⟩ := hy
  have hne : (⟨x, 0, none⟩ : Addr) ≠ ⟨y, 0, none⟩ := fun e => h (by injection e)
  have key : ∀ d, (Op.equalIn (d + 1) 63 (pV x) (pV y)).run Try.prog w = .ok false w := fun d => by
    simp [Op.equalIn, pV, run_underlying Try.underlying63, run_sameAddr_other w hne ha hb]
  exact key 9999
/-- The entries say this list of pairs. -/
def Says (es : List MapEntry) (D : List (Nat × Nat)) : Prop := es.map (fun e => (e.key, e.val)) = D.map (fun p => (pV p.1, pV p.2))
theorem find_says {w : World} {x : Nat} (hx : FileB w x) : ∀ (es : List MapEntry) (D : List (Nat × Nat)) (i : Nat), Says es D → (∀ p ∈ D, FileB w p.1) →
    (Instr.findAsking 63 (pV x) es i).run Try.prog w = .ok (match D.lookup x with | some y => some (i + (D.takeWhile fun p => p.1 != x).length, pV y) | none => none) w
  | [], D, i, h, _ => by
    have : D = [] := by simpa [Says] using h.symm
    subst this
    simp [Instr.findAsking]
  | e :: es, D, i, h, hD => by
    cases D with
    | nil => simp [Says] at h
    | cons p D =>
      obtain ⟨pa, pb⟩ := p
      simp only [Says, List.map_cons, List.cons.injEq, Prod.mk.injEq] at h
      obtain ⟨⟨h1, h2⟩, h3⟩ := h
      have ih := find_says hx es D (i + 1) h3 (fun q hq => hD q (List.mem_cons_of_mem _ hq))
      by_cases hxp : x = pa
      · simp [Instr.findAsking, h1, h2, ← hxp, equal_same]
      · have hb : (x == pa) = false := by simpa using hxp
        have hb2 : (pa != x) = true := by simpa using (Ne.symm hxp)
        have heq := equal_other hxp hx (show FileB w pa from hD (pa, pb) List.mem_cons_self)
        simp only [Instr.findAsking, h1, Sem.run_bind, heq, Result.andThen_ok, ih, List.lookup_cons, hb, List.takeWhile_cons, hb2, if_true, Bool.false_eq_true, if_false]
        cases hl : D.lookup x with
        | none => simp
        | some y => simp; omega
/-- The map of twins, whole. -/
def PMap (w : World) (t : Nat) (D : List (Nat × Nat)) : Prop := ∃ es c, w.heap[t]? = some (.map es c) ∧ Says es.toList D
theorem PMap.frame {w w' : World} {t : Nat} {D : List (Nat × Nat)} (h : PMap w t D) (hb : w'.heap[t]? = w.heap[t]?) : PMap w' t D := by
  obtain ⟨es, c, h1, h2⟩ := h
  exact ⟨es, c, hb.trans h1, h2⟩
theorem check_ptr (w : World) (b : Bool) (x : Nat) : (Instr.checkKey b 10000 63 (pV x)).run Try.prog w = .ok () w := by
  have key : ∀ d, (Instr.checkKey b (d + 1) 63 (pV x)).run Try.prog w = .ok () w := fun d => by
    simp [Instr.checkKey, pV, run_underlying Try.underlying63]
  exact key 9999
theorem findKey_ptr {w : World} (x : Nat) (es : List MapEntry) (D : List (Nat × Nat)) (h : Says es D) : (Instr.findKey 63 (pV x) es).run Try.prog w = (Instr.findAsking 63 (pV x) es).run Try.prog w := by
  cases es with
  | nil => simp [Instr.findKey, run_underlying Try.underlying63, Instr.findNow, Instr.findAsking]
  | cons e es =>
    simp [Instr.findKey, run_underlying Try.underlying63, Instr.findNow, Instr.sameNow]
theorem zero63 (w : World) : (zeroValue 63).run Try.prog w = .ok (.pointer none) w := by kernel_rfl
theorem lookup_ptr {w : World} {t x : Nat} {D : List (Nat × Nat)} (h : PMap w t D) (hx : FileB w x) (hD : ∀ p ∈ D, FileB w p.1) :
    (Instr.lookup 83 (.map (some t)) (pV x) false).run Try.prog w = .ok (match D.lookup x with | some y => pV y | none => .pointer none) w := by
  obtain ⟨es, c, h1, h2⟩ := h
  have hf := find_says hx es.toList D 0 h2 hD
  rw [← findKey_ptr x es.toList D h2] at hf
  cases hl : D.lookup x with
  | none =>
    rw [hl] at hf
    simp [Instr.lookup, run_underlying Try.underlying83, MapKept.run_getObj_map h1, check_ptr, hf, Result.andThen]
  | some y =>
    rw [hl] at hf
    simp [Instr.lookup, run_underlying Try.underlying83, MapKept.run_getObj_map h1, check_ptr, hf, Result.andThen]
theorem update_ptr {w : World} {t x y : Nat} {D : List (Nat × Nat)} (h : PMap w t D) (hx : FileB w x) (hD : ∀ p ∈ D, FileB w p.1) (hl : D.lookup x = none) :
    ∃ w', (Instr.mapUpdate 83 (.map (some t)) (pV x) (pV y)).run Try.prog w = .ok () w' ∧ PMap w' t (D ++ [(x, y)]) ∧ Turn w w' [t] := by
  obtain ⟨es, c, h1, h2⟩ := h
  have hf := find_says hx es.toList D 0 h2 hD
  rw [← findKey_ptr x es.toList D h2, hl] at hf
  have hs := MapKept.heap_set (o' := .map (es.push ⟨pV x, pV y, c⟩) (c + 1)) h1
  refine ⟨{ w with heap := w.heap.setIfInBounds t (.map (es.push ⟨pV x, pV y, c⟩) (c + 1)) }, ?_, ⟨_, _, hs.1, ?_⟩, ⟨rfl, rfl, rfl, by simp, fun k _ hF => hs.2 k (by simpa using hF)⟩⟩
  · simp [Instr.mapUpdate, run_underlying Try.underlying83, MapKept.run_getObj_map h1, check_ptr, hf, MapKept.run_setObj_map _ h1, Result.andThen]
  · unfold Says at h2 ⊢
    rw [Array.toList_push, List.map_append, List.map_append, h2]
    rfl
theorem pmap_new (w : World) : PMap (w.alloc (.map #[] 0)) w.heap.size [] := ⟨#[], 0, (MapKept.heap_alloc w _).1, rfl⟩
end Go.Proofs.Ytijdgmbpkfmciaa.Fs
