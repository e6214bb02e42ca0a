/- Deflate: what Matches keeps: the map of heads, the row of those before; 'enter'. -/
import Derived.Test.YtiadnngfccbdmaaA
import Derived.Maps.Own
import Derived.Maps.OwnOps
import Derived.Maps.OwnSet
import Derived.Maps.Views
namespace Go.Proofs.Ytiadnngfccbdmaa.Df
open Go.RowKit Go.Joins Go.Maps

abbrev Dm := DataW Unit
theorem law : Keyed Try.prog 37 := int_keyed Try.underlying37
theorem zeroE (w : World) : (zeroValue 3).run Try.prog w = .ok (.int .i64 0) w := by kernel_rfl
noncomputable abbrev R3 : Value → Option (Dm × List MemPlace) := plainElem Try.prog 3
def intV (i : Int) : Value := .int .i64 i

/-- Nothing but these blocks has turned; there may be new ones. -/
structure Turn (w w' : World) (F : List Nat) : Prop where
  os : w'.os = w.os
  tape : w'.tape = w.tape
  output : w'.output = w.output
  size : w.heap.size ≤ w'.heap.size
  block : ∀ k, k < w.heap.size → k ∉ F → w'.heap[k]? = w.heap[k]?
theorem Turn.refl (w : World) (F : List Nat) : Turn w w F := ⟨rfl, rfl, rfl, Nat.le_refl _, fun _ _ _ => rfl⟩
theorem Turn.trans {w w' w'' : World} {F : List Nat} (h : Turn w w' F) (h' : Turn w' w'' F) : Turn w w'' F :=
  ⟨h'.os.trans h.os, h'.tape.trans h.tape, h'.output.trans h.output, Nat.le_trans h.size h'.size, fun k hk hF => by
    rw [h'.block k (Nat.lt_of_lt_of_le hk h.size) hF, h.block k hk hF]⟩
theorem Turn.mono {w w' : World} {F F' : List Nat} (h : Turn w w' F) (hs : ∀ b ∈ F, b ∈ F') : Turn w w' F' :=
  ⟨h.os, h.tape, h.output, h.size, fun k hk hF => h.block k hk fun hm => hF (hs k hm)⟩
theorem Turn.below {w w' : World} {F : List Nat} (h : Turn w w' F) {B : Nat} (hB : B ≤ w.heap.size) (hF : ∀ b ∈ F, B ≤ b) : Below B w w' :=
  ⟨h.os, h.tape, h.output, h.size, fun k hk => h.block k (by omega) fun hm => by have := hF k hm; omega⟩
theorem Turn.of_below {w w' : World} (h : Below w.heap.size w w') (F : List Nat) : Turn w w' F := ⟨h.os, h.tape, h.output, h.size, fun k hk _ => h.block k hk⟩
theorem Turn.of_grown {w w' : World} {r : Option Nat} (h : w.grownBy w' r) : Turn w w' r.toList :=
  ⟨h.os, h.tape, h.output, h.size, fun k hk hF => h.block k hk (by intro e; apply hF; rw [← e]; simp)⟩
theorem Turn.drewN (w : World) (q : Nat) (F : List Nat) : Turn w (w.drewN q) F := ⟨rfl, rfl, rfl, Nat.le_refl _, fun _ _ _ => rfl⟩
theorem turn_set (w : World) (p o : Nat) (v : Value) : Turn w (w.setCell ⟨p, o, none⟩ v) [p] := by
  refine ⟨rfl, rfl, rfl, by simp, fun k _ hF => ?_⟩
  have hne : k ≠ p := by simpa using hF
  unfold World.setCell
  simp only [Array.getElem?_modify]
  rw [if_neg (Ne.symm hne)]
theorem Turn.cell {w w' : World} {F : List Nat} (h : Turn w w' F) {b o : Nat} {v : Value} (hc : w.cell? ⟨b, o, none⟩ = some v) (hF : b ∉ F) : w'.cell? ⟨b, o, none⟩ = some v :=
  (World.cell?_of_block (a := ⟨b, o, none⟩) (h.block b (World.block_lt_of_cell? w _ hc) hF)).trans hc

/-- Where it lies: the three boxes, the row of those before, the map, the bytes. -/
structure Wh where
  bb : Nat
  pb : Nat
  hb : Nat
  pr : Nat
  mb : Nat
  k : Nat
  o : Nat
  c : Nat
structure Mt (w : World) (g : Wh) (bs : List UInt8) (D : Dm) (pv : List Int) : Prop where
  b : w.cell? ⟨g.bb, 0, none⟩ = some (.slice (some ⟨g.k, g.o, none⟩) bs.length g.c)
  cap : bs.length ≤ g.c
  arr : Arr w g.k g.o bs
  p : w.cell? ⟨g.pb, 0, none⟩ = some (.slice (some ⟨g.pr, 0, none⟩) bs.length bs.length)
  row : w.heap[g.pr]? = some (.cells (pv.map intV).toArray 3 (0, 0))
  len : pv.length = bs.length
  h : w.cell? ⟨g.hb, 0, none⟩ = some (.map (some g.mb))
  own : w.ownsMap Try.prog 37 R3 g.mb (Maps.size D) D
  a1 : g.bb ≠ g.pr ∧ g.pb ≠ g.pr ∧ g.hb ≠ g.pr ∧ g.k ≠ g.pr ∧ g.mb ≠ g.pr
  a2 : g.bb ≠ g.mb ∧ g.pb ≠ g.mb ∧ g.hb ≠ g.mb ∧ g.k ≠ g.mb
theorem owns_tight {w : World} {b n : Nat} {D : Dm} (h : w.ownsMap Try.prog 37 R3 b n D) : w.ownsMap Try.prog 37 R3 b (Maps.size D) D := by
  obtain ⟨es, c, h1, h2, _, h4⟩ := h
  refine ⟨es, c, h1, h2, ?_, h4⟩
  rw [h4, Maps.size_eq, length_sorted]
  simp
theorem owns_frame {w w' : World} {b n : Nat} {D : Dm} (h : w.ownsMap Try.prog 37 R3 b n D) (hb : w'.heap[b]? = w.heap[b]?) : w'.ownsMap Try.prog 37 R3 b n D := by
  obtain ⟨es, c, h1, h2⟩ := h
  exact ⟨es, c, hb.trans h1, h2⟩
theorem Mt.turn {w w' : World} {g : Wh} {bs : List UInt8} {D D' : Dm} {pv pv' : List Int} (h : Mt w g bs D pv) (ht : Turn w w' [g.pr, g.mb]) (hr : w'.heap[g.pr]? = some (.cells (pv'.map intV).toArray 3 (0, 0))) (hl : pv'.length = bs.length) (ho : w'.ownsMap Try.prog 37 R3 g.mb (Maps.size D') D') : Mt w' g bs D' pv' := by
  obtain ⟨x1, x2, x3, x4, x5⟩ := h.a1
  obtain ⟨y1, y2, y3, y4⟩ := h.a2
  exact ⟨ht.cell h.b (by simp [x1, y1]), h.cap, fun j hj => ht.cell (h.arr j hj) (by simp [x4, y4]), ht.cell h.p (by simp [x2, y2]), hr, hl, ht.cell h.h (by simp [x3, y3]), ho, h.a1, h.a2⟩
theorem Mt.same {w w' : World} {g : Wh} {bs : List UInt8} {D : Dm} {pv : List Int} (h : Mt w g bs D pv) (ht : Turn w w' []) : Mt w' g bs D pv :=
  h.turn (ht.mono (fun b hb => by cases hb)) ((ht.block g.pr (Array.getElem?_eq_some_iff.1 h.row).1 (by simp)).trans h.row) h.len (owns_frame h.own (ht.block g.mb h.own.lt (by simp)))

def HeadOk (D : Dm) (i n : Nat) : Prop := ∀ x : Int, Maps.has D (.int .u32 x) = true → ∃ c : Nat, D.atKey (.int .u32 x) (.lit (.int .i64 0)) = .lit (.int .i64 c) ∧ c < i ∧ c + 3 ≤ n
def PrevOk (pv : List Int) (i : Nat) : Prop := ∀ (q : Nat) (hq : q < pv.length), q < i → q + 3 ≤ pv.length → -1 ≤ pv[q]'hq ∧ pv[q]'hq < q
theorem head_empty (i n : Nat) : HeadOk (.map []) i n := fun _ h => by cases h
theorem head_put {D : Dm} {i n : Nat} (hD : IsMap D) (h : HeadOk D i n) (x : Int) (hi : i + 3 ≤ n) : HeadOk (D.put (.int .u32 x) (.lit (.int .i64 i))) (i + 1) n := by
  intro y hy
  have hk : WideAt.IsKeyLit (.int .u32 x) := by first | exact Or.inl ⟨_, _, rfl⟩ | exact Or.inr ⟨_, rfl⟩ | (unfold WideAt.IsKeyLit; simp)
  by_cases e : y = x
  · subst e
    exact ⟨i, atKey_put_same hD hk _ _, by omega, hi⟩
  · have hne : (Lit.int .u32 y) ≠ .int .u32 x := fun h => e (by injection h)
    rw [has_put_other hne] at hy
    obtain ⟨c, h1, h2, h3⟩ := h y hy
    exact ⟨c, (atKey_put_other hne _ _).trans h1, by omega, h3⟩
theorem head_next {D : Dm} {i n : Nat} (h : HeadOk D i n) : HeadOk D (i + 1) n := fun y hy => by
  obtain ⟨c, h1, h2, h3⟩ := h y hy
  exact ⟨c, h1, by omega, h3⟩
theorem prev_set {pv : List Int} {i : Nat} (h : PrevOk pv i) (v : Int) (hv : -1 ≤ v ∧ v < i) : PrevOk (pv.set i v) (i + 1) := by
  intro q hq hqi hq3
  rw [List.getElem_set]
  split
  · rename_i e; rw [← e]; exact hv
  · exact h q (by simpa using hq) (by omega) (by simpa using hq3)
theorem prev_next {pv : List Int} {i : Nat} (h : PrevOk pv i) (hi : ¬ i + 3 ≤ pv.length) : PrevOk pv (i + 1) := by
  intro q hq hqi hq3
  exact h q hq (by omega) hq3
theorem row_set (pv : List Int) (i : Nat) (v : Int) : ((pv.map intV).toArray).setIfInBounds i (.int .i64 v) = ((pv.set i v).map intV).toArray := by
  rw [List.map_set, ← List.setIfInBounds_toArray]
  rfl
end Go.Proofs.Ytiadnngfccbdmaa.Df
