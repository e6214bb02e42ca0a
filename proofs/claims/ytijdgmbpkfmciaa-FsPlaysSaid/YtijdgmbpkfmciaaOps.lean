/- What a row's start gives of a slice of calls ([]Op): each call's six cells, its bytes and its numbers. -/
import Derived.Test.YtijdgmbpkfmciaaGlue
import Derived.Deep.Slices
import Derived.Deep.Fields
import Derived.Deep.MidRow
import Derived.ChangeSame
namespace Go.Proofs.Ytijdgmbpkfmciaa.Fs
open Go.ChangeShapes Go.WideShapes Go.ChangeAt Go.RowKit Go.Deep

structure OpV where
  kind : Int
  n : Int
  a : ByteArray
  b : ByteArray
  dv : Value
  data : List UInt8
  kv : Value
  keep : List Int
def opCells (o : OpV) : List Value := [.int .i64 o.kind, .int .i64 o.n, .string o.a, .string o.b, o.dv, o.kv]
structure OpAt (w : World) (o : OpV) : Prop where
  data : News w o.dv (o.data.map byteV)
  dlen : o.data.length ≤ 9223372036854775807
  keep : News w o.kv (o.keep.map intV)
  klen : o.keep.length ≤ 9223372036854775807
  asz : o.a.size ≤ maxLen
  bsz : o.b.size ≤ maxLen
  kin : -9223372036854775808 ≤ o.kind ∧ o.kind < 9223372036854775808
  nin : -9223372036854775808 ≤ o.n ∧ o.n < 9223372036854775808
def OpsAt (w : World) (v : Value) (l : List OpV) : Prop :=
  (l = [] ∧ ∃ a c, v = .slice a 0 c) ∨ ∃ b off c, v = .slice (some ⟨b, off, none⟩) l.length c ∧ l.length ≤ c ∧ b < w.heap.size ∧ ∀ i (hi : i < l.length), w.rangeAt b (off + i * 6) (opCells (l[i]'hi)) ∧ OpAt w (l[i]'hi)
theorem OpAt.below {w w' : World} {o : OpV} (h : OpAt w o) (hb : Below w.heap.size w w') : OpAt w' o :=
  ⟨h.data.frame fun hx b hm => hb.block b (h.data.lt hx b hm), h.dlen, h.keep.frame fun hx b hm => hb.block b (h.keep.lt hx b hm), h.klen, h.asz, h.bsz, h.kin, h.nin⟩
theorem OpsAt.below {w w' : World} {v : Value} {l : List OpV} (h : OpsAt w v l) (hb : Below w.heap.size w w') : OpsAt w' v l := by
  rcases h with h | ⟨b, off, c, h1, h2, h3, h4⟩
  · exact .inl h
  · refine .inr ⟨b, off, c, h1, h2, Nat.lt_of_lt_of_le h3 hb.size, fun i hi => ⟨fun j u hj => ?_, (h4 i hi).2.below hb⟩⟩
    exact (hb.cell (p := ⟨b, off + i * 6 + j, none⟩) h3).trans ((h4 i hi).1 j u hj)

section
variable {H : Type} {enc : TypeId × Value → H} {P : Program} {w : World} {base : Nat} {spare : Nat → Bool} {held : Bool}
theorem open_slice_fields {t e : TypeId} {fs : Array Field} {fuel : Nat} {cs : List Value} {x : DataW H × List MemPlace} (ht : P.underlying t = some (.slice e)) (he : P.underlying e = some (.struct fs))
    (hone : oneCellFields P fs = true) (hC : P.cellsOf e = fs.size) (h : DataW.trod enc P w base spare held fuel t cs = some x) :
    (cs = [.slice none 0 0] ∧ x = (.nil, [])) ∨
    ∃ (a : Addr) (len cap m : Nat) (D : Nat → DataW H) (Pl : Nat → List MemPlace), cs = [.slice (some a) len cap] ∧ base ≤ a.block ∧ len ≤ cap ∧ cap ≤ maxLen ∧ m = (if spare a.block then cap else len) ∧
      x = (.slice ((List.range len).map D) ((List.range (m - len)).map fun j => D (len + j)), MemPlace.row a (m * fs.size) ++ (List.range m).flatMap Pl) ∧
      ∀ i, i < m → ∃ (ys : List (DataW H × List MemPlace)) (n : Nat), D i = .agg (ys.map (·.1)) ∧ Pl i = ys.flatMap (·.2) ∧ ys.length = fs.size ∧
        ∀ (j : Nat) (f : Field), fs[j]? = some f → ∃ (v : Value) (y : DataW H × List MemPlace), w.cell? (a.add (i * fs.size + j)) = some v ∧ ys[j]? = some y ∧ DataW.trod enc P w base spare held n f.type [v] = some y := by
  rcases open_slice ht h with h0 | ⟨a, len, cap, m, n, D, Pl, hcs, hb, hl, hm, hmm, hx, hi⟩
  · exact .inl h0
  · refine .inr ⟨a, len, cap, m, D, Pl, hcs, hb, hl, hm, hmm, by rw [hC] at hx; exact hx, fun i him => ?_⟩
    obtain ⟨cs', hc, ht'⟩ := hi i him
    rw [hC] at hc
    obtain ⟨ys, n', hn', hy, hlen, hyl, hf⟩ := DataW.trod_struct he ht'
    obtain ⟨_, hcl, hat⟩ := World.cells?_some hc
    simp only [Prod.mk.injEq] at hy
    refine ⟨ys, n', hy.1, hy.2, hyl, fun j f hj => ?_⟩
    obtain ⟨ho, hk⟩ := hone_of hone j f hj
    have hjl : j < fs.size := (Array.getElem?_eq_some_iff.1 hj).1
    have hcell := hat j hjl
    have hv : cs'[j]? = some (cs'[j]'(by omega)) := List.getElem?_eq_getElem (by omega)
    have h1 := hf j f hj
    rw [ho, hk] at h1
    have hone' : (cs'.drop j).take 1 = [cs'[j]'(by omega)] := by
      rw [List.drop_eq_getElem_cons (by omega)]
      rfl
    rw [hone'] at h1
    have hys : ys[j]? = some (ys[j]'(by omega)) := List.getElem?_eq_getElem (by omega)
    refine ⟨_, _, ?_, hys, h1.trans hys⟩
    rw [← Go.Deep.add_add, hcell, hv]
end

section
variable {H : Type} {enc : TypeId × Value → H} {W : World} {base b0 : Nat} {held : Bool} {v : Value} {d : DataW H} {p : List MemPlace}
set_option maxRecDepth 100000 in
theorem slice_bytes {n : Nat} {y : DataW H × List MemPlace} (h : DataW.trod enc Try.prog W b0 (fun _ => true) held n 27 [v] = some y) : ∃ zs : List UInt8, News W v (zs.map byteV) ∧ zs.length ≤ 9223372036854775807 := by
  rcases open_ints Try.underlying27 Try.underlying5 (by kernel_rfl) h with ⟨hcs, _⟩ | ⟨x, l, c, zs, hcs, _, hl, hm, hz, _, hcell, hwz⟩
  · obtain rfl : v = .slice none 0 0 := by simpa using hcs
    exact ⟨[], .inl ⟨rfl, rfl⟩, Nat.zero_le _⟩
  · obtain rfl : v = .slice (some x) l c := by simpa using hcs
    simp at hz
    refine ⟨(zs.take l).map fun n => UInt8.ofNat n.toNat, ?_, ?_⟩
    · rw [← bytes_ints _ (fun n hn => hwz n (List.mem_of_mem_take hn))]
      exact news_of (by omega) hl hcell
    · unfold maxLen at hm
      simp; omega
set_option maxRecDepth 100000 in
theorem slice_ints {n : Nat} {y : DataW H × List MemPlace} (h : DataW.trod enc Try.prog W b0 (fun _ => true) held n 22 [v] = some y) : ∃ zs : List Int, News W v (zs.map intV) ∧ zs.length ≤ 9223372036854775807 := by
  rcases open_ints Try.underlying22 Try.underlying3 (by kernel_rfl) h with ⟨hcs, _⟩ | ⟨x, l, c, zs, hcs, _, hl, hm, hz, _, hcell, hwz⟩
  · obtain rfl : v = .slice none 0 0 := by simpa using hcs
    exact ⟨[], .inl ⟨rfl, rfl⟩, Nat.zero_le _⟩
  · obtain rfl : v = .slice (some x) l c := by simpa using hcs
    simp at hz
    refine ⟨zs.take l, news_of (by omega) hl hcell, ?_⟩
    unfold maxLen at hm
    simp; omega
theorem list_of {α : Type} {P : Nat → α → Prop} : ∀ n, (∀ i, i < n → ∃ x, P i x) → ∃ l : List α, l.length = n ∧ ∀ i (hi : i < l.length), P i (l[i]'hi)
  | 0, _ => ⟨[], rfl, fun i hi => absurd hi (by simp)⟩
  | n + 1, h => by
    obtain ⟨l, hl, hp⟩ := list_of n fun i hi => h i (by omega)
    obtain ⟨x, hx⟩ := h n (by omega)
    refine ⟨l ++ [x], by simp [hl], fun i hi => ?_⟩
    by_cases e : i < l.length
    · rw [List.getElem_append_left e]; exact hp i e
    · have : i = n := by simp at hi; omega
      subst this
      rw [List.getElem_append_right (by omega)]
      simpa [hl] using hx
theorem fields39 : ∃ f0 f1 f2 f3 f4 f5 : Field, Try.prog.underlying 39 = some (.struct #[f0, f1, f2, f3, f4, f5]) ∧ f0.type = 3 ∧ f1.type = 3 ∧ f2.type = 9 ∧ f3.type = 9 ∧ f4.type = 27 ∧ f5.type = 22 ∧ oneCellFields Try.prog #[f0, f1, f2, f3, f4, f5] = true :=
  ⟨_, _, _, _, _, _, Try.underlying39, rfl, rfl, rfl, rfl, rfl, rfl, by kernel_rfl⟩
set_option maxRecDepth 100000 in
theorem ops_news (_hv : Value.okWide Try.prog W .any base 37 v) (h : DataW.Trod enc Try.prog W b0 (fun _ => true) held 37 v d p) : ∃ l : List OpV, OpsAt W v l ∧ l.length ≤ 9223372036854775807 := by
  obtain ⟨a0, len0, cap0, rfl⟩ := okWide_slice Try.underlying37 _hv
  obtain ⟨fuel, hf⟩ := h
  obtain ⟨f0, f1, f2, f3, f4, f5, hu, t0, t1, t2, t3, t4, t5, hone⟩ := fields39
  rcases open_slice_fields Try.underlying37 hu hone (by kernel_rfl) hf with ⟨hcs, _⟩ | ⟨a, len, cap, m, D, Pl, hcs, _, hl, hm, hmm, _, hi⟩
  · simp [Value.cells] at hcs
    obtain ⟨rfl, rfl, rfl⟩ := hcs
    exact ⟨[], .inl ⟨rfl, _, _, rfl⟩, Nat.zero_le _⟩
  · simp [Value.cells] at hcs
    obtain ⟨rfl, rfl, rfl⟩ := hcs
    have hlm : len0 ≤ m := by rw [hmm]; simp; omega
    unfold maxLen at hm
    by_cases h0 : len0 = 0
    · subst h0
      exact ⟨[], .inl ⟨rfl, _, _, rfl⟩, Nat.zero_le _⟩
    · obtain ⟨b, off, spot⟩ := a
      obtain ⟨l, hll, hlp⟩ := list_of (P := fun i (o : OpV) => (∀ j u, (opCells o)[j]? = some u → W.cell? ((⟨b, off, spot⟩ : Addr).add (i * 6 + j)) = some u) ∧ OpAt W o) len0 fun i hil => by
        obtain ⟨ys, n, _, _, _, hfld⟩ := hi i (by omega)
        obtain ⟨v0, y0, c0, _, e0⟩ := hfld 0 f0 rfl
        obtain ⟨v1, y1, c1, _, e1⟩ := hfld 1 f1 rfl
        obtain ⟨v2, y2, c2, _, e2⟩ := hfld 2 f2 rfl
        obtain ⟨v3, y3, c3, _, e3⟩ := hfld 3 f3 rfl
        obtain ⟨v4, y4, c4, _, e4⟩ := hfld 4 f4 rfl
        obtain ⟨v5, y5, c5, _, e5⟩ := hfld 5 f5 rfl
        rw [t0] at e0; rw [t1] at e1; rw [t2] at e2; rw [t3] at e3; rw [t4] at e4; rw [t5] at e5
        obtain ⟨k0, g0, _, w0⟩ := DataW.trod_int Try.underlying3 e0
        obtain ⟨k1, g1, _, w1⟩ := DataW.trod_int Try.underlying3 e1
        obtain ⟨k2, g2, _, w2⟩ := DataW.trod_string Try.underlying9 e2
        obtain ⟨k3, g3, _, w3⟩ := DataW.trod_string Try.underlying9 e3
        obtain ⟨k4, g4, w4⟩ := slice_bytes e4
        obtain ⟨k5, g5, w5⟩ := slice_ints e5
        obtain rfl : v0 = .int .i64 k0 := by simpa using g0
        obtain rfl : v1 = .int .i64 k1 := by simpa using g1
        obtain rfl : v2 = .string k2 := by simpa using g2
        obtain rfl : v3 = .string k3 := by simpa using g3
        refine ⟨⟨k0, k1, k2, k3, v4, k4, v5, k5⟩, fun j u hj => ?_, g4, w4, g5, w5, w2, w3, int_wf w0, int_wf w1⟩
        match j, hj with
        | 0, hj => simp [opCells] at hj; subst hj; exact c0
        | 1, hj => simp [opCells] at hj; subst hj; exact c1
        | 2, hj => simp [opCells] at hj; subst hj; exact c2
        | 3, hj => simp [opCells] at hj; subst hj; exact c3
        | 4, hj => simp [opCells] at hj; subst hj; exact c4
        | 5, hj => simp [opCells] at hj; subst hj; exact c5
        | j + 6, hj => simp [opCells] at hj
      have hc0 := (hlp 0 (by omega)).1 0 _ rfl
      have hspot : spot = none := by simpa [Addr.add] using World.cell?_spot hc0
      subst hspot
      have hblt := World.block_lt_of_cell? W _ hc0
      refine ⟨l, .inr ⟨b, off, cap0, by rw [hll], by omega, by simpa [Addr.add] using hblt, fun i hil => ⟨fun j u hj => ?_, (hlp i hil).2⟩⟩, by omega⟩
      have := (hlp i hil).1 j u hj
      rw [Go.Addr.add_mid] at this
      rw [Nat.add_assoc]
      exact this
end
end Go.Proofs.Ytijdgmbpkfmciaa.Fs
