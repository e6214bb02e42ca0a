/- The file system: the names' map turns, or is another one. -/
import Derived.Test.YtijdgmbpkfmciaaQ
namespace Go.Proofs.Ytijdgmbpkfmciaa.Fs
open Go.RowKit Go.Maps Go.ChangeMaps Go.WideMaps Go.Joins Go.Sort

/-- The names' own map turns in its place. -/
theorem rep_names {w w' : World} {g : Gh} {s : St} {D : Dm} (h : Rep w g s) (ht : Turn w w' [g.m]) (hn : w'.ownsMap Try.prog 9 ptrR g.m (Maps.size D) D) : Rep w' g { s with names := D } := by
  have hd : (head g).Nodup := (List.nodup_append.1 h.apart).1
  have hd0 := hd
  unfold head at hd
  simp only [List.nodup_cons, List.mem_cons, not_or] at hd
  have hne : ∀ b ∈ foot g, b ≠ g.m → w'.heap[b]? = w.heap[b]? := fun b hb hn => ht.block b (h.lt b hb) (by simpa using hn)
  have hq : ∀ b ∈ [g.m], b ∈ head g := fun b hb => by
    have e : b = g.m := by simpa using hb
    rw [e]; simp [head]
  refine (Rep.newhead (g' := g) (s' := { s with names := D }) h ht (fun b hb => .inl (hq b hb)) rfl rfl rfl ?_ hn ?_ ?_ hd0 (fun b hb => .inl hb)
    (fun b hb => Nat.lt_of_lt_of_le (h.lt b (List.mem_append.2 (.inl hb))) ht.size)).1
  · exact (hne g.p (mem_foot.2 (.inl rfl)) hd.1.1).trans h.cells
  · exact owns_frame h.ls (hne g.l (mem_foot.2 (.inr (.inr (.inl rfl)))) (fun e => hd.2.1.1 e.symm))
  · exact ownsRow_frame h.ch fun b hb => hne b (mem_foot.2 (.inr (.inr (.inr (.inl hb))))) (fun e => hd.2.1.2 (e ▸ hb))

/-- Another map is the names'. -/
theorem left_names {w w1 : World} {g : Gh} {s : St} {D : Dm} (h : Rep w g s) (hn : w1.ownsMap Try.prog 9 ptrR w.heap.size (Maps.size D) D) (hb : Below w.heap.size w w1) :
    Rep (w1.setCell ⟨g.p, 1, none⟩ (.map (some w.heap.size))) { g with m := w.heap.size } { s with names := D } ∧ ∀ b ∈ foot { g with m := w.heap.size }, b ∈ foot g ∨ w.heap.size ≤ b := by
  have hd := (List.nodup_append.1 h.apart).1
  unfold head at hd
  simp only [List.nodup_cons, List.mem_cons, not_or] at hd
  obtain ⟨⟨d1, d2, d3⟩, ⟨d4, d5⟩, d6, d7⟩ := hd
  have lp := h.lt g.p (mem_foot.2 (.inl rfl))
  have ll := h.lt g.l (mem_foot.2 (.inr (.inr (.inl rfl))))
  have lc : ∀ b ∈ blkOf g.cv, b < w.heap.size := fun b hb => h.lt b (mem_foot.2 (.inr (.inr (.inr (.inl hb)))))
  have e1 := World.ownsMap.lt hn
  have ht2 : Turn w (w1.setCell ⟨g.p, 1, none⟩ (.map (some w.heap.size))) [g.p] := (Turn.of_below hb [g.p]).trans (turn_set w1 g.p 1 _) (fun b hb => .inl hb)
  have hc2 : w1.heap[g.p]? = _ := (hb.block g.p lp).trans h.cells
  have n1 : w.heap.size ≠ g.p := by omega
  have hnc : ∀ b ∈ blkOf g.cv, b ∉ [g.p] := fun b hb hm => by
    have e : b = g.p := by simpa using hm
    exact d3 (by rw [← e]; exact hb)
  exact Rep.newhead (g' := { g with m := w.heap.size }) (s' := { s with names := D }) h ht2
    (fun b hb => .inl (by have : b = g.p := by simpa using hb
                          rw [this]; simp [head])) rfl rfl rfl
    (by rw [block_setCell hc2]; rfl)
    (owns_frame hn (set_other w1 1 _ n1))
    (owns_frame h.ls (ht2.block g.l ll (by simpa using fun e => d2 e.symm)))
    (ownsRow_frame h.ch fun b hb => ht2.block b (lc b hb) (hnc b hb))
    (by
      show (g.p :: w.heap.size :: g.l :: blkOf g.cv).Nodup
      simp only [List.nodup_cons, List.mem_cons, not_or]
      exact ⟨⟨by omega, d2, d3⟩, ⟨by omega, fun hb => by have := lc _ hb; omega⟩, d6, d7⟩)
    (by
      intro b hb
      simp only [head, List.mem_cons] at hb ⊢
      rcases hb with e | e | e | e
      · simp [e]
      · right; omega
      · simp [e]
      · simp [e])
    (by
      intro b hb
      have e2 := ht2.size
      have e4 := (turn_set w1 g.p 1 (.map (some w.heap.size))).size
      simp only [head, List.mem_cons] at hb
      rcases hb with e | e | e | e
      · omega
      · omega
      · omega
      · have := lc b e; omega)
end Go.Proofs.Ytijdgmbpkfmciaa.Fs
