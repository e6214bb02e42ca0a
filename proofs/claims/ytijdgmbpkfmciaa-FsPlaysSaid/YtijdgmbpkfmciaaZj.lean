/- The file system: one more file that lies whole (for Copy). -/
import Derived.Test.YtijdgmbpkfmciaaZi
namespace Go.Proofs.Ytijdgmbpkfmciaa.Fs
open Go.RowKit Go.Maps Go.ChangeMaps Go.WideMaps Go.Joins

def addGhV (g : Gh) (f : Nat) (v : Value) : Gh := { g with ids := f :: g.ids, bv := fun k => if k = f then v else g.bv k }
theorem Rep.addAt {w w' : World} {g : Gh} {s : St} {F : List Nat} {f : Nat} {v : Value} {x : List UInt8 × Nat} (h : Rep w g s) (ht : Turn w w' F) (hF : ∀ b ∈ F, b ∉ foot g ∨ w.heap.size ≤ b)
    (hf : w.heap.size ≤ f) (hA : FileAt w' f v x.1 x.2) (hv : ∀ b ∈ blkOf v, w.heap.size ≤ b ∧ b ≠ f) : Rep w' (addGhV g f v) (setFile s f x) := by
  have h' := h.turn ht hF
  have hnf : ∀ b ∈ foot g, b ≠ f := fun b hb e => by have := h.lt b hb; omega
  have hnv : ∀ b ∈ foot g, b ∉ blkOf v := fun b hb hm => by have := h.lt b hb; have := (hv b hm).1; omega
  have hids : ∀ k ∈ g.ids, k ≠ f := fun k hk => hnf k (mem_foot.2 (.inr (.inr (.inr (.inr (.inl hk))))))
  have hbvk : ∀ k ∈ g.ids, (addGhV g f v).bv k = g.bv k := fun k hk => by simp [addGhV, hids k hk]
  have hbvf : (addGhV g f v).bv f = v := by simp [addGhV]
  have hfoot : ∀ b, b ∈ foot (addGhV g f v) → b = f ∨ b ∈ blkOf v ∨ b ∈ foot g := fun b hb => by
    rcases mem_foot.1 hb with e | e | e | e | e | ⟨k, hk, e⟩
    · exact .inr (.inr (mem_foot.2 (.inl e)))
    · exact .inr (.inr (mem_foot.2 (.inr (.inl e))))
    · exact .inr (.inr (mem_foot.2 (.inr (.inr (.inl e)))))
    · exact .inr (.inr (mem_foot.2 (.inr (.inr (.inr (.inl e))))))
    · rcases List.mem_cons.1 e with e | e
      · exact .inl e
      · exact .inr (.inr (mem_foot.2 (.inr (.inr (.inr (.inr (.inl e)))))))
    · rcases List.mem_cons.1 hk with rfl | hk
      · rw [hbvf] at e; exact .inr (.inl e)
      · rw [hbvk k hk] at e
        exact .inr (.inr (mem_foot.2 (.inr (.inr (.inr (.inr (.inr ⟨k, hk, e⟩)))))))
  refine ⟨h'.cells, h'.nm, h'.ls, h'.ch, ?_, ?_, ?_⟩
  · intro k hk
    rcases List.mem_cons.1 hk with rfl | hk
    · rw [hbvf]
      simp only [setFile, if_true]
      exact ⟨hA.cells, hA.row⟩
    · rw [hbvk k hk]
      simp only [setFile, if_neg (hids k hk)]
      exact h'.fl k hk
  · obtain ⟨a1, a2, a3, a4, a5⟩ := (apart_iff g).1 h.apart
    have hh : head (addGhV g f v) = head g := rfl
    have fh : ∀ b ∈ head g, b ∈ foot g := fun b hb => List.mem_append.2 (.inl hb)
    have fi : ∀ k ∈ g.ids, k ∈ foot g := fun k hk => mem_foot.2 (.inr (.inr (.inr (.inr (.inl hk)))))
    have fb : ∀ k ∈ g.ids, ∀ b ∈ blkOf (g.bv k), b ∈ foot g := fun k hk b hb => mem_foot.2 (.inr (.inr (.inr (.inr (.inr ⟨k, hk, hb⟩)))))
    refine (apart_iff _).2 ⟨by rw [hh]; exact a1, List.nodup_cons.2 ⟨fun hm => hids f hm rfl, a2⟩, ?_, ?_, ?_⟩
    · intro k hk hm
      rw [hh] at hm
      rcases List.mem_cons.1 hk with rfl | hk
      · exact hnf _ (fh _ hm) rfl
      · exact a3 k hk hm
    · intro k hk b hb
      rw [hh]
      rcases List.mem_cons.1 hk with rfl | hk
      · rw [hbvf] at hb
        refine ⟨fun hm => hnv b (fh b hm) hb, fun hm => ?_⟩
        rcases List.mem_cons.1 hm with e | e
        · exact (hv b hb).2 e
        · exact hnv b (fi b e) hb
      · rw [hbvk k hk] at hb
        refine ⟨(a4 k hk b hb).1, fun hm => ?_⟩
        rcases List.mem_cons.1 hm with e | e
        · exact hnf b (fb k hk b hb) e
        · exact (a4 k hk b hb).2 e
    · intro a ha c hc hac x1 hx y1 hy e
      subst e
      have ha' := List.mem_cons.1 ha
      have hc' := List.mem_cons.1 hc
      clear ha hc
      rcases ha' with ha | ha
      · rcases hc' with hc | hc
        · exact hac (ha.trans hc.symm)
        · rw [ha, hbvf] at hx
          rw [hbvk c hc] at hy
          exact hnv _ (fb c hc _ hy) hx
      · rw [hbvk a ha] at hx
        rcases hc' with hc | hc
        · rw [hc, hbvf] at hy
          exact hnv _ (fb a ha _ hx) hy
        · rw [hbvk c hc] at hy
          exact a5 a ha c hc hac _ hx _ hy rfl
  · intro b hb
    rcases hfoot b hb with e | e | e
    · rw [e]; exact (Array.getElem?_eq_some_iff.1 hA.cells).1
    · exact hA.lt b e
    · exact h'.lt b e
theorem foot_addV {g : Gh} {f : Nat} {v : Value} {B : Nat} (hf : B ≤ f) (hv : ∀ b ∈ blkOf v, B ≤ b) (hg : ∀ b ∈ foot g, B ≤ b) : ∀ b ∈ foot (addGhV g f v), B ≤ b := by
  intro b hb
  rcases mem_foot.1 hb with e | e | e | e | e | ⟨k, hk, e⟩
  · exact hg b (mem_foot.2 (.inl e))
  · exact hg b (mem_foot.2 (.inr (.inl e)))
  · exact hg b (mem_foot.2 (.inr (.inr (.inl e))))
  · exact hg b (mem_foot.2 (.inr (.inr (.inr (.inl e)))))
  · rcases List.mem_cons.1 e with e | e
    · rw [e]; exact hf
    · exact hg b (mem_foot.2 (.inr (.inr (.inr (.inr (.inl e))))))
  · by_cases hkf : k = f
    · subst hkf
      simp only [addGhV, if_true] at e
      exact hv b e
    · rcases List.mem_cons.1 hk with e2 | hk
      · exact absurd e2 hkf
      · simp only [addGhV, if_neg hkf] at e
        exact hg b (mem_foot.2 (.inr (.inr (.inr (.inr (.inr ⟨k, hk, e⟩))))))
end Go.Proofs.Ytijdgmbpkfmciaa.Fs
