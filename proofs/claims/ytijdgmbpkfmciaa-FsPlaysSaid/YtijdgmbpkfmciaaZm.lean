/- The file system: the copy's maps take one more name. -/
import Derived.Test.YtijdgmbpkfmciaaZk
import Derived.Test.YtijdgmbpkfmciaaR
namespace Go.Proofs.Ytijdgmbpkfmciaa.Fs
open Go.RowKit Go.Maps Go.ChangeMaps Go.WideMaps Go.Joins Go.Sort

/-- What lasts turns in its own map. -/
theorem rep_last {w w' : World} {g : Gh} {s : St} {D : Dm} (h : Rep w g s) (ht : Turn w w' [g.l]) (hn : w'.ownsMap Try.prog 9 ptrR g.l (Maps.size D) D) : Rep w' g { s with lasting := D } := by
  have hd : (head g).Nodup := (List.nodup_append.1 h.apart).1
  have hd0 := hd
  unfold head at hd
  simp only [List.nodup_cons, List.mem_cons, not_or] at hd
  have hne : ∀ b ∈ foot g, b ≠ g.l → w'.heap[b]? = w.heap[b]? := fun b hb hn => ht.block b (h.lt b hb) (by simpa using hn)
  have hq : ∀ b ∈ [g.l], b ∈ head g := fun b hb => by
    have e : b = g.l := by simpa using hb
    rw [e]; simp [head]
  refine (Rep.newhead (g' := g) (s' := { s with lasting := D }) h ht (fun b hb => .inl (hq b hb)) rfl rfl rfl ?_ ?_ hn ?_ hd0 (fun b hb => .inl hb)
    (fun b hb => Nat.lt_of_lt_of_le (h.lt b (List.mem_append.2 (.inl hb))) ht.size)).1
  · exact (hne g.p (mem_foot.2 (.inl rfl)) hd.1.2.1).trans h.cells
  · exact owns_frame h.nm (hne g.m (mem_foot.2 (.inr (.inl rfl))) hd.2.1.1)
  · exact ownsRow_frame h.ch fun b hb => hne b (mem_foot.2 (.inr (.inr (.inr (.inl hb))))) (fun e => hd.2.2.1 (e ▸ hb))

/-- The copy's head turns; twins and all else stand. -/
theorem Cp.head {w0 w w' : World} {g : Gh} {s : St} {g' g2 : Gh} {s' s2 : St} {tb t : Nat} {T : List (Nat × Nat)} {F : List Nat} (h : Cp w0 w g s g' s' tb t T) (ht : Turn w w' F) (hF : ∀ b ∈ F, b ∈ foot g' ∨ w.heap.size ≤ b)
    (hr : Rep w' g2 s2) (hsub : ∀ b ∈ foot g2, b ∈ foot g' ∨ w.heap.size ≤ b) (hids : g2.ids = g'.ids) (hfl : s2.files = s'.files) : Cp w0 w' g s g2 s2 tb t T := by
  have hws := h.old.size
  have htl : t < w.heap.size := by obtain ⟨_, _, h1, _⟩ := h.map; exact (Array.getElem?_eq_some_iff.1 h1).1
  have htbl : tb < w.heap.size := World.block_lt_of_cell? w _ h.box
  have hF' : ∀ b ∈ F, w0.heap.size ≤ b := fun b hb => (hF b hb).elim (h.new b) (by omega)
  have n1 : t ∉ F := fun hm => (hF t hm).elim h.tn.2 (by omega)
  have n2 : tb ∉ F := fun hm => (hF tb hm).elim h.tbn.2.1 (by omega)
  refine ⟨h.old.trans (ht.below hws hF'), h.rep, hr, fun b hb => (hsub b hb).elim (h.new b) (by omega), (World.cell?_of_block (a := ⟨tb, 0, none⟩) (ht.block tb htbl n2)).trans h.box, h.map.frame (ht.block t htl n1), ⟨h.tbn.1, fun hm => (hsub tb hm).elim h.tbn.2.1 (by omega), h.tbn.2.2⟩, ⟨h.tn.1, fun hm => (hsub t hm).elim h.tn.2 (by omega)⟩, h.keys, fun p hp => ?_, h.inj⟩
  rw [hids, hfl]
  exact h.vals p hp
/-- Other new blocks turn. -/
theorem Cp.aside {w0 w w' : World} {g : Gh} {s : St} {g' : Gh} {s' : St} {tb t : Nat} {T : List (Nat × Nat)} {F : List Nat} (h : Cp w0 w g s g' s' tb t T) (ht : Turn w w' F) (hF : ∀ b ∈ F, w0.heap.size ≤ b ∧ b ∉ foot g' ∧ b ≠ t ∧ b ≠ tb) : Cp w0 w' g s g' s' tb t T := by
  have hws := h.old.size
  have htl : t < w.heap.size := by obtain ⟨_, _, h1, _⟩ := h.map; exact (Array.getElem?_eq_some_iff.1 h1).1
  have htbl : tb < w.heap.size := World.block_lt_of_cell? w _ h.box
  have n1 : t ∉ F := fun hm => (hF t hm).2.2.1 rfl
  have n2 : tb ∉ F := fun hm => (hF tb hm).2.2.2 rfl
  exact ⟨h.old.trans (ht.below hws fun b hb => (hF b hb).1), h.rep, h.rep'.turn ht (fun b hb => .inl (hF b hb).2.1), h.new, (World.cell?_of_block (a := ⟨tb, 0, none⟩) (ht.block tb htbl n2)).trans h.box, h.map.frame (ht.block t htl n1), h.tbn, h.tn, h.keys, h.vals, h.inj⟩
theorem turn_mapTurned {w w' : World} {b : Nat} (h : w.mapTurned w' b) : Turn w w' [b] := (Turn.of_grown h.grown).mono (fun k hk => .inl (by simpa using hk))
/-- One more name in the copy's names. -/
theorem Cp.putName {w0 w : World} {g : Gh} {s : St} {g' : Gh} {s' : St} {tb t : Nat} {T : List (Nat × Nat)} (h : Cp w0 w g s g' s' tb t T) (hn : Maps.size s'.names < maxLen) (nm : ByteArray) (hs : nm.size ≤ maxLen) (y : Nat) :
    ∃ w', (Instr.mapUpdate 58 (.map (some g'.m)) (.string nm) (.pointer (some ⟨y, 0, none⟩))).run Try.prog w = .ok () w' ∧ Turn w w' [g'.m] ∧ Cp w0 w' g s g' { s' with names := s'.names.put (kl nm) (.lit (.int .i64 (y + 1 : Nat))) } tb t T := by
  obtain ⟨w', h1, h2, h3⟩ := h.rep'.nm.store law Try.underlying58 hn (hkey hs) (ptrR_V (y + 1))
  have ht := turn_mapTurned h3
  have hm : ∀ b ∈ [g'.m], b ∈ foot g' := fun b hb => by rw [List.mem_singleton.1 hb]; exact mem_foot.2 (.inr (.inl rfl))
  exact ⟨w', h1, ht, h.head ht (fun b hb => .inl (hm b hb)) (rep_names h.rep' ht (owns_tight h2)) (fun b hb => .inl hb) rfl rfl⟩
/-- One more name in what lasts of the copy. -/
theorem Cp.putLast {w0 w : World} {g : Gh} {s : St} {g' : Gh} {s' : St} {tb t : Nat} {T : List (Nat × Nat)} (h : Cp w0 w g s g' s' tb t T) (hn : Maps.size s'.lasting < maxLen) (nm : ByteArray) (hs : nm.size ≤ maxLen) (y : Nat) :
    ∃ w', (Instr.mapUpdate 58 (.map (some g'.l)) (.string nm) (.pointer (some ⟨y, 0, none⟩))).run Try.prog w = .ok () w' ∧ Turn w w' [g'.l] ∧ Cp w0 w' g s g' { s' with lasting := s'.lasting.put (kl nm) (.lit (.int .i64 (y + 1 : Nat))) } tb t T := by
  obtain ⟨w', h1, h2, h3⟩ := h.rep'.ls.store law Try.underlying58 hn (hkey hs) (ptrR_V (y + 1))
  have ht := turn_mapTurned h3
  have hm : ∀ b ∈ [g'.l], b ∈ foot g' := fun b hb => by rw [List.mem_singleton.1 hb]; exact mem_foot.2 (.inr (.inr (.inl rfl)))
  exact ⟨w', h1, ht, h.head ht (fun b hb => .inl (hm b hb)) (rep_last h.rep' ht (owns_tight h2)) (fun b hb => .inl hb) rfl rfl⟩
end Go.Proofs.Ytijdgmbpkfmciaa.Fs
