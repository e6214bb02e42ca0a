/- The file system: 'twin' over the copy so far. -/
import Derived.Test.YtijdgmbpkfmciaaZj
namespace Go.Proofs.Ytijdgmbpkfmciaa.Fs
open Go.RowKit Go.Maps Go.ChangeMaps Go.WideMaps Go.Joins

/-- The copy so far: the old one stands, the new one lies apart; whoever has a twin has a like one. -/
structure Cp (w0 w : World) (g : Gh) (s : St) (g' : Gh) (s' : St) (tb t : Nat) (D : List (Nat × Nat)) : Prop where
  old : Below w0.heap.size w0 w
  rep : Rep w0 g s
  rep' : Rep w g' s'
  new : ∀ b ∈ foot g', w0.heap.size ≤ b
  box : w.cell? ⟨tb, 0, none⟩ = some (.map (some t))
  map : PMap w t D
  tbn : w0.heap.size ≤ tb ∧ tb ∉ foot g' ∧ tb ≠ t
  tn : w0.heap.size ≤ t ∧ t ∉ foot g'
  keys : ∀ p ∈ D, p.1 ∈ g.ids
  vals : ∀ p ∈ D, p.2 ∈ g'.ids ∧ s'.files p.2 = s.files p.1
  inj : ∀ a b y, D.lookup a = some y → D.lookup b = some y → a = b
theorem mem_of_lookup {D : List (Nat × Nat)} {x y : Nat} (h : D.lookup x = some y) : (x, y) ∈ D := by
  induction D with
  | nil => simp at h
  | cons p D ih =>
    obtain ⟨a, b⟩ := p
    rw [List.lookup_cons] at h
    cases hx : (x == a) with
    | true =>
      rw [hx] at h
      have e1 : x = a := by simpa using hx
      have e2 : b = y := by simpa using h
      rw [e1, e2]; exact List.mem_cons_self
    | false =>
      rw [hx] at h
      exact List.mem_cons_of_mem _ (ih h)
/-- What 'twin' does to the copy. -/
def Twinned (w0 w : World) (g : Gh) (s : St) (g' : Gh) (s' : St) (tb t : Nat) (D : List (Nat × Nat)) (x : Nat) (e : Ending) (w' : World) : Prop :=
  ∃ y g2 fl D2, e = .returned (.pointer (some ⟨y, 0, none⟩)) ∧ Cp w0 w' g s g2 { s' with files := fl } tb t D2 ∧ D2.lookup x = some y ∧ (∀ z u, D.lookup z = some u → D2.lookup z = some u) ∧
    g2.p = g'.p ∧ g2.m = g'.m ∧ g2.l = g'.l ∧ g2.cv = g'.cv ∧ (∀ f ∈ g'.ids, f ∈ g2.ids) ∧ (∀ f ∈ g'.ids, fl f = s'.files f) ∧ (∀ n, (∀ f, (s'.files f).2 ≤ (s'.files f).1.length ∧ (s'.files f).1.length ≤ n) → (∀ f, (s.files f).2 ≤ (s.files f).1.length ∧ (s.files f).1.length ≤ n) → ∀ f, (fl f).2 ≤ (fl f).1.length ∧ (fl f).1.length ≤ n) ∧ Turn w w' [t] ∧ (∀ b ∈ foot g2, b ∈ foot g' ∨ w.heap.size ≤ b)
theorem twin_cp (w0 w : World) (g : Gh) (s : St) (g' : Gh) (s' : St) (tb t : Nat) (D : List (Nat × Nat)) (h : Cp w0 w g s g' s' tb t D) (x : Nat) (hx : x ∈ g.ids) (hn : (s.files x).1.length ≤ 1000000000) :
    Calls Try.prog 42 #[.pointer (some ⟨x, 0, none⟩), .pointer (some ⟨tb, 0, none⟩)] w (Twinned w0 w g s g' s' tb t D x) := by
  have hlt : ∀ b ∈ foot g, b < w0.heap.size := h.rep.lt
  have hg : Rep w g s := h.rep.frame (fun b hb => h.old.block b (hlt b hb)) h.old.size
  have fi : ∀ k ∈ g.ids, k ∈ foot g := fun k hk => mem_foot.2 (.inr (.inr (.inr (.inr (.inl hk)))))
  have fA : ∀ k ∈ g.ids, FileAt w k (g.bv k) (s.files k).1 (s.files k).2 := fun k hk =>
    ⟨(hg.fl k hk).1, (hg.fl k hk).2, fun b hb => hg.lt b (mem_foot.2 (.inr (.inr (.inr (.inr (.inr ⟨k, hk, hb⟩))))))⟩
  cases hl : D.lookup x with
  | some y =>
    refine (twin_old tb t x y D w h.box h.map (fA x hx).fileB (fun p hp => (fA p.1 (h.keys p hp)).fileB) hl).mono ?_
    rintro e w' ⟨rfl, rfl⟩
    exact ⟨y, g', s'.files, D, rfl, h, hl, fun _ _ hz => hz, rfl, rfl, rfl, rfl, fun _ hf => hf, fun _ _ => rfl, fun n h1 _ => h1, Turn.refl _ _, fun b hb => .inl hb⟩
  | none =>
    have htx : ∀ k ∈ g.ids, k ≠ t := fun k hk e => by have := hlt k (fi k hk); have := h.tn.1; omega
    refine (twin_new tb t x D (g.bv x) _ _ w h.box h.map (fA x hx) hn (fun p hp => (fA p.1 (h.keys p hp)).fileB) hl h.tbn.2.2 (htx x hx) (fun p hp => htx p.1 (h.keys p hp))).mono ?_
    rintro e w' ⟨y, bv', rfl, hm, ht, hy, hA, hb⟩
    have hr := h.rep'.addAt (f := y) (v := bv') (x := s.files x) ht (fun b hb' => .inl (by rw [List.mem_singleton.1 hb']; exact h.tn.2)) hy hA hb
    have hws := h.old.size
    have htl : t < w.heap.size := by obtain ⟨_, _, h1, _⟩ := h.map; exact (Array.getElem?_eq_some_iff.1 h1).1
    have htbl : tb < w.heap.size := World.block_lt_of_cell? w _ h.box
    have hy' : ∀ f ∈ g'.ids, f ≠ y := fun f hf e => by have := h.rep'.lt f (mem_foot.2 (.inr (.inr (.inr (.inr (.inl hf)))))); omega
    have hsub : ∀ z ∈ foot (addGhV g' y bv'), z ∈ foot g' ∨ w.heap.size ≤ z := fun z hm' => by
      rcases mem_foot.1 hm' with e | e | e | e | e | ⟨k, hk, e⟩
      · exact .inl (mem_foot.2 (.inl e))
      · exact .inl (mem_foot.2 (.inr (.inl e)))
      · exact .inl (mem_foot.2 (.inr (.inr (.inl e))))
      · exact .inl (mem_foot.2 (.inr (.inr (.inr (.inl e)))))
      · rcases List.mem_cons.1 e with e | e
        · exact .inr (by omega)
        · exact .inl (mem_foot.2 (.inr (.inr (.inr (.inr (.inl e))))))
      · by_cases hky : k = y
        · subst hky
          simp only [addGhV, if_true] at e
          exact .inr (hb z e).1
        · rcases List.mem_cons.1 hk with e2 | hk
          · exact absurd e2 hky
          · simp only [addGhV, if_neg hky] at e
            exact .inl (mem_foot.2 (.inr (.inr (.inr (.inr (.inr ⟨k, hk, e⟩))))))
    have hnot : ∀ z, z < w.heap.size → z ∉ foot g' → z ∉ foot (addGhV g' y bv') := fun z hz hzf hm' => (hsub z hm').elim hzf (by omega)
    have hlk : (D ++ [(x, y)]).lookup x = some y := by rw [List.lookup_append, hl]; simp
    refine ⟨y, addGhV g' y bv', (setFile s' y (s.files x)).files, D ++ [(x, y)], rfl, ⟨?_, h.rep, hr, foot_addV (by omega) (fun b hb' => by have := (hb b hb').1; omega) h.new, ?_, hm, ⟨h.tbn.1, hnot tb htbl h.tbn.2.1, h.tbn.2.2⟩, ⟨h.tn.1, hnot t htl h.tn.2⟩, ?_, ?_, ?_⟩, hlk, ?_, rfl, rfl, rfl, rfl, fun f hf => List.mem_cons_of_mem _ hf, ?_, ?_, ht, hsub⟩
    · exact h.old.trans (ht.below h.old.size (fun b hb' => by rw [List.mem_singleton.1 hb']; exact h.tn.1))
    · exact (World.cell?_of_block (a := ⟨tb, 0, none⟩) (ht.block tb htbl (by simpa using h.tbn.2.2))).trans h.box
    · intro p hp
      rcases List.mem_append.1 hp with hp | hp
      · exact h.keys p hp
      · rw [List.mem_singleton.1 hp]; exact hx
    · intro p hp
      rcases List.mem_append.1 hp with hp | hp
      · have := h.vals p hp
        exact ⟨List.mem_cons_of_mem _ this.1, by show (if p.2 = y then _ else _) = _; rw [if_neg (hy' _ this.1)]; exact this.2⟩
      · rw [List.mem_singleton.1 hp]
        exact ⟨List.mem_cons_self, by show (if y = y then _ else _) = _; rw [if_pos rfl]⟩
    · intro a b u ha hb
      have key : ∀ a, (D ++ [(x, y)]).lookup a = some u → (D.lookup a = some u ∧ u ≠ y) ∨ (a = x ∧ u = y) := fun a ha => by
        rw [List.lookup_append] at ha
        cases hd : D.lookup a with
        | some z =>
          rw [hd] at ha
          have e : z = u := by simpa using ha
          subst e
          exact .inl ⟨rfl, hy' z (h.vals _ (mem_of_lookup hd)).1⟩
        | none =>
          rw [hd] at ha
          have ha' : [(x, y)].lookup a = some u := by simpa using ha
          have hm := mem_of_lookup ha'
          have e := List.mem_singleton.1 hm
          cases e
          exact .inr ⟨rfl, rfl⟩
      rcases key a ha with ⟨h1, h2⟩ | ⟨h1, h2⟩
      · rcases key b hb with ⟨h3, h4⟩ | ⟨h3, h4⟩
        · exact h.inj a b u h1 h3
        · exact absurd h4 h2
      · rcases key b hb with ⟨h3, h4⟩ | ⟨h3, h4⟩
        · exact absurd h2 h4
        · exact h1.trans h3.symm
    · intro z u hz
      rw [List.lookup_append, hz]
      rfl
    · intro f hf
      show (if f = y then _ else _) = _
      rw [if_neg (hy' f hf)]
    · intro n h1 h2 f
      show (if f = y then s.files x else s'.files f).2 ≤ (if f = y then s.files x else s'.files f).1.length ∧ (if f = y then s.files x else s'.files f).1.length ≤ n
      split
      · exact h2 x
      · exact h1 f
end Go.Proofs.Ytijdgmbpkfmciaa.Fs
