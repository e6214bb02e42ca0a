/- The file system: what look and has tell behind a change; the invariant. -/
import Derived.Test.YtijdgmbpkfmciaaS
namespace Go.Proofs.Ytijdgmbpkfmciaa.Fs
open Go.RowKit Go.Maps Go.ChangeMaps Go.WideMaps Go.Joins Go.Sort

theorem kl_inj {s t : ByteArray} (h : kl s = kl t) : s = t := by
  have : s.data.toList = t.data.toList := by simpa [kl] using h
  exact ByteArray.ext (Array.toList_inj.1 this)
theorem kl_ne {s t : ByteArray} (h : s ≠ t) : kl s ≠ kl t := fun e => h (kl_inj e)
theorem look_put_same {D : Dm} (hD : IsMap D) (s : ByteArray) (v : Nat) : look (D.put (kl s) (.lit (.int .i64 v))) s = v := by
  unfold look; rw [atKey_put_same hD (kl_isKey s)]; simp
theorem look_put_other {D : Dm} {s t : ByteArray} (h : t ≠ s) (d : Dm) : look (D.put (kl s) d) t = look D t := by
  unfold look; rw [atKey_put_other (kl_ne h)]
theorem look_del_same {D : Dm} (s : ByteArray) : look (D.del (kl s)) s = 0 := by
  unfold look; rw [atKey_del_same]; rfl
theorem look_del_other {D : Dm} {s t : ByteArray} (h : t ≠ s) : look (D.del (kl s)) t = look D t := by
  unfold look; rw [atKey_del_other (kl_ne h)]
theorem look_empty (s : ByteArray) : look (.map []) s = 0 := rfl
theorem look_none {D : Dm} {s : ByteArray} (h : Maps.has D (kl s) = false) : look D s = 0 := by
  unfold look; rw [atKey_of_not_has h]; rfl

/-- Which names are there: look is the whole of it, where the names lead to files. -/
theorem IdsD.has_iff {D : Dm} {ids : List Nat} (h : IdsD D ids) (s : ByteArray) : Maps.has D (kl s) = true ↔ Fs.look D s ≠ 0 := by
  constructor
  · intro hh; obtain ⟨f, _, e⟩ := h s hh; omega
  · intro hl
    cases hh : Maps.has D (kl s)
    · exact absurd (look_none hh) hl
    · rfl
theorem IdsD.mono {D : Dm} {ids ids' : List Nat} (h : IdsD D ids) (hs : ∀ f ∈ ids, f ∈ ids') : IdsD D ids' := fun nm hn => by
  obtain ⟨f, hf, e⟩ := h nm hn
  exact ⟨f, hs f hf, e⟩
theorem IdsD.put {D : Dm} {ids : List Nat} (h : IdsD D ids) (hD : IsMap D) (s : ByteArray) {f : Nat} (hf : f ∈ ids) : IdsD (D.put (kl s) (.lit (.int .i64 (f + 1 : Nat)))) ids := by
  intro nm hn
  by_cases e : nm = s
  · subst e; exact ⟨f, hf, look_put_same hD nm _⟩
  · rw [has_put_other (kl_ne e)] at hn
    rw [look_put_other e]
    exact h nm hn
theorem IdsD.del {D : Dm} {ids : List Nat} (h : IdsD D ids) (s : ByteArray) : IdsD (D.del (kl s)) ids := by
  intro nm hn
  by_cases e : nm = s
  · subst e; rw [has_del_same] at hn; cases hn
  · rw [has_del_other (kl_ne e)] at hn
    rw [look_del_other e]
    exact h nm hn
theorem idsD_empty (ids : List Nat) : IdsD (.map []) ids := fun nm hn => by cases hn

/-- What a change may be, where the names are D. -/
def fits (D : Dm) (ids : List Nat) : Chg → Prop
  | .create _ f => f ∈ ids
  | .rename a _ => look D a ≠ 0
  | .remove _ => True
theorem app_idsD {D : Dm} {ids : List Nat} (h : IdsD D ids) (hD : IsMap D) (c : Chg) (hc : fits D ids c) : IdsD (app D c) ids := by
  cases c with
  | create s f => exact h.put hD s hc
  | rename a b =>
    rcases h.look a with e | ⟨f, hf, e⟩
    · exact absurd e hc
    · show IdsD ((D.put (kl b) (.lit (.int .i64 (look D a)))).del (kl a)) ids
      rw [e]
      exact (h.put hD b hf).del a
  | remove a => exact h.del a
theorem app_tidy {D : Dm} (h : Tidy D) (c : Chg) : Tidy (app D c) := by
  cases c with
  | create s f => exact h.put (kl_isKey s) _
  | rename a b => exact (h.put (kl_isKey b) _).del _
  | remove a => exact h.del _
theorem app_size {D : Dm} (h : Tidy D) (c : Chg) : Maps.size (app D c) ≤ Maps.size D + 1 := by
  cases c with
  | create s f =>
    show Maps.size (D.put _ _) ≤ _
    rw [size_put h]; split <;> omega
  | rename a b =>
    show Maps.size ((D.put _ _).del _) ≤ _
    have h1 := size_del (k := kl a) (h.put (kl_isKey b) (.lit (.int .i64 (look D a))))
    have h2 : Maps.size (D.put (kl b) (.lit (.int .i64 (look D a)))) ≤ Maps.size D + 1 := by rw [size_put h]; split <;> omega
    omega
  | remove a =>
    show Maps.size (D.del _) ≤ _
    have h1 := size_del (k := kl a) h
    omega
theorem replay_tidy {D : Dm} (h : Tidy D) : ∀ cs : List Chg, Tidy (replay D cs)
  | [] => h
  | c :: cs => replay_tidy (app_tidy h c) cs
theorem replay_snoc (D : Dm) (cs : List Chg) (c : Chg) : replay D (cs ++ [c]) = app (replay D cs) c := by
  unfold replay; rw [List.foldl_append]; rfl

structure Inv (s : St) (ids : List Nat) (n : Nat) : Prop where
  nm : s.names = replay s.lasting s.changes
  td : Tidy s.lasting
  ids : ∀ k, IdsD (replay s.lasting (s.changes.take k)) ids
  sm : ∀ c ∈ s.changes, small c
  sz : ∀ k, Maps.size (replay s.lasting (s.changes.take k)) ≤ n
  cl : s.changes.length ≤ n
  fl : ∀ f, (s.files f).2 ≤ (s.files f).1.length ∧ (s.files f).1.length ≤ 16777216
  q0 : 0 ≤ s.quota
  q1 : s.quota ≤ 16777216
  f0 : -1 ≤ s.fuse
  f1 : s.fuse < 9223372036854775808

theorem Inv.names {s : St} {ids : List Nat} {n : Nat} (h : Inv s ids n) : IdsD s.names ids := by
  have := h.ids s.changes.length
  rwa [List.take_length, ← h.nm] at this
theorem Inv.size {s : St} {ids : List Nat} {n : Nat} (h : Inv s ids n) : Maps.size s.names ≤ n := by
  have := h.sz s.changes.length
  rwa [List.take_length, ← h.nm] at this
theorem Inv.tidy {s : St} {ids : List Nat} {n : Nat} (h : Inv s ids n) : Tidy s.names := by
  rw [h.nm]; exact replay_tidy h.td _
theorem Inv.mono {s : St} {ids ids' : List Nat} {n m : Nat} (h : Inv s ids n) (hs : ∀ f ∈ ids, f ∈ ids') (hn : n ≤ m) : Inv s ids' m :=
  ⟨h.nm, h.td, fun k => (h.ids k).mono hs, h.sm, fun k => Nat.le_trans (h.sz k) hn, Nat.le_trans h.cl hn, h.fl, h.q0, h.q1, h.f0, h.f1⟩

theorem take_snoc {α : Type} (l : List α) (x : α) (k : Nat) : (l ++ [x]).take k = l.take k ∨ (l ++ [x]).take k = l ++ [x] := by
  by_cases h : k ≤ l.length
  · left; rw [List.take_append_of_le_length h]
  · right; rw [List.take_of_length_le (by simp; omega)]
theorem burnF_lo {f : Int} (_ : -1 ≤ f) : -1 ≤ burnF f := by unfold burnF; split <;> omega
theorem burnF_hi {f : Int} (h : f < 9223372036854775808) : burnF f < 9223372036854775808 := by unfold burnF; split <;> omega

theorem inv_changed {s : St} {ids : List Nat} {n : Nat} (h : Inv s ids n) (c : Chg) (hs : small c) (hc : fits s.names ids c) : Inv (changed s c) ids (n + 1) := by
  unfold changed
  split
  · have h' := h.mono (fun _ hf => hf) (Nat.le_succ n)
    exact ⟨h'.nm, h'.td, h'.ids, h'.sm, h'.sz, h'.cl, h'.fl, h'.q0, h'.q1, (by simp), (by simp)⟩
  · refine ⟨?_, h.td, ?_, ?_, ?_, ?_, h.fl, h.q0, h.q1, burnF_lo h.f0, burnF_hi h.f1⟩
    · show app s.names c = replay s.lasting (s.changes ++ [c])
      rw [replay_snoc, h.nm]
    · intro k
      show IdsD (replay s.lasting ((s.changes ++ [c]).take k)) ids
      rcases take_snoc s.changes c k with e | e
      · rw [e]; exact h.ids k
      · rw [e, replay_snoc, ← h.nm]; exact app_idsD h.names h.tidy.isMap c hc
    · intro d hd
      have hd' : d ∈ s.changes ++ [c] := hd
      rcases List.mem_append.1 hd' with h1 | h1
      · exact h.sm d h1
      · rw [List.mem_singleton.1 h1]; exact hs
    · intro k
      show Maps.size (replay s.lasting ((s.changes ++ [c]).take k)) ≤ n + 1
      rcases take_snoc s.changes c k with e | e
      · rw [e]; exact Nat.le_succ_of_le (h.sz k)
      · rw [e, replay_snoc, ← h.nm]
        have := app_size h.tidy c
        have := h.size
        omega
    · show (s.changes ++ [c]).length ≤ n + 1
      have := h.cl
      simp; omega
theorem inv_add {s : St} {ids : List Nat} {n : Nat} (h : Inv s ids n) (f : Nat) : Inv (addFile s f) (f :: ids) n := by
  have h' := h.mono (ids' := f :: ids) (fun _ hf => List.mem_cons_of_mem _ hf) (Nat.le_refl n)
  refine ⟨h'.nm, h'.td, h'.ids, h'.sm, h'.sz, h'.cl, ?_, h'.q0, h'.q1, h'.f0, h'.f1⟩
  intro k
  simp only [addFile]
  split
  · simp
  · exact h.fl k
theorem inv_set {s : St} {ids : List Nat} {n : Nat} (h : Inv s ids n) (f : Nat) (x : List UInt8 × Nat) (hx : x.2 ≤ x.1.length) (hx2 : x.1.length ≤ 16777216) : Inv (setFile s f x) ids n := by
  refine ⟨h.nm, h.td, h.ids, h.sm, h.sz, h.cl, ?_, h.q0, h.q1, h.f0, h.f1⟩
  intro k
  simp only [setFile]
  split
  · exact ⟨hx, hx2⟩
  · exact h.fl k
theorem inv_burned {s : St} {ids : List Nat} {n : Nat} (h : Inv s ids n) : Inv (burned s) ids n :=
  ⟨h.nm, h.td, h.ids, h.sm, h.sz, h.cl, h.fl, h.q0, h.q1, burnF_lo h.f0, burnF_hi h.f1⟩
theorem inv_new {q : Int} (h0 : 0 ≤ q) (h1 : q ≤ 16777216) (ids : List Nat) (n : Nat) : Inv (newS q) ids n :=
  ⟨rfl, tidy_empty, fun k => (by show IdsD (replay (.map []) (([] : List Chg).take k)) ids; rw [List.take_nil]; exact idsD_empty ids), (fun _ h => nomatch h), fun k => (by show Maps.size (replay (.map []) (([] : List Chg).take k)) ≤ n; rw [List.take_nil]; exact Nat.zero_le _), Nat.zero_le _, (fun _ => by simp [newS]), h0, h1, (by simp [newS]), (by simp [newS])⟩

/-! ### how many bytes -/
theorem sumE_bound (s : St) (m : Nat) (h : ∀ f, (s.files f).1.length ≤ m) (left : Lit → Bool) : ∀ es : List (Lit × Dm), sumE s left es ≤ es.length * m
  | [] => by simp [sumE]
  | p :: es => by
    have ih := sumE_bound s m h left es
    have h1 : lenAt s p.2 ≤ m := by
      unfold lenAt
      split
      · exact h _
      · exact Nat.zero_le _
    unfold sumE at ih ⊢
    simp only [List.map_cons, List.sum_cons, List.length_cons]
    rw [Nat.succ_mul]
    split <;> omega
theorem used_bound {s : St} {ids : List Nat} {n : Nat} (h : Inv s ids n) (hn : n ≤ 1000000) : used s ≤ 16777216000000 := by
  have h1 := sumE_bound s 16777216 (fun f => (h.fl f).2) (fun _ => false) (entsOf s.names)
  have h2 : (entsOf s.names).length = Maps.size s.names := by
    obtain ⟨es, e, _⟩ := h.tidy
    rw [e]; rfl
  have h3 := h.size
  unfold used
  rw [h2] at h1
  have : Maps.size s.names * 16777216 ≤ 1000000 * 16777216 := Nat.mul_le_mul_right _ (by omega)
  omega
theorem sumE_mem (s : St) {p : Lit × Dm} : ∀ {es : List (Lit × Dm)}, p ∈ es → lenAt s p.2 ≤ sumE s (fun _ => false) es
  | [], h => by cases h
  | q :: es, h => by
    unfold sumE
    simp only [List.map_cons, List.sum_cons, Bool.false_eq_true, if_false]
    rcases List.mem_cons.1 h with e | h
    · subst e; omega
    · have := sumE_mem s h
      unfold sumE at this
      simp only [Bool.false_eq_true, if_false] at this
      omega
theorem atKey_const {D : Dm} {s : ByteArray} (h : Maps.has D (kl s) = true) (z z' : Dm) : D.atKey (kl s) z = D.atKey (kl s) z' := by
  cases D <;> try (cases h; done)
  rename_i es
  obtain ⟨p, hp, hpk⟩ := List.any_eq_true.1 (show es.any (fun p => p.1.sameKey (kl s)) = true from h)
  have hs : (es.find? (fun p => p.1.sameKey (kl s))).isSome = true := List.find?_isSome.2 ⟨p, hp, hpk⟩
  obtain ⟨x, hx⟩ := Option.isSome_iff_exists.1 hs
  unfold DataW.atKey
  simp only [hx]
theorem look_le_used {s : St} (hD : IsMap s.names) {nm : ByteArray} (hh : Maps.has s.names (kl nm) = true) (hl : look s.names nm ≠ 0) : (s.files (look s.names nm - 1)).1.length ≤ used s := by
  have hm := entry_of (D := s.names) (k := kl nm) (y := s.names.atKey (kl nm) (.lit (.int .i64 0))) hD ⟨_, rfl⟩ (fun z => atKey_const hh _ _)
  have := sumE_mem s hm
  refine Nat.le_trans ?_ this
  unfold look at hl ⊢
  unfold lenAt
  simp only
  generalize DataW.atKey s.names (kl nm) (.lit (.int .i64 0)) = d at hl ⊢
  split at hl
  · exact Nat.le_refl _
  · exact absurd rfl hl
end Go.Proofs.Ytijdgmbpkfmciaa.Fs
