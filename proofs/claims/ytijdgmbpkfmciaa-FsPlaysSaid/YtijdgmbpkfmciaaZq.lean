/- The file system: all names that are there are names that may be. -/
import Derived.Test.YtijdgmbpkfmciaaU
namespace Go.Proofs.Ytijdgmbpkfmciaa.Fs
open Go.RowKit Go.Maps Go.ChangeMaps Go.WideMaps Go.Joins Go.Sort

def OkC : Chg → Prop
  | .create s _ => okN s = true
  | .rename _ b => okN b = true
  | .remove _ => True
def OkD (D : Dm) : Prop := ∀ nm : ByteArray, Maps.has D (kl nm) = true → okN nm = true
structure Okn (s : St) : Prop where
  ls : OkD s.lasting
  ch : ∀ c ∈ s.changes, OkC c
theorem OkD.put {D : Dm} (h : OkD D) (s : ByteArray) (d : Dm) (hs : okN s = true) : OkD (D.put (kl s) d) := by
  intro nm hn
  by_cases e : nm = s
  · subst e; exact hs
  · rw [has_put_other (kl_ne e)] at hn; exact h nm hn
theorem OkD.del {D : Dm} (h : OkD D) (s : ByteArray) : OkD (D.del (kl s)) := by
  intro nm hn
  by_cases e : nm = s
  · subst e; rw [has_del_same] at hn; cases hn
  · rw [has_del_other (kl_ne e)] at hn; exact h nm hn
theorem OkD.app {D : Dm} (h : OkD D) (c : Chg) (hc : OkC c) : OkD (app D c) := by
  cases c with
  | create s f => exact h.put s _ hc
  | rename a b => exact (h.put b _ hc).del a
  | remove a => exact h.del a
theorem OkD.replay : ∀ {cs : List Chg} {D : Dm}, OkD D → (∀ c ∈ cs, OkC c) → OkD (replay D cs)
  | [], _, h, _ => h
  | c :: cs, _, h, hs => OkD.replay (cs := cs) (h.app c (hs c List.mem_cons_self)) (fun x hx => hs x (List.mem_cons_of_mem _ hx))
theorem Okn.names {s : St} {ids : List Nat} {n : Nat} (h : Okn s) (hI : Inv s ids n) : OkD s.names := by
  rw [hI.nm]; exact h.ls.replay h.ch
theorem okn_new (q : Int) : Okn (newS q) := ⟨(fun _ hn => nomatch hn), (fun _ hc => nomatch hc)⟩
theorem okn_changed {s : St} (h : Okn s) (c : Chg) (hc : OkC c) : Okn (changed s c) := by
  unfold changed
  split
  · exact ⟨h.ls, h.ch⟩
  · exact ⟨h.ls, fun d hd => (List.mem_append.1 hd).elim (h.ch d) fun e => by rw [List.mem_singleton.1 e]; exact hc⟩
theorem named_ok {dead : Bool} {l : List ByteArray} (h : namedE dead l = 0) : dead = false ∧ ∀ x ∈ l, okN x = true := by
  unfold namedE at h
  cases dead with
  | true => simp at h
  | false =>
    refine ⟨rfl, ?_⟩
    rw [if_neg (by simp)] at h
    split at h
    · rename_i ha; exact fun x hx => List.all_eq_true.1 ha x hx
    · cases h
theorem okn_create {s : St} (h : Okn s) (nm : ByteArray) (f : Nat) : Okn (createS s nm f) := by
  unfold createS
  split
  · rename_i hc; exact okn_changed (s := addFile s f) ⟨h.ls, h.ch⟩ _ ((named_ok hc.1).2 nm List.mem_cons_self)
  · exact h
theorem okn_remove {s : St} (h : Okn s) (nm : ByteArray) : Okn (removeS s nm) := by
  unfold removeS
  split
  · exact okn_changed h _ trivial
  · exact h
theorem okn_rename {s : St} (h : Okn s) (a b : ByteArray) : Okn (renameS s a b) := by
  unfold renameS
  split
  · rename_i hc
    split
    · exact h
    · split
      · exact ⟨h.ls, h.ch⟩
      · exact okn_changed h _ ((named_ok hc).2 b (by simp))
  · exact h
theorem okn_sync {s : St} (h : Okn s) (nm : ByteArray) : Okn (syncS s nm) := by
  unfold syncS
  split
  · split
    · exact ⟨h.ls, h.ch⟩
    · exact ⟨h.ls, h.ch⟩
  · exact h
theorem okn_append {s : St} (h : Okn s) (nm : ByteArray) (bs : List UInt8) : Okn (appendS s nm bs) := by
  unfold appendS
  split
  · split
    · split
      · exact ⟨h.ls, h.ch⟩
      · exact ⟨h.ls, h.ch⟩
    · exact h
  · exact h
theorem okn_syncNames {s : St} {ids : List Nat} {n : Nat} (h : Okn s) (hI : Inv s ids n) : Okn (syncNamesS s) := by
  unfold syncNamesS
  split
  · exact h
  · split
    · exact ⟨h.ls, h.ch⟩
    · exact ⟨h.names hI, fun _ hc => nomatch hc⟩
theorem okn_crash {s : St} (h : Okn s) (names : Int) (data : List Int) : Okn (crashS s names data) := by
  refine ⟨?_, fun _ hc => nomatch hc⟩
  exact h.ls.replay fun c hc => h.ch c (List.mem_of_mem_take hc)
theorem okn_fuse {s : St} (h : Okn s) (k : Int) : Okn { s with fuse := k } := ⟨h.ls, h.ch⟩
end Go.Proofs.Ytijdgmbpkfmciaa.Fs
