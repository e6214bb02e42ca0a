/- The file system: the methods, by the invariant. -/
import Derived.Test.YtijdgmbpkfmciaaT
namespace Go.Proofs.Ytijdgmbpkfmciaa.Fs
open Go.RowKit Go.Maps Go.ChangeMaps Go.WideMaps Go.Joins Go.Sort

/-- A file system that stands at P, all of it new since w0. -/
structure Sys (P n : Nat) (w0 w : World) (g : Gh) (s : St) : Prop where
  p : g.p = P
  rep : Rep w g s
  inv : Inv s g.ids n
  bel : Below w0.heap.size w0 w
  new : ∀ b ∈ foot g, w0.heap.size ≤ b
structure Next (P n : Nat) (w0 w w' : World) (g g' : Gh) (s' : St) : Prop where
  sys : Sys P n w0 w' g' s'
  turn : Turn w w' (foot g)
  sub : ∀ b ∈ foot g', b ∈ foot g ∨ w.heap.size ≤ b
  ids : ∀ f ∈ g.ids, f ∈ g'.ids
/-- A block beside it. -/
def Free (w : World) (g : Gh) (b : Nat) : Prop := b < w.heap.size ∧ b ∉ foot g

theorem Next.free {P n : Nat} {w0 w w' : World} {g g' : Gh} {s' : St} (h : Next P n w0 w w' g g' s') {b : Nat} (hb : Free w g b) : Free w' g' b ∧ w'.heap[b]? = w.heap[b]? :=
  ⟨⟨Nat.lt_of_lt_of_le hb.1 h.turn.size, fun hm => (h.sub b hm).elim hb.2 (by have := hb.1; omega)⟩, h.turn.block b hb.1 hb.2⟩
theorem Sys.free_old {P n : Nat} {w0 w : World} {g : Gh} {s : St} (h : Sys P n w0 w g s) {b : Nat} (hb : b < w0.heap.size) : Free w g b :=
  ⟨Nat.lt_of_lt_of_le hb h.bel.size, fun hm => by have := h.new b hm; omega⟩
theorem Sys.below {P n : Nat} {w0 w w' : World} {g : Gh} {s : St} (h : Sys P n w0 w g s) (hb : Below w.heap.size w w') : Sys P n w0 w' g s :=
  ⟨h.p, h.rep.frame (fun b hm => hb.block b (h.rep.lt b hm)) hb.size, h.inv, h.bel.trans (hb.mono h.bel.size), h.new⟩
theorem Free.below {w w' : World} {g : Gh} {b : Nat} (h : Free w g b) (hb : Below w.heap.size w w') : Free w' g b := ⟨Nat.lt_of_lt_of_le h.1 hb.size, h.2⟩
/-- A new block is beside it. -/
theorem Sys.free_new {P n : Nat} {w0 w w' : World} {g : Gh} {s : St} (h : Sys P n w0 w g s) {b : Nat} (hb : w.heap.size ≤ b) (hl : b < w'.heap.size) : Free w' g b := ⟨hl, fun hm => by have := h.rep.lt b hm; omega⟩
theorem Sys.mono {P n m : Nat} {w0 w : World} {g : Gh} {s : St} (h : Sys P n w0 w g s) (hn : n ≤ m) : Sys P m w0 w g s :=
  ⟨h.p, h.rep, h.inv.mono (fun _ hf => hf) hn, h.bel, h.new⟩
/-- The blocks beside it turn. -/
theorem Sys.turn {P n : Nat} {w0 w w' : World} {g : Gh} {s : St} {F : List Nat} (h : Sys P n w0 w g s) (ht : Turn w w' F) (hF : ∀ b ∈ F, Free w g b ∧ w0.heap.size ≤ b ∨ w.heap.size ≤ b) : Sys P n w0 w' g s :=
  ⟨h.p, h.rep.turn ht (fun b hb => (hF b hb).imp (fun x => x.1.2) id), h.inv, h.bel.trans (ht.below h.bel.size (fun b hb => (hF b hb).elim (fun x => x.2) (fun x => Nat.le_trans h.bel.size x))), h.new⟩

theorem next_of {P n : Nat} {w0 w w' : World} {g : Gh} {s : St} {ids : List Nat} {s' : St} {m : Nat} (h : Sys P n w0 w g s) (hl : Left w w' g ids s') (hsub : ∀ f ∈ g.ids, f ∈ ids) (hi : Inv s' ids m) : ∃ g', Next P m w0 w w' g g' s' := by
  obtain ⟨g', h1, h2, h3, h4, h5⟩ := hl
  refine ⟨g', ⟨h1.trans h.p, h3, by rw [h2]; exact hi, h.bel.trans (h4.below h.bel.size h.new), fun b hb => ?_⟩, h4, h5, by rw [h2]; exact hsub⟩
  rcases h5 b hb with e | e
  · exact h.new b e
  · exact Nat.le_trans h.bel.size e

def createS (s : St) (nm : ByteArray) (f : Nat) : St := if namedE s.dead [nm] = 0 ∧ look s.names nm = 0 then changed (addFile s f) (.create nm f) else s

theorem sys_create {P n : Nat} {w0 w : World} {g : Gh} {s : St} (h : Sys P n w0 w g s) (hn : n ≤ 1000000) (nm : ByteArray) (hs : nm.size ≤ maxLen) :
    Calls Try.prog 10 #[.pointer (some ⟨P, 0, none⟩), .string nm] w fun e w' => e = .returned (.int .i64 (createE s nm)) ∧ ∃ f g', f ∉ g.ids ∧ f ∈ (if namedE s.dead [nm] = 0 ∧ look s.names nm = 0 then g'.ids else [f]) ∧ Next P (n + 1) w0 w w' g g' (createS s nm f) := by
  have hsz := h.inv.size
  have hcl := h.inv.cl
  have := create_any g s nm w h.rep h.inv.f0 h.inv.f1 (by unfold maxLen; omega) hs (by omega)
  rw [h.p] at this
  refine this.mono ?_
  rintro e w' ⟨rfl, f, hf, hl⟩
  refine ⟨rfl, f, ?_⟩
  have hfn : f ∉ g.ids := fun hm => by have := h.rep.lt f (mem_foot.2 (.inr (.inr (.inr (.inr (.inl hm)))))); omega
  unfold createS
  by_cases hc : namedE s.dead [nm] = 0 ∧ look s.names nm = 0
  · rw [if_pos hc] at hl
    simp only [if_pos hc]
    obtain ⟨g', h1, h2, h3, h4, h5⟩ := hl
    obtain ⟨g'', hN⟩ := next_of h ⟨g', h1, h2, h3, h4, h5⟩ (fun _ hm => List.mem_cons_of_mem _ hm) (inv_changed (inv_add h.inv f) (.create nm f) hs (List.mem_cons_self ..))
    refine ⟨g', hfn, by rw [h2]; exact List.mem_cons_self .., ⟨h1.trans h.p, h3, by rw [h2]; exact inv_changed (inv_add h.inv f) (.create nm f) hs (List.mem_cons_self ..), h.bel.trans (h4.below h.bel.size h.new), fun b hb => ?_⟩, h4, h5, by rw [h2]; exact fun _ hm => List.mem_cons_of_mem _ hm⟩
    rcases h5 b hb with e | e
    · exact h.new b e
    · exact Nat.le_trans h.bel.size e
  · rw [if_neg hc] at hl
    simp only [if_neg hc]
    obtain ⟨g', hN⟩ := next_of h hl (fun _ hm => hm) (h.inv.mono (fun _ hm => hm) (Nat.le_succ n))
    exact ⟨g', hfn, List.mem_singleton.2 rfl, hN⟩

theorem sys_remove {P n : Nat} {w0 w : World} {g : Gh} {s : St} (h : Sys P n w0 w g s) (hn : n ≤ 1000000) (nm : ByteArray) (hs : nm.size ≤ maxLen) :
    Calls Try.prog 18 #[.pointer (some ⟨P, 0, none⟩), .string nm] w fun e w' => e = .returned (.int .i64 (removeE s nm)) ∧ ∃ g', Next P (n + 1) w0 w w' g g' (removeS s nm) := by
  have hsz := h.inv.size
  have hcl := h.inv.cl
  have := remove_any g s nm w h.rep h.inv.f0 h.inv.f1 (by unfold maxLen; omega) hs (by omega)
  rw [h.p] at this
  refine this.mono ?_
  rintro e w' ⟨rfl, hl⟩
  refine ⟨rfl, next_of h hl (fun _ hm => hm) ?_⟩
  unfold removeS
  split
  · exact inv_changed h.inv (.remove nm) hs trivial
  · exact h.inv.mono (fun _ hm => hm) (Nat.le_succ n)

theorem sys_rename {P n : Nat} {w0 w : World} {g : Gh} {s : St} (h : Sys P n w0 w g s) (hn : n ≤ 1000000) (a b : ByteArray) (ha : a.size ≤ maxLen) (hb : b.size ≤ maxLen) :
    Calls Try.prog 17 #[.pointer (some ⟨P, 0, none⟩), .string a, .string b] w fun e w' => e = .returned (.int .i64 (renameE s a b)) ∧ ∃ g', Next P (n + 1) w0 w w' g g' (renameS s a b) := by
  have hsz := h.inv.size
  have hcl := h.inv.cl
  have := rename_any g s a b w h.rep h.inv.f0 h.inv.f1 (by unfold maxLen; omega) ha hb (by omega)
  rw [h.p] at this
  refine this.mono ?_
  rintro e w' ⟨rfl, hl⟩
  refine ⟨rfl, next_of h hl (fun _ hm => hm) ?_⟩
  unfold renameS
  split
  · split
    · exact h.inv.mono (fun _ hm => hm) (Nat.le_succ n)
    · rename_i hk
      split
      · exact (inv_burned h.inv).mono (fun _ hm => hm) (Nat.le_succ n)
      · exact inv_changed h.inv (.rename a b) ⟨ha, hb⟩ hk
  · exact h.inv.mono (fun _ hm => hm) (Nat.le_succ n)

theorem inv_sync {s : St} {ids : List Nat} {n : Nat} (h : Inv s ids n) (nm : ByteArray) : Inv (syncS s nm) ids n := by
  unfold syncS
  split
  · split
    · exact inv_burned h
    · exact inv_set (inv_burned h) _ _ (Nat.le_refl _) (h.fl _).2
  · exact h
theorem sys_sync {P n : Nat} {w0 w : World} {g : Gh} {s : St} (h : Sys P n w0 w g s) (nm : ByteArray) (hs : nm.size ≤ maxLen) :
    Calls Try.prog 20 #[.pointer (some ⟨P, 0, none⟩), .string nm] w fun e w' => e = .returned (.int .i64 (syncE s nm)) ∧ ∃ g', Next P n w0 w w' g g' (syncS s nm) := by
  have := sync_any g s nm w h.rep h.inv.names h.inv.f0 h.inv.f1 hs
  rw [h.p] at this
  refine this.mono ?_
  rintro e w' ⟨rfl, hl⟩
  exact ⟨rfl, next_of h hl (fun _ hm => hm) (inv_sync h.inv nm)⟩

theorem inv_syncNames {s : St} {ids : List Nat} {n : Nat} (h : Inv s ids n) : Inv (syncNamesS s) ids n := by
  unfold syncNamesS
  split
  · exact h
  · split
    · exact inv_burned h
    · exact ⟨rfl, h.tidy, fun k => (by show IdsD (replay s.names (([] : List Chg).take k)) ids; rw [List.take_nil]; exact h.names), (fun _ hh => nomatch hh), fun k => (by show Maps.size (replay s.names (([] : List Chg).take k)) ≤ n; rw [List.take_nil]; exact h.size), Nat.zero_le _, h.fl, h.q0, h.q1, burnF_lo h.f0, burnF_hi h.f1⟩
theorem sys_syncNames {P n : Nat} {w0 w : World} {g : Gh} {s : St} (h : Sys P n w0 w g s) :
    Calls Try.prog 21 #[.pointer (some ⟨P, 0, none⟩)] w fun e w' => e = .returned (.int .i64 (syncNamesE s)) ∧ ∃ g', Next P n w0 w w' g g' (syncNamesS s) := by
  have := syncNames_any g s w h.rep h.inv.f0 h.inv.f1
  rw [h.p] at this
  refine this.mono ?_
  rintro e w' ⟨rfl, hl⟩
  exact ⟨rfl, next_of h hl (fun _ hm => hm) (inv_syncNames h.inv)⟩

theorem sys_fuse {P n : Nat} {w0 w : World} {g : Gh} {s : St} (h : Sys P n w0 w g s) (k : Int) (hk : k < 9223372036854775808) :
    Calls Try.prog 22 #[.pointer (some ⟨P, 0, none⟩), .int .i64 k] w fun e w' => e = .returned (.tuple #[]) ∧ ∃ g', Next P n w0 w w' g g' { s with fuse := max k (-1) } := by
  have := fuse_any g s k w h.rep
  rw [h.p] at this
  refine this.mono ?_
  rintro e w' ⟨rfl, hl⟩
  have hi := h.inv
  exact ⟨rfl, next_of h hl (fun _ hm => hm) ⟨hi.nm, hi.td, hi.ids, hi.sm, hi.sz, hi.cl, hi.fl, hi.q0, hi.q1, (by show -1 ≤ max k (-1); omega), (by show max k (-1) < _; omega)⟩⟩

theorem inv_append {s : St} {ids : List Nat} {n : Nat} (h : Inv s ids n) (nm : ByteArray) (bs : List UInt8) : Inv (appendS s nm bs) ids n := by
  unfold appendS
  split
  · rename_i hE
    split
    · rename_i hq
      split
      · exact inv_burned h
      · obtain ⟨-, k1, -⟩ := ofE_zero hE
        have hh := (h.names.has_iff nm).2 k1
        have h1 := look_le_used h.tidy.isMap hh k1
        have hq1 := h.q1
        unfold fitsQ at hq
        have h2 := (h.fl (look s.names nm - 1)).1
        refine inv_set (inv_burned h) _ _ ?_ ?_
        · simp; omega
        · simp; omega
    · exact h
  · exact h
theorem sys_append {P n : Nat} {w0 w : World} {g : Gh} {s : St} (h : Sys P n w0 w g s) (hn : n ≤ 1000000) (nm : ByteArray) (hs : nm.size ≤ maxLen) (v : Value) (bs : List UInt8) (hbs : bs.length ≤ 9223372036854775807) (hv : News w v (bs.map byteV)) (hvl : bs ≠ [] → ∀ b ∈ blkOf v, Free w g b) :
    Calls Try.prog 11 #[.pointer (some ⟨P, 0, none⟩), .string nm, v] w fun e w' => e = .returned (.int .i64 (appendE s nm bs.length)) ∧ ∃ g', Next P n w0 w w' g g' (appendS s nm bs) := by
  have hu := used_bound h.inv hn
  have := append_any g s nm v bs w h.rep h.inv.names h.inv.f0 h.inv.f1 hs h.inv.q0 h.inv.q1 (by omega) (fun f => by have := (h.inv.fl f).2; omega) hbs hv hvl
  rw [h.p] at this
  refine this.mono ?_
  rintro e w' ⟨rfl, hl⟩
  exact ⟨rfl, next_of h hl (fun _ hm => hm) (inv_append h.inv nm bs)⟩

theorem cutUpto_fuse (data : List Int) (D : Dm) (L : List (List UInt8)) (s : St) : ∀ k, (cutUpto data D L s k).fuse = s.fuse ∧ (cutUpto data D L s k).dead = s.dead
  | 0 => ⟨rfl, rfl⟩
  | k + 1 => cutUpto_fuse data D L s k
theorem inv_crash {s : St} {ids : List Nat} {n : Nat} (h : Inv s ids n) (names : Int) (data : List Int) : Inv (crashS s names data) ids n := by
  have e : ∀ D L m, (cutUpto data D L { s with names := D } m).quota = s.quota := fun D L m => (cutUpto_names data D L _ m).2.2.2
  unfold crashS
  generalize hN : (min (max names 0) (s.changes.length : Int)).toNat = N
  simp only
  refine ⟨(cutUpto_names data _ _ _ _).1, replay_tidy h.td _, ?_, (fun _ hh => nomatch hh), ?_, Nat.zero_le _, ?_, (by rw [show ∀ a : St, a.quota = a.quota from fun _ => rfl]; simp only [e]; exact h.q0), (by simp only [e]; exact h.q1), (by show (-1 : Int) ≤ -1; omega), (by show (-1 : Int) < _; omega)⟩
  · intro k
    show IdsD (replay _ (([] : List Chg).take k)) ids
    rw [List.take_nil]
    exact h.ids N
  · intro k
    show Maps.size (replay _ (([] : List Chg).take k)) ≤ n
    rw [List.take_nil]
    exact h.sz N
  · intro f
    exact cutUpto_ok data _ _ { s with names := replay s.lasting (List.take N s.changes) } 16777216 h.fl _ f
theorem sys_crash {P n : Nat} {w0 w : World} {g : Gh} {s : St} (h : Sys P n w0 w g s) (hn : n ≤ 1000000) (names : Int) (dv : Value) (data : List Int) (hdv : News w dv (data.map intV)) (hdl : data ≠ [] → ∀ b ∈ blkOf dv, Free w g b) (hdn : data.length ≤ 9223372036854775807) :
    Calls Try.prog 12 #[.pointer (some ⟨P, 0, none⟩), .int .i64 names, dv] w fun e w' => e = .returned (.tuple #[]) ∧ ∃ g', Next P n w0 w w' g g' (crashS s names data) := by
  have hcl := h.inv.cl
  have := crash_any g s names dv data w h.rep (by omega) h.inv.sm (fun k => by have := h.inv.sz k; omega) h.inv.ids (fun f => (h.inv.fl f).1) (fun f => by have := (h.inv.fl f).2; omega) hdv hdl hdn
  rw [h.p] at this
  refine this.mono ?_
  rintro e w' ⟨rfl, hl⟩
  exact ⟨rfl, next_of h hl (fun _ hm => hm) (inv_crash h.inv names data)⟩

theorem sys_list {P n : Nat} {w0 w : World} {g : Gh} {s : St} (h : Sys P n w0 w g s) (hn : n ≤ 1000000) (p : ByteArray) :
    Calls Try.prog 13 #[.pointer (some ⟨P, 0, none⟩), .string p] w fun e w' => ∃ v, e = .returned v ∧ Row w' 9 v ((listed s p).map encStr) ∧ (∀ b ∈ blkOf v, w.heap.size ≤ b) ∧ Below w.heap.size w w' := by
  have hsz := h.inv.size
  have := list_any g s p w h.rep (by omega) (by rw [keysOf_len (strMap_of_owns h.rep.nm)]; omega)
  rwa [h.p] at this
theorem sys_read {P n : Nat} {w0 w : World} {g : Gh} {s : St} (h : Sys P n w0 w g s) (nm : ByteArray) (hs : nm.size ≤ maxLen) :
    Calls Try.prog 14 #[.pointer (some ⟨P, 0, none⟩), .string nm] w fun e w' => ∃ v, e = .returned (.tuple #[v, .int .i64 (ofE s nm)]) ∧ Row w' 5 v ((readL s nm).map byteV) ∧ (∀ b ∈ blkOf v, w.heap.size ≤ b) ∧ Below w.heap.size w w' := by
  have := read_any g s nm w h.rep h.inv.names hs (fun f => by have := (h.inv.fl f).2; omega)
  rwa [h.p] at this
theorem sys_used {P n : Nat} {w0 w : World} {g : Gh} {s : St} (h : Sys P n w0 w g s) (hn : n ≤ 1000000) :
    Calls Try.prog 16 #[.pointer (some ⟨P, 0, none⟩)] w fun e w' => e = .returned (.int .i64 (used s : Nat)) ∧ Below w.heap.size w w' := by
  have hu := used_bound h.inv hn
  have := used_any g s w h.rep h.inv.names (by omega)
  rwa [h.p] at this
theorem sys_dead {P n : Nat} {w0 w : World} {g : Gh} {s : St} (h : Sys P n w0 w g s) :
    Calls Try.prog 23 #[.pointer (some ⟨P, 0, none⟩)] w fun e w' => e = .returned (.bool s.dead) ∧ w' = w := by
  have := dead_any g s w h.rep
  rwa [h.p] at this
theorem sys_new (q : Int) (w0 w : World) (h0 : 0 ≤ q) (h1 : q ≤ 16777216) (hb : Below w0.heap.size w0 w) :
    Calls Try.prog 9 #[.int .i64 q] w fun e w' => ∃ P g, e = .returned (.tuple #[.pointer (some ⟨P, 0, none⟩), .int .i64 0]) ∧ g.ids = [] ∧ Sys P 0 w0 w' g (newS q) ∧ Turn w w' [] ∧ ∀ b ∈ foot g, w.heap.size ≤ b := by
  refine (new_any q w h0 h1).mono ?_
  rintro e w' ⟨g, rfl, hi, hr, ht, hf⟩
  exact ⟨g.p, g, rfl, hi, ⟨rfl, hr, inv_new h0 h1 _ _, hb.trans (ht.below hb.size (fun b hb => by cases hb)), fun b hm => Nat.le_trans hb.size (hf b hm)⟩, ht, hf⟩
end Go.Proofs.Ytijdgmbpkfmciaa.Fs
