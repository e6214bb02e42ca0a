/- The file system: SyncNames. -/
import Derived.Test.YtijdgmbpkfmciaaK
namespace Go.Proofs.Ytijdgmbpkfmciaa.Fs
open Go.RowKit Go.Maps Go.ChangeMaps Go.WideMaps Go.Joins Go.Sort

theorem cloneM_any (m n : Nat) (D : Dm) (w : World) (h : w.ownsMap Try.prog 9 ptrR m n D) :
    Calls Try.prog 36 #[.map (some m)] w fun e w' => e = .returned (.map (some w.heap.size)) ∧ w'.ownsMap Try.prog 9 ptrR w.heap.size n D ∧ w'.ownsMap Try.prog 9 ptrR m n D ∧ Below w.heap.size w w' :=
  AnyW.maps_Clone_owns Try.clone36 9 ptrR m n D w h

def syncNamesE (s : St) : Int := if s.dead then 50 else burnV s.fuse
def syncNamesS (s : St) : St := if s.dead then s else if s.fuse = 0 then burned s else { burned s with lasting := s.names, changes := [] }

theorem set_other (w : World) {k p : Nat} (o : Nat) (v : Value) (h : k ≠ p) : (w.setCell ⟨p, o, none⟩ v).heap[k]? = w.heap[k]? := by
  unfold World.setCell
  simp only [Array.getElem?_modify]
  rw [if_neg (Ne.symm h)]
theorem left_synced {w w1 w2 : World} {g : Gh} {s : St} (h : Rep w1 g s) (ht : Turn w w1 (foot g)) (hz : w.heap.size ≤ w1.heap.size) (hl : w2.ownsMap Try.prog 9 ptrR w1.heap.size (Maps.size s.names) s.names) (hb : Below w1.heap.size w1 w2) :
    Left w ((w2.setCell ⟨g.p, 2, none⟩ (.map (some w1.heap.size))).setCell ⟨g.p, 3, none⟩ (.slice none 0 0)) g g.ids { s with lasting := s.names, changes := [] } := by
  have hd := (List.nodup_append.1 h.apart).1
  have hd0 := hd
  unfold head at hd
  simp only [List.nodup_cons, List.mem_cons, not_or] at hd
  obtain ⟨⟨d1, d2, d3⟩, ⟨d4, d5⟩, d6, d7⟩ := hd
  have lp := h.lt g.p (mem_foot.2 (.inl rfl))
  have lm := h.lt g.m (mem_foot.2 (.inr (.inl rfl)))
  have ht2 : Turn w1 ((w2.setCell ⟨g.p, 2, none⟩ (.map (some w1.heap.size))).setCell ⟨g.p, 3, none⟩ (.slice none 0 0)) [g.p] :=
    ((Turn.of_below hb [g.p]).trans (turn_set w2 g.p 2 _) (fun b hb => .inl hb)).trans (turn_set _ g.p 3 _) (fun b hb => .inl hb)
  have hc2 : w2.heap[g.p]? = _ := (hb.block g.p lp).trans h.cells
  have key := Rep.newhead (g' := { g with l := w1.heap.size, cv := .slice none 0 0 }) (s' := { s with lasting := s.names, changes := [] }) h ht2
    (fun b hb => .inl (by have : b = g.p := by simpa using hb
                          rw [this]; simp [head])) rfl rfl rfl
    (by rw [block_setCell (block_setCell hc2 _)]; rfl)
    (owns_frame h.nm (ht2.block g.m lm (by simpa using fun e => d1 e.symm)))
    (owns_frame hl (by
      have e1 := (World.ownsMap.lt hl)
      have n1 : w1.heap.size ≠ g.p := by omega
      rw [set_other _ 3 _ n1, set_other _ 2 _ n1]))
    ⟨rfl, .inl ⟨rfl, rfl⟩⟩
    (by
      show (g.p :: g.m :: w1.heap.size :: blkOf (.slice none 0 0)).Nodup
      simp only [List.nodup_cons, List.mem_cons, not_or, blkOf, Value.ownBlock, Option.toList, List.not_mem_nil, not_false_eq_true, and_true, List.nodup_nil]
      exact ⟨⟨d1, by omega⟩, by omega⟩)
    (by
      intro b hb
      simp only [head, List.mem_cons, blkOf, Value.ownBlock, Option.toList, List.not_mem_nil, or_false] at hb ⊢
      rcases hb with e | e | e
      · simp [e]
      · simp [e]
      · right; omega)
    (by
      intro b hb
      have e1 := (World.ownsMap.lt hl)
      have e2 := ht2.size
      have e3 := (turn_set (w2.setCell ⟨g.p, 2, none⟩ (.map (some w1.heap.size))) g.p 3 (.slice none 0 0)).size
      have e4 := (turn_set w2 g.p 2 (.map (some w1.heap.size))).size
      simp only [head, List.mem_cons, blkOf, Value.ownBlock, Option.toList, List.not_mem_nil, or_false] at hb
      rcases hb with e | e | e <;> omega)
  refine ⟨{ g with l := w1.heap.size, cv := .slice none 0 0 }, rfl, rfl, key.1, ht.trans (ht2.mono fun b hb => .inl (one_foot b hb)) (fun b hb => .inl hb), fun b hb => ?_⟩
  rcases key.2 b hb with e | e
  · exact .inl e
  · right; omega

set_option maxHeartbeats 1000000 in
set_option maxRecDepth 100000 in
theorem syncNames_any (g : Gh) (s : St) (w : World) (h : Rep w g s) (hf : -1 ≤ s.fuse) (hf2 : s.fuse < 9223372036854775808) :
    Calls Try.prog 21 #[.pointer (some ⟨g.p, 0, none⟩)] w fun e w' => e = .returned (.int .i64 (syncNamesE s)) ∧ Left w w' g g.ids (syncNamesS s) := by
  obtain ⟨-, -, -, -, -, h5, -⟩ := fs_cells h.cells
  have cB := burn_any g.p _ _ _ _ s.fuse s.dead w h.cells hf hf2
  have HR := Lib.hid h
  have CB := Lib.hid cB
  clear cB
  unfold syncNamesE syncNamesS
  obtain ⟨D, hD⟩ : ∃ D, s.dead = D := ⟨_, rfl⟩
  rw [hD] at h5 ⊢
  clear h
  cases D with
  | true =>
    rw [if_pos rfl, if_pos rfl]
    clear hD
    go_enter Try.func21, Try.ntmps21
    go_wp2
    go_ret
    exact ⟨rfl, HR.out.left (Turn.refl _ _)⟩
  | false =>
    rw [if_neg (by simp), if_neg (by simp)]
    clear hD
    by_cases hz : s.fuse = 0
    · rw [if_pos hz]
      have hbz : burnV s.fuse = 50 := by simp [burnV, hz]
      rw [hbz] at CB ⊢
      clear hbz
      go_enter Try.func21, Try.ntmps21
      go_wp2_with (first | (go_at_call 35; refine CB.out.mono ?_; rintro e w1 ⟨rfl, ht, hc⟩))
      go_ret
      exact ⟨rfl, left_burn HR.out ht hc⟩
    · rw [if_neg hz]
      have hbz : burnV s.fuse = 0 := by simp [burnV, hz]
      rw [hbz] at CB ⊢
      clear hbz
      go_enter Try.func21, Try.ntmps21
      go_wp2_with (first
        | (go_at_call 35; refine CB.out.mono ?_; rintro e w1 ⟨rfl, ht, hc⟩; have hb1 := rep_burn HR.out ht hc; obtain ⟨-, c1, c2, c3, -, -, cf⟩ := fs_cells hb1.cells; have cM := cloneM_any g.m _ _ w1 hb1.nm; have hlp := hb1.lt g.p (mem_foot.2 (.inl rfl)); have HB1 := Lib.hid hb1; have CM := Lib.hid cM; clear cM hb1 hc)
        | (go_at_call 36; refine CM.out.mono ?_; rintro e w2 ⟨rfl, hl, -, hb⟩; obtain ⟨-, d1, d2, d3, -, -, df⟩ := fs_cells ((hb.block g.p hlp).trans HB1.out.cells); have HLN := Lib.hid hl; clear hl))
      go_ret
      exact ⟨rfl, left_synced (s := burned s) HB1.out (ht.mono fun b hb => .inl (one_foot b hb)) ht.size HLN.out hb⟩
end Go.Proofs.Ytijdgmbpkfmciaa.Fs
