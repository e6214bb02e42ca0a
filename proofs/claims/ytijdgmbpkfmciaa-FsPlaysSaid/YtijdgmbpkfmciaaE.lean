/- The file system: 'change' walked. -/
import Derived.Test.YtijdgmbpkfmciaaD
namespace Go.Proofs.Ytijdgmbpkfmciaa.Fs
open Go.RowKit Go.Maps Go.ChangeMaps Go.WideMaps Go.Joins

theorem oneCell_chg (c : Chg) : ∀ u ∈ [chgV c], u.oneCell' = true := by
  intro u hu
  have : u = chgV c := by simpa using hu
  subst this
  cases c <;> rfl
theorem slice_of_row {w : World} {e : TypeId} {v : Value} {n : Nat} {xs : List Value} (h : w.ownsRow 0 e 1 v n xs) : ∃ a l c, v = .slice a l c := by
  rcases h.2 with ⟨h, _⟩ | ⟨g, cap, cur, h, _⟩
  · exact ⟨_, _, _, h⟩
  · exact ⟨_, _, _, h⟩
theorem frozen_grown {w2 w4 : World} {o : Obj} {p : Nat} {r : Option Nat} (hg : (w2.alloc o).grownBy w4 r) (hp : p < w2.heap.size) (hr : ∀ b, some b = r → b ≠ p) (hf : ∀ o, w2.frozen? ⟨p, o, none⟩ = false) : ∀ o, w4.frozen? ⟨p, o, none⟩ = false := fun o => by
  have e : w4.heap[p]? = w2.heap[p]? := by rw [hg.block p (by simp; omega) (fun e => hr p e rfl), Below.heap_alloc _ _ _ hp]
  exact (World.frozen?_of_block (a := ⟨p, o, none⟩) e).trans (hf o)
theorem cell_grown {w2 w4 : World} {o : Obj} {p i : Nat} {r : Option Nat} {u : Value} (hg : (w2.alloc o).grownBy w4 r) (hp : p < w2.heap.size) (hr : ∀ b, some b = r → b ≠ p) (hf : w2.cell? ⟨p, i, none⟩ = some u) : w4.cell? ⟨p, i, none⟩ = some u := by
  have e : w4.heap[p]? = w2.heap[p]? := by rw [hg.block p (by simp; omega) (fun e => hr p e rfl), Below.heap_alloc _ _ _ hp]
  exact (World.cell?_of_block (a := ⟨p, i, none⟩) e).trans hf
theorem Turn.drew (w : World) (F : List Nat) : Turn w w.drew F := ⟨rfl, rfl, rfl, Nat.le_refl _, fun _ _ _ => rfl⟩

set_option maxHeartbeats 1000000 in
set_option maxRecDepth 100000 in
theorem changeC (g : Gh) (s : St) (nm : ByteArray) (f : Nat) (w : World) (h : Rep w g s) (hf : -1 ≤ s.fuse) (hf2 : s.fuse < 9223372036854775808) (hn : Maps.size s.names < maxLen) (hs : small (.create nm f)) (hcl : s.changes.length ≤ 1000000000) :
    Calls Try.prog 33 #[.pointer (some ⟨g.p, 0, none⟩), .iface 68 (.agg #[.string nm, .pointer (some ⟨f, 0, none⟩)])] w fun e w' => e = .returned (.int .i64 (burnV s.fuse)) ∧ Left w w' g g.ids (changed s (.create nm f)) := by
  have cB := burn_any g.p _ _ _ _ s.fuse s.dead w h.cells hf hf2
  unfold changed
  by_cases hz : s.fuse = 0
  · rw [if_pos hz]
    have hbz : burnV s.fuse = 50 := by simp [burnV, hz]
    rw [hbz] at cB ⊢
    have hL := fun w' a b => left_dead (w' := w') h hz a b
    have HL := Lib.hid hL
    clear hL hbz
    go_enter Try.func33, Try.ntmps33
    go_wp2_with (first | (go_at_call 35; refine cB.mono ?_; rintro e w1 ⟨rfl, ht1, hc1⟩))
    go_ret
    exact ⟨rfl, HL.out _ ht1 hc1⟩
  · rw [if_neg hz]
    have hbz : burnV s.fuse = 0 := by simp [burnV, hz]
    rw [hbz] at cB ⊢
    have HR := Lib.hid h
    have lp := h.lt g.p (mem_foot.2 (.inl rfl))
    have lm := h.lt g.m (mem_foot.2 (.inr (.inl rfl)))
    have hpm : g.p ≠ g.m := by
      have hd := (List.nodup_append.1 h.apart).1
      unfold head at hd
      simp only [List.nodup_cons, List.mem_cons, not_or] at hd
      exact hd.1.1
    have hpc : ∀ b, some b = g.cv.ownBlock → b ≠ g.p := by
      intro b hb e
      have hd := (List.nodup_append.1 h.apart).1
      unfold head at hd
      simp only [List.nodup_cons, List.mem_cons, not_or] at hd
      refine hd.1.2.2 ?_
      unfold blkOf
      rw [← hb, e]
      simp
    have hch := h.ch
    have hcv : ∀ w' : World, (∀ b ∈ blkOf g.cv, w'.heap[b]? = w.heap[b]?) → w'.ownsRow 0 73 1 g.cv s.changes.length (s.changes.map chgV) := fun w' hb => ownsRow_frame hch hb
    have hcb : ∀ b ∈ blkOf g.cv, b ≠ g.p ∧ b ≠ g.m ∧ b < w.heap.size := fun b hb => by
      have hd := (List.nodup_append.1 h.apart).1
      unfold head at hd
      simp only [List.nodup_cons, List.mem_cons, not_or] at hd
      exact ⟨fun e => hd.1.2.2 (e ▸ hb), fun e => hd.2.1.2 (e ▸ hb), h.lt b (mem_foot.2 (.inr (.inr (.inr (.inl hb)))))⟩
    have hnm := h.nm
    clear hbz h hch
    obtain ⟨i0, hi, hz0, hz1, hz2⟩ := info_parts info73
    have hah := ahead68
    have hme := meth68
    go_enter Try.func33, Try.ntmps33
    go_wp2_with (first | (go_at_call 35; refine cB.mono ?_; rintro e w1 ⟨rfl, ht1, hc1⟩))
    obtain ⟨-, h1, -, h3, -, -, hfr⟩ := fs_cells hc1
    have hn1 : w1.drew.ownsMap Try.prog 9 ptrR g.m (Maps.size s.names) s.names := owns_frame (w' := w1.drew) hnm (ht1.block g.m lm (by simpa using fun e => hpm e.symm))
    have hz1' := ht1.size
    have HC := Lib.hid hc1
    clear hc1
    go_still_tail 8, (by kernel_rfl)
    change wpList _ _ _ _ _ w1.drew
    go_wp2_with fail
    refine (apply_any (.create nm f) g.m _ s.names w1.drew hn1 hn hs).mono ?_
    rintro e w2 ⟨rfl, ho2, ht2⟩
    have hz2' : w1.heap.size ≤ w2.heap.size := ht2.size
    have hc2 : w2.heap[g.p]? = w1.heap[g.p]? := ht2.block g.p (by show g.p < w1.heap.size; omega) (by simpa using hpm)
    rw [HC.out] at hc2
    obtain ⟨-, -, -, k3, -, -, kfr⟩ := fs_cells hc2
    have hrow2 := hcv w2 fun b hb => by
      obtain ⟨n1, n2, n3⟩ := hcb b hb
      rw [ht2.block b (by show b < w1.heap.size; omega) (by simpa using n2)]
      exact ht1.block b n3 (by simpa using n1)
    clear hc2 hfr h1 h3
    go_wp2_with (first | (at_builtin; refine wpList_append_own_at _ rfl (.tmp 24) (.tmp 26) 59 rfl 0 73 i0 .nilIface 1 16 Try.underlying59 hi hz0 hz1 hz2 rfl (by decide) g.cv s.changes.length (s.changes.map chgV) rfl (hrow2.alloc _) ⟨w2.heap.size, 0, none⟩ 1 1 [chgV (.create nm f)] rfl rfl (cell_one_new _ _ _) (oneCell_chg _) (by unfold maxLen; omega) (by omega) (Nat.zero_le _) ?_; intro v' w4 hown' hgrow hnil hloc; obtain ⟨va, vl, vc, rfl⟩ := slice_of_row hown'; have kf4 := frozen_grown hgrow (by omega) hpc kfr; have kc4 := cell_grown hgrow (by omega) hpc k3; clear hnil))
    go_ret
    exact ⟨rfl, left_changed HR.out hz ht1 HC.out ((Turn.drew w1 [g.m]).trans ht2 (fun b hb => .inl hb)) ho2 ((Below.refl _ _).alloc (Nat.le_refl _) _) hown' hgrow hloc⟩

set_option maxHeartbeats 1000000 in
set_option maxRecDepth 100000 in
theorem changeR (g : Gh) (s : St) (a b : ByteArray) (w : World) (h : Rep w g s) (hf : -1 ≤ s.fuse) (hf2 : s.fuse < 9223372036854775808) (hn : Maps.size s.names < maxLen) (hs : small (.rename a b)) (hcl : s.changes.length ≤ 1000000000) :
    Calls Try.prog 33 #[.pointer (some ⟨g.p, 0, none⟩), .iface 80 (.agg #[.string a, .string b])] w fun e w' => e = .returned (.int .i64 (burnV s.fuse)) ∧ Left w w' g g.ids (changed s (.rename a b)) := by
  have cB := burn_any g.p _ _ _ _ s.fuse s.dead w h.cells hf hf2
  unfold changed
  by_cases hz : s.fuse = 0
  · rw [if_pos hz]
    have hbz : burnV s.fuse = 50 := by simp [burnV, hz]
    rw [hbz] at cB ⊢
    have hL := fun w' a b => left_dead (w' := w') h hz a b
    have HL := Lib.hid hL
    clear hL hbz
    go_enter Try.func33, Try.ntmps33
    go_wp2_with (first | (go_at_call 35; refine cB.mono ?_; rintro e w1 ⟨rfl, ht1, hc1⟩))
    go_ret
    exact ⟨rfl, HL.out _ ht1 hc1⟩
  · rw [if_neg hz]
    have hbz : burnV s.fuse = 0 := by simp [burnV, hz]
    rw [hbz] at cB ⊢
    have HR := Lib.hid h
    have lp := h.lt g.p (mem_foot.2 (.inl rfl))
    have lm := h.lt g.m (mem_foot.2 (.inr (.inl rfl)))
    have hpm : g.p ≠ g.m := by
      have hd := (List.nodup_append.1 h.apart).1
      unfold head at hd
      simp only [List.nodup_cons, List.mem_cons, not_or] at hd
      exact hd.1.1
    have hpc : ∀ b, some b = g.cv.ownBlock → b ≠ g.p := by
      intro b hb e
      have hd := (List.nodup_append.1 h.apart).1
      unfold head at hd
      simp only [List.nodup_cons, List.mem_cons, not_or] at hd
      refine hd.1.2.2 ?_
      unfold blkOf
      rw [← hb, e]
      simp
    have hch := h.ch
    have hcv : ∀ w' : World, (∀ b ∈ blkOf g.cv, w'.heap[b]? = w.heap[b]?) → w'.ownsRow 0 73 1 g.cv s.changes.length (s.changes.map chgV) := fun w' hb => ownsRow_frame hch hb
    have hcb : ∀ b ∈ blkOf g.cv, b ≠ g.p ∧ b ≠ g.m ∧ b < w.heap.size := fun b hb => by
      have hd := (List.nodup_append.1 h.apart).1
      unfold head at hd
      simp only [List.nodup_cons, List.mem_cons, not_or] at hd
      exact ⟨fun e => hd.1.2.2 (e ▸ hb), fun e => hd.2.1.2 (e ▸ hb), h.lt b (mem_foot.2 (.inr (.inr (.inr (.inl hb)))))⟩
    have hnm := h.nm
    clear hbz h hch
    obtain ⟨i0, hi, hz0, hz1, hz2⟩ := info_parts info73
    have hah := ahead80
    have hme := meth80
    go_enter Try.func33, Try.ntmps33
    go_wp2_with (first | (go_at_call 35; refine cB.mono ?_; rintro e w1 ⟨rfl, ht1, hc1⟩))
    obtain ⟨-, h1, -, h3, -, -, hfr⟩ := fs_cells hc1
    have hn1 : w1.drew.ownsMap Try.prog 9 ptrR g.m (Maps.size s.names) s.names := owns_frame (w' := w1.drew) hnm (ht1.block g.m lm (by simpa using fun e => hpm e.symm))
    have hz1' := ht1.size
    have HC := Lib.hid hc1
    clear hc1
    go_still_tail 8, (by kernel_rfl)
    change wpList _ _ _ _ _ w1.drew
    go_wp2_with fail
    refine (apply_any (.rename a b) g.m _ s.names w1.drew hn1 hn hs).mono ?_
    rintro e w2 ⟨rfl, ho2, ht2⟩
    have hz2' : w1.heap.size ≤ w2.heap.size := ht2.size
    have hc2 : w2.heap[g.p]? = w1.heap[g.p]? := ht2.block g.p (by show g.p < w1.heap.size; omega) (by simpa using hpm)
    rw [HC.out] at hc2
    obtain ⟨-, -, -, k3, -, -, kfr⟩ := fs_cells hc2
    have hrow2 := hcv w2 fun b hb => by
      obtain ⟨n1, n2, n3⟩ := hcb b hb
      rw [ht2.block b (by show b < w1.heap.size; omega) (by simpa using n2)]
      exact ht1.block b n3 (by simpa using n1)
    clear hc2 hfr h1 h3
    go_wp2_with (first | (at_builtin; refine wpList_append_own_at _ rfl (.tmp 24) (.tmp 26) 59 rfl 0 73 i0 .nilIface 1 16 Try.underlying59 hi hz0 hz1 hz2 rfl (by decide) g.cv s.changes.length (s.changes.map chgV) rfl (hrow2.alloc _) ⟨w2.heap.size, 0, none⟩ 1 1 [chgV (.rename a b)] rfl rfl (cell_one_new _ _ _) (oneCell_chg _) (by unfold maxLen; omega) (by omega) (Nat.zero_le _) ?_; intro v' w4 hown' hgrow hnil hloc; obtain ⟨va, vl, vc, rfl⟩ := slice_of_row hown'; have kf4 := frozen_grown hgrow (by omega) hpc kfr; have kc4 := cell_grown hgrow (by omega) hpc k3; clear hnil))
    go_ret
    exact ⟨rfl, left_changed HR.out hz ht1 HC.out ((Turn.drew w1 [g.m]).trans ht2 (fun b hb => .inl hb)) ho2 ((Below.refl _ _).alloc (Nat.le_refl _) _) hown' hgrow hloc⟩

set_option maxHeartbeats 1000000 in
set_option maxRecDepth 100000 in
theorem changeD (g : Gh) (s : St) (a : ByteArray) (w : World) (h : Rep w g s) (hf : -1 ≤ s.fuse) (hf2 : s.fuse < 9223372036854775808) (hn : Maps.size s.names < maxLen) (hs : small (.remove a)) (hcl : s.changes.length ≤ 1000000000) :
    Calls Try.prog 33 #[.pointer (some ⟨g.p, 0, none⟩), .iface 82 (.agg #[.string a])] w fun e w' => e = .returned (.int .i64 (burnV s.fuse)) ∧ Left w w' g g.ids (changed s (.remove a)) := by
  have cB := burn_any g.p _ _ _ _ s.fuse s.dead w h.cells hf hf2
  unfold changed
  by_cases hz : s.fuse = 0
  · rw [if_pos hz]
    have hbz : burnV s.fuse = 50 := by simp [burnV, hz]
    rw [hbz] at cB ⊢
    have hL := fun w' a b => left_dead (w' := w') h hz a b
    have HL := Lib.hid hL
    clear hL hbz
    go_enter Try.func33, Try.ntmps33
    go_wp2_with (first | (go_at_call 35; refine cB.mono ?_; rintro e w1 ⟨rfl, ht1, hc1⟩))
    go_ret
    exact ⟨rfl, HL.out _ ht1 hc1⟩
  · rw [if_neg hz]
    have hbz : burnV s.fuse = 0 := by simp [burnV, hz]
    rw [hbz] at cB ⊢
    have HR := Lib.hid h
    have lp := h.lt g.p (mem_foot.2 (.inl rfl))
    have lm := h.lt g.m (mem_foot.2 (.inr (.inl rfl)))
    have hpm : g.p ≠ g.m := by
      have hd := (List.nodup_append.1 h.apart).1
      unfold head at hd
      simp only [List.nodup_cons, List.mem_cons, not_or] at hd
      exact hd.1.1
    have hpc : ∀ b, some b = g.cv.ownBlock → b ≠ g.p := by
      intro b hb e
      have hd := (List.nodup_append.1 h.apart).1
      unfold head at hd
      simp only [List.nodup_cons, List.mem_cons, not_or] at hd
      refine hd.1.2.2 ?_
      unfold blkOf
      rw [← hb, e]
      simp
    have hch := h.ch
    have hcv : ∀ w' : World, (∀ b ∈ blkOf g.cv, w'.heap[b]? = w.heap[b]?) → w'.ownsRow 0 73 1 g.cv s.changes.length (s.changes.map chgV) := fun w' hb => ownsRow_frame hch hb
    have hcb : ∀ b ∈ blkOf g.cv, b ≠ g.p ∧ b ≠ g.m ∧ b < w.heap.size := fun b hb => by
      have hd := (List.nodup_append.1 h.apart).1
      unfold head at hd
      simp only [List.nodup_cons, List.mem_cons, not_or] at hd
      exact ⟨fun e => hd.1.2.2 (e ▸ hb), fun e => hd.2.1.2 (e ▸ hb), h.lt b (mem_foot.2 (.inr (.inr (.inr (.inl hb)))))⟩
    have hnm := h.nm
    clear hbz h hch
    obtain ⟨i0, hi, hz0, hz1, hz2⟩ := info_parts info73
    have hah := ahead82
    have hme := meth82
    go_enter Try.func33, Try.ntmps33
    go_wp2_with (first | (go_at_call 35; refine cB.mono ?_; rintro e w1 ⟨rfl, ht1, hc1⟩))
    obtain ⟨-, h1, -, h3, -, -, hfr⟩ := fs_cells hc1
    have hn1 : w1.drew.ownsMap Try.prog 9 ptrR g.m (Maps.size s.names) s.names := owns_frame (w' := w1.drew) hnm (ht1.block g.m lm (by simpa using fun e => hpm e.symm))
    have hz1' := ht1.size
    have HC := Lib.hid hc1
    clear hc1
    go_still_tail 8, (by kernel_rfl)
    change wpList _ _ _ _ _ w1.drew
    go_wp2_with fail
    refine (apply_any (.remove a) g.m _ s.names w1.drew hn1 hn hs).mono ?_
    rintro e w2 ⟨rfl, ho2, ht2⟩
    have hz2' : w1.heap.size ≤ w2.heap.size := ht2.size
    have hc2 : w2.heap[g.p]? = w1.heap[g.p]? := ht2.block g.p (by show g.p < w1.heap.size; omega) (by simpa using hpm)
    rw [HC.out] at hc2
    obtain ⟨-, -, -, k3, -, -, kfr⟩ := fs_cells hc2
    have hrow2 := hcv w2 fun b hb => by
      obtain ⟨n1, n2, n3⟩ := hcb b hb
      rw [ht2.block b (by show b < w1.heap.size; omega) (by simpa using n2)]
      exact ht1.block b n3 (by simpa using n1)
    clear hc2 hfr h1 h3
    go_wp2_with (first | (at_builtin; refine wpList_append_own_at _ rfl (.tmp 24) (.tmp 26) 59 rfl 0 73 i0 .nilIface 1 16 Try.underlying59 hi hz0 hz1 hz2 rfl (by decide) g.cv s.changes.length (s.changes.map chgV) rfl (hrow2.alloc _) ⟨w2.heap.size, 0, none⟩ 1 1 [chgV (.remove a)] rfl rfl (cell_one_new _ _ _) (oneCell_chg _) (by unfold maxLen; omega) (by omega) (Nat.zero_le _) ?_; intro v' w4 hown' hgrow hnil hloc; obtain ⟨va, vl, vc, rfl⟩ := slice_of_row hown'; have kf4 := frozen_grown hgrow (by omega) hpc kfr; have kc4 := cell_grown hgrow (by omega) hpc k3; clear hnil))
    go_ret
    exact ⟨rfl, left_changed HR.out hz ht1 HC.out ((Turn.drew w1 [g.m]).trans ht2 (fun b hb => .inl hb)) ho2 ((Below.refl _ _).alloc (Nat.le_refl _) _) hown' hgrow hloc⟩

theorem change_any (c : Chg) (g : Gh) (s : St) (w : World) (h : Rep w g s) (hf : -1 ≤ s.fuse) (hf2 : s.fuse < 9223372036854775808) (hn : Maps.size s.names < maxLen) (hs : small c) (hcl : s.changes.length ≤ 1000000000) :
    Calls Try.prog 33 #[.pointer (some ⟨g.p, 0, none⟩), chgV c] w fun e w' => e = .returned (.int .i64 (burnV s.fuse)) ∧ Left w w' g g.ids (changed s c) := by
  cases c with
  | create nm f => exact changeC g s nm f w h hf hf2 hn hs hcl
  | rename a b => exact changeR g s a b w h hf hf2 hn hs hcl
  | remove a => exact changeD g s a w h hf hf2 hn hs hcl
end Go.Proofs.Ytijdgmbpkfmciaa.Fs
