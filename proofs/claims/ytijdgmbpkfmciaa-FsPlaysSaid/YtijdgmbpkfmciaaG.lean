/- The file system: Remove, Rename, Fuse, Dead, New. -/
import Derived.Test.YtijdgmbpkfmciaaF
namespace Go.Proofs.Ytijdgmbpkfmciaa.Fs
open Go.RowKit Go.Maps Go.ChangeMaps Go.WideMaps Go.Joins

def burned (s : St) : St := { s with fuse := burnF s.fuse, dead := s.dead || s.fuse == 0 }

/-- Behind the struct's own block alone. -/
theorem rep_own {w w' : World} {g : Gh} {s s' : St} (h : Rep w g s) (ht : Turn w w' [g.p]) (h1 : s'.names = s.names) (h2 : s'.lasting = s.lasting) (h3 : s'.changes = s.changes) (h4 : s'.files = s.files)
    (hc : w'.heap[g.p]? = some (.cells #[.int .i64 s'.quota, .map (some g.m), .map (some g.l), g.cv, .int .i64 s'.fuse, .bool s'.dead] 61 (0, 0))) : Rep w' g s' := by
  have hd : (head g).Nodup := (List.nodup_append.1 h.apart).1
  have hd0 := hd
  unfold head at hd
  simp only [List.nodup_cons, List.mem_cons, not_or] at hd
  have hne : ∀ b ∈ foot g, b ≠ g.p → w'.heap[b]? = w.heap[b]? := fun b hb hn => ht.block b (h.lt b hb) (by simpa using hn)
  have hq : ∀ b ∈ [g.p], b ∈ head g := fun b hb => by
    have e : b = g.p := by simpa using hb
    rw [e]; simp [head]
  refine (Rep.newhead (g' := g) (s' := s') h ht (fun b hb => .inl (hq b hb)) rfl rfl h4 hc ?_ ?_ ?_ hd0 (fun b hb => .inl hb)
    (fun b hb => Nat.lt_of_lt_of_le (h.lt b (List.mem_append.2 (.inl hb))) ht.size)).1
  · rw [h1]; exact owns_frame h.nm (hne g.m (mem_foot.2 (.inr (.inl rfl))) (fun e => hd.1.1 e.symm))
  · rw [h2]; exact owns_frame h.ls (hne g.l (mem_foot.2 (.inr (.inr (.inl rfl)))) (fun e => hd.1.2.1 e.symm))
  · rw [h3]; exact ownsRow_frame h.ch fun b hb => hne b (mem_foot.2 (.inr (.inr (.inr (.inl hb))))) (fun e => hd.1.2.2 (e ▸ hb))
theorem one_foot {g : Gh} : ∀ b ∈ [g.p], b ∈ foot g := fun b hb => by
  have e : b = g.p := by simpa using hb
  exact mem_foot.2 (.inl e)
theorem rep_burn {w w' : World} {g : Gh} {s : St} (h : Rep w g s) (ht : Turn w w' [g.p])
    (hc : w'.heap[g.p]? = some (.cells #[.int .i64 s.quota, .map (some g.m), .map (some g.l), g.cv, .int .i64 (burnF s.fuse), .bool (s.dead || s.fuse == 0)] 61 (0, 0))) : Rep w' g (burned s) :=
  rep_own h ht rfl rfl rfl rfl hc
theorem left_burn {w w' : World} {g : Gh} {s : St} (h : Rep w g s) (ht : Turn w w' [g.p])
    (hc : w'.heap[g.p]? = some (.cells #[.int .i64 s.quota, .map (some g.m), .map (some g.l), g.cv, .int .i64 (burnF s.fuse), .bool (s.dead || s.fuse == 0)] 61 (0, 0))) : Left w w' g g.ids (burned s) :=
  (rep_burn h ht hc).left (ht.mono fun b hb => .inl (one_foot b hb))

def removeE (s : St) (nm : ByteArray) : Int := if ofE s nm = 0 then burnV s.fuse else ofE s nm
def removeS (s : St) (nm : ByteArray) : St := if ofE s nm = 0 then changed s (.remove nm) else s

set_option maxHeartbeats 1000000 in
set_option maxRecDepth 100000 in
theorem remove_any (g : Gh) (s : St) (nm : ByteArray) (w : World) (h : Rep w g s) (hf : -1 ≤ s.fuse) (hf2 : s.fuse < 9223372036854775808) (hn : Maps.size s.names < maxLen) (hs : nm.size ≤ maxLen) (hcl : s.changes.length ≤ 1000000000) :
    Calls Try.prog 18 #[.pointer (some ⟨g.p, 0, none⟩), .string nm] w fun e w' => e = .returned (.int .i64 (removeE s nm)) ∧ Left w w' g g.ids (removeS s nm) := by
  have cO := of_any g s nm w h hs
  have hA := h.alloc (.cells #[.string nm] 9)
  have cC := change_any (.remove nm) g s _ hA hf hf2 hn hs hcl
  have HL := Lib.hid (fun ids s' w' => Left.of (w := w) (w1 := w.alloc (.cells #[.string nm] 9)) (w' := w') (g := g) (ids := ids) (s' := s') (g1 := g) rfl (Turn.alloc w _ _) (fun b hb => .inl hb))
  have HS := Lib.hid ((hA.left (Turn.alloc w _ _)))
  unfold removeE removeS
  generalize ofE s nm = E at cO ⊢
  generalize ofF s nm = F at cO
  clear h hA
  have CC := Lib.hid cC
  clear cC
  by_cases hE : E = 0
  · subst hE
    simp only [if_pos]
    go_enter Try.func18, Try.ntmps18
    go_wp2_with (first | (go_at_call 34; refine cO.mono ?_; rintro e w' ⟨rfl, rfl⟩) | (go_at_call 33; refine CC.out.mono ?_; rintro e w' ⟨rfl, hl⟩))
    go_ret
    exact ⟨rfl, HL.out _ _ _ hl⟩
  · have hE1 : (E == 0) = false := beq_eq_false_iff_ne.2 hE
    simp only [if_neg hE]
    go_enter Try.func18, Try.ntmps18
    go_wp2_with (first | (go_at_call 34; refine cO.mono ?_; rintro e w' ⟨rfl, rfl⟩))
    go_ret
    exact ⟨rfl, HS.out⟩

def renameE (s : St) (a b : ByteArray) : Int := if namedE s.dead [a, b] = 0 then (if look s.names a = 0 then 61 else burnV s.fuse) else namedE s.dead [a, b]
def renameS (s : St) (a b : ByteArray) : St := if namedE s.dead [a, b] = 0 then (if look s.names a = 0 then s else if a = b then burned s else changed s (.rename a b)) else s

set_option maxHeartbeats 1000000 in
set_option maxRecDepth 100000 in
theorem rename_any (g : Gh) (s : St) (a b : ByteArray) (w : World) (h : Rep w g s) (hf : -1 ≤ s.fuse) (hf2 : s.fuse < 9223372036854775808) (hn : Maps.size s.names < maxLen) (ha : a.size ≤ maxLen) (hb : b.size ≤ maxLen) (hcl : s.changes.length ≤ 1000000000) :
    Calls Try.prog 17 #[.pointer (some ⟨g.p, 0, none⟩), .string a, .string b] w fun e w' => e = .returned (.int .i64 (renameE s a b)) ∧ Left w w' g g.ids (renameS s a b) := by
  obtain ⟨-, h1, -, -, -, h5, hfr⟩ := fs_cells h.cells
  have hlt := h.lt g.p (mem_foot.2 (.inl rfl))
  have cN := named_any g.p w.heap.size s.dead [a, b] (w.alloc (.cells #[.string a, .string b] 9)) (by rw [World.cell?_of_block (Below.heap_alloc _ _ _ hlt)]; exact h5) (by simp) (by simp)
    (fun j hj => by
      rcases (show j = 0 ∨ j = 1 by simp at hj; omega) with rfl | rfl <;> simp [go_sem])
    (fun j hj => by
      rcases (show j = 0 ∨ j = 1 by simp at hj; omega) with rfl | rfl
      · exact ha
      · exact hb)
  have hA := h.alloc (.cells #[.string a, .string b] 9)
  have cC := change_any (.rename a b) g s _ hA hf hf2 hn ⟨ha, hb⟩ hcl
  have cB := burn_any g.p _ _ _ _ s.fuse s.dead _ hA.cells hf hf2
  have HL := Lib.hid (fun ids s' w' => Left.of (w := w) (w1 := w.alloc (.cells #[.string a, .string b] 9)) (w' := w') (g := g) (ids := ids) (s' := s') (g1 := g) rfl (Turn.alloc w _ _) (fun b hb => .inl hb))
  have HS := Lib.hid ((hA.left (Turn.alloc w _ _)))
  have HA := Lib.hid hA
  obtain ⟨hL, -⟩ := look_run hA.nm ha
  unfold renameE renameS
  simp only [List.length_cons, List.length_nil, Nat.zero_add] at cN
  have h1' : (w.alloc (.cells #[.string a, .string b] 9)).cell? ⟨g.p, 1, none⟩ = some (.map (some g.m)) := by rw [World.cell?_of_block (Below.heap_alloc _ _ _ hlt)]; exact h1
  have hk : ∃ K, K = look s.names a := ⟨_, rfl⟩
  obtain ⟨K, hK⟩ := hk
  rw [← hK] at hL ⊢
  clear hK h hA
  have CC := Lib.hid cC
  have CB := Lib.hid cB
  clear cC cB
  generalize namedE s.dead [a, b] = E at cN ⊢
  by_cases hE : E = 0
  · subst hE
    simp only [if_pos]
    cases K with
    | zero =>
      rw [show ptrV 0 = .pointer none from rfl] at hL
      simp only [if_pos]
      go_enter Try.func17, Try.ntmps17
      go_wp2_with (first | (go_at_call 32; refine cN.mono ?_; rintro e w' ⟨rfl, rfl⟩))
      go_ret
      exact ⟨rfl, HS.out⟩
    | succ K =>
      rw [show ptrV (K + 1) = .pointer (some ⟨K, 0, none⟩) from rfl] at hL
      simp only [Nat.add_one_ne_zero, if_false]
      by_cases hab : a = b
      · rw [if_pos hab]
        subst hab
        have e1 : (a.toList == a.toList) = true := beq_iff_eq.2 rfl
        go_enter Try.func17, Try.ntmps17
        go_wp2_with (first | (go_at_call 32; refine cN.mono ?_; rintro e w' ⟨rfl, rfl⟩) | (go_at_call 35; refine CB.out.mono ?_; rintro e w' ⟨rfl, ht, hc⟩))
        go_ret
        exact ⟨rfl, HL.out _ _ _ (left_burn HA.out ht hc)⟩
      · rw [if_neg hab]
        have e1 : (a.toList == b.toList) = false := by
          rw [beq_eq_false_iff_ne, Lib.toList_data, Lib.toList_data]
          intro e
          exact hab (ByteArray.ext (Array.toList_inj.1 e))
        go_enter Try.func17, Try.ntmps17
        go_wp2_with (first | (go_at_call 32; refine cN.mono ?_; rintro e w' ⟨rfl, rfl⟩) | (go_at_call 33; refine CC.out.mono ?_; rintro e w' ⟨rfl, hl⟩))
        go_ret
        exact ⟨rfl, HL.out _ _ _ hl⟩
  · have hE1 : (E == 0) = false := beq_eq_false_iff_ne.2 hE
    simp only [if_neg hE]
    go_enter Try.func17, Try.ntmps17
    go_wp2_with (first | (go_at_call 32; refine cN.mono ?_; rintro e w' ⟨rfl, rfl⟩))
    go_ret
    exact ⟨rfl, HS.out⟩

set_option maxHeartbeats 1000000 in
set_option maxRecDepth 100000 in
theorem fuse_any (g : Gh) (s : St) (k : Int) (w : World) (h : Rep w g s) :
    Calls Try.prog 22 #[.pointer (some ⟨g.p, 0, none⟩), .int .i64 k] w fun e w' => e = .returned (.tuple #[]) ∧ Left w w' g g.ids { s with fuse := max k (-1) } := by
  obtain ⟨-, -, -, -, h4, -, hfr⟩ := fs_cells h.cells
  have HR := Lib.hid h
  have HB := Lib.hid (block_setCell (i := 4) h.cells (.int .i64 (max k (-1))))
  clear h
  go_enter Try.func22, Try.ntmps22
  go_wp2
  refine bodyPost_end (v := .tuple #[]) (by simp [results, Try.results22]) rfl ⟨rfl, ?_⟩
  have ht := turn_set w g.p 4 (.int .i64 (max k (-1)))
  exact (rep_own (s' := { s with fuse := max k (-1) }) HR.out ht rfl rfl rfl rfl (by rw [HB.out]; rfl)).left (ht.mono fun b hb => .inl (one_foot b hb))

set_option maxHeartbeats 1000000 in
set_option maxRecDepth 100000 in
theorem dead_any (g : Gh) (s : St) (w : World) (h : Rep w g s) :
    Calls Try.prog 23 #[.pointer (some ⟨g.p, 0, none⟩)] w fun e w' => e = .returned (.bool s.dead) ∧ w' = w := by
  obtain ⟨-, -, -, -, -, h5, -⟩ := fs_cells h.cells
  clear h
  go_enter Try.func23, Try.ntmps23
  go_wp2
  go_ret
  exact ⟨rfl, rfl⟩

def newS (q : Int) : St := { quota := q, names := .map [], lasting := .map [], changes := [], files := fun _ => ([], 0), fuse := -1, dead := false }

set_option maxHeartbeats 1000000 in
set_option maxRecDepth 100000 in
theorem new_any (q : Int) (w : World) (h0 : 0 ≤ q) (h1 : q ≤ 16777216) :
    Calls Try.prog 9 #[.int .i64 q] w fun e w' => ∃ g, e = .returned (.tuple #[.pointer (some ⟨g.p, 0, none⟩), .int .i64 0]) ∧ g.ids = [] ∧ Rep w' g (newS q) ∧ Turn w w' [] ∧ ∀ b ∈ foot g, w.heap.size ≤ b := by
  have d1 : decide (q < 0) = false := decide_eq_false (by omega)
  have d2 : decide (16777216 < q) = false := decide_eq_false (by omega)
  have hmm := @run_makeMap Try.prog
  go_enter Try.func9, Try.ntmps9
  go_wp2
  go_ret2
  refine ⟨⟨w.heap.size + 1 + 1, w.heap.size, w.heap.size + 1, .slice none 0 0, [], fun _ => .slice none 0 0⟩, rfl, rfl, ?_, ?_, ?_⟩
  · have o1 := World.ownsMap_made (H := Unit) w Try.prog 9 ptrR
    have o2 := World.ownsMap_made (H := Unit) (w.alloc (.map #[] 0)) Try.prog 9 ptrR
    have z1 : (w.alloc (.map #[] 0)).heap.size = w.heap.size + 1 := by simp
    have z2 : ((w.alloc (.map #[] 0)).alloc (.map #[] 0)).heap.size = w.heap.size + 1 + 1 := by simp
    rw [z1] at o2
    refine ⟨?_, ((o1.alloc _).alloc _), o2.alloc _, ⟨rfl, .inl ⟨rfl, rfl⟩⟩, (fun f hf => by cases hf), ?_, ?_⟩
    · have := (MapKept.heap_alloc ((w.alloc (.map #[] 0)).alloc (.map #[] 0)) (.cells #[.int .i64 q, .map (some w.heap.size), .map (some (w.heap.size + 1)), .slice none 0 0, .int .i64 (-1), .bool false] 61)).1
      rw [z2] at this
      exact this
    · simp [foot, head, fps, blkOf, Value.ownBlock]; omega
    · intro b hb
      simp only [foot, head, fps, blkOf, Value.ownBlock, Option.toList, List.flatMap_nil, List.append_nil, List.mem_cons, List.not_mem_nil, or_false] at hb
      simp
      omega
  · exact ((Turn.alloc w _ []).trans (Turn.alloc _ _ []) (fun b hb => by cases hb)).trans (Turn.alloc _ _ []) (fun b hb => by cases hb)
  · intro b hb
    simp only [foot, head, fps, blkOf, Value.ownBlock, Option.toList, List.flatMap_nil, List.append_nil, List.mem_cons, List.not_mem_nil, or_false] at hb
    omega
end Go.Proofs.Ytijdgmbpkfmciaa.Fs
