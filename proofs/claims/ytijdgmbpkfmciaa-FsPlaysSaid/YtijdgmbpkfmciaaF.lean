/- The file system: Create, Remove, Rename. -/
import Derived.Test.YtijdgmbpkfmciaaE
namespace Go.Proofs.Ytijdgmbpkfmciaa.Fs
open Go.RowKit Go.Maps Go.ChangeMaps Go.WideMaps Go.Joins

/-- What stands before a call stands behind new blocks. -/
theorem Left.of {w w1 w' : World} {g g1 : Gh} {ids : List Nat} {s' : St} (hp : g1.p = g.p) (ht : Turn w w1 (foot g)) (hs : ∀ b ∈ foot g1, b ∈ foot g ∨ w.heap.size ≤ b) (hl : Left w1 w' g1 ids s') : Left w w' g ids s' := by
  obtain ⟨g', h1, h2, h3, h4, h5⟩ := hl
  refine ⟨g', h1.trans hp, h2, h3, ht.trans h4 hs, fun b hb => ?_⟩
  rcases h5 b hb with h | h
  · exact hs b h
  · exact .inr (Nat.le_trans ht.size h)
theorem Rep.alloc {w : World} {g : Gh} {s : St} (h : Rep w g s) (o : Obj) : Rep (w.alloc o) g s := h.turn (Turn.alloc w o []) (fun b hb => by cases hb)
theorem Rep.left {w w' : World} {g : Gh} {s : St} (h : Rep w' g s) (ht : Turn w w' (foot g)) : Left w w' g g.ids s := ⟨g, rfl, rfl, h, ht, fun _ hb => .inl hb⟩

def addFile (s : St) (f : Nat) : St := { s with files := fun k => if k = f then ([], 0) else s.files k }
def addGh (g : Gh) (f : Nat) : Gh := { g with ids := f :: g.ids, bv := fun k => if k = f then .slice none 0 0 else g.bv k }

theorem foot_add {w : World} {g : Gh} (hlt : ∀ b ∈ foot g, b < w.heap.size) : ∀ b, b ∈ foot (addGh g w.heap.size) ↔ b = w.heap.size ∨ b ∈ foot g := by
  intro b
  have hid : ∀ f ∈ g.ids, f ≠ w.heap.size := fun f hf e => by have := hlt f (mem_foot.2 (.inr (.inr (.inr (.inr (.inl hf)))))); omega
  rw [mem_foot, mem_foot]
  unfold addGh
  simp only [List.mem_cons]
  constructor
  · rintro (h | h | h | h | (h | h) | ⟨f, hf, h⟩)
    · exact .inr (.inl h)
    · exact .inr (.inr (.inl h))
    · exact .inr (.inr (.inr (.inl h)))
    · exact .inr (.inr (.inr (.inr (.inl h))))
    · exact .inl h
    · exact .inr (.inr (.inr (.inr (.inr (.inl h)))))
    · rcases hf with rfl | hf
      · rw [if_pos rfl] at h; simp [blkOf, Value.ownBlock] at h
      · rw [if_neg (hid f hf)] at h
        exact .inr (.inr (.inr (.inr (.inr (.inr ⟨f, hf, h⟩)))))
  · rintro (h | h | h | h | h | h | ⟨f, hf, h⟩)
    · exact .inr (.inr (.inr (.inr (.inl (.inl h)))))
    · exact .inl h
    · exact .inr (.inl h)
    · exact .inr (.inr (.inl h))
    · exact .inr (.inr (.inr (.inl h)))
    · exact .inr (.inr (.inr (.inr (.inl (.inr h)))))
    · exact .inr (.inr (.inr (.inr (.inr ⟨f, .inr hf, by rw [if_neg (hid f hf)]; exact h⟩))))

theorem Rep.add {w : World} {g : Gh} {s : St} (h : Rep w g s) : Rep (w.alloc (.cells #[.slice none 0 0, .int .i64 0] 66)) (addGh g w.heap.size) (addFile s w.heap.size) := by
  have h' := h.alloc (.cells #[.slice none 0 0, .int .i64 0] 66)
  have hid : ∀ f ∈ g.ids, f ≠ w.heap.size := fun f hf e => by have := h.lt f (mem_foot.2 (.inr (.inr (.inr (.inr (.inl hf)))))); omega
  have hfm : (g.ids.flatMap fun f => blkOf ((addGh g w.heap.size).bv f)) = g.ids.flatMap fun f => blkOf (g.bv f) := by
    have key : ∀ l : List Nat, (∀ f ∈ l, f ≠ w.heap.size) → (l.flatMap fun f => blkOf ((addGh g w.heap.size).bv f)) = l.flatMap fun f => blkOf (g.bv f) := by
      intro l
      induction l with
      | nil => intro _; rfl
      | cons a l ih =>
        intro hl
        rw [List.flatMap_cons, List.flatMap_cons, ih fun f hf => hl f (List.mem_cons_of_mem _ hf)]
        have : (addGh g w.heap.size).bv a = g.bv a := by simp [addGh, hl a (List.mem_cons_self ..)]
        rw [this]
    exact key _ hid
  refine ⟨h'.cells, h'.nm, h'.ls, h'.ch, ?_, ?_, ?_⟩
  · intro f hf
    have hf' : f = w.heap.size ∨ f ∈ g.ids := by simpa [addGh] using hf
    rcases hf' with rfl | hf'
    · refine ⟨?_, .inl ?_⟩
      · rw [(MapKept.heap_alloc w _).1]; simp [addGh, addFile]
      · simp [addGh, addFile]
    · have e1 : (addGh g w.heap.size).bv f = g.bv f := by simp [addGh, hid f hf']
      have e2 : (addFile s w.heap.size).files f = s.files f := by simp [addFile, hid f hf']
      rw [e1, e2]
      exact h'.fl f hf'
  · have hap := h.apart
    have hperm : (foot (addGh g w.heap.size)).Perm (w.heap.size :: foot g) := by
      have e0 : (addGh g w.heap.size).bv w.heap.size = .slice none 0 0 := by simp [addGh]
      have : foot (addGh g w.heap.size) = head g ++ (w.heap.size :: fps g) := by
        unfold foot fps
        rw [show (addGh g w.heap.size).ids = w.heap.size :: g.ids from rfl, List.flatMap_cons, e0, hfm]
        rfl
      rw [this]
      exact List.perm_middle
    exact hperm.nodup_iff.2 (List.nodup_cons.2 ⟨fun hm => by have := h.lt _ hm; omega, hap⟩)
  · intro b hb
    rw [foot_add h.lt] at hb
    rcases hb with rfl | hb
    · simp
    · exact h'.lt b hb

def createE (s : St) (nm : ByteArray) : Int := if namedE s.dead [nm] = 0 then (if look s.names nm = 0 then burnV s.fuse else 64) else namedE s.dead [nm]

set_option maxHeartbeats 1000000 in
set_option maxRecDepth 100000 in
theorem create_any (g : Gh) (s : St) (nm : ByteArray) (w : World) (h : Rep w g s) (hf : -1 ≤ s.fuse) (hf2 : s.fuse < 9223372036854775808) (hn : Maps.size s.names < maxLen) (hs : nm.size ≤ maxLen) (hcl : s.changes.length ≤ 1000000000) :
    Calls Try.prog 10 #[.pointer (some ⟨g.p, 0, none⟩), .string nm] w fun e w' => e = .returned (.int .i64 (createE s nm)) ∧
      ∃ f, w.heap.size ≤ f ∧ (if namedE s.dead [nm] = 0 ∧ look s.names nm = 0 then Left w w' g (f :: g.ids) (changed (addFile s f) (.create nm f)) else Left w w' g g.ids s) := by
  obtain ⟨-, h1, -, -, -, h5, hfr⟩ := fs_cells h.cells
  have hlt := h.lt g.p (mem_foot.2 (.inl rfl))
  have cN := named_any g.p w.heap.size s.dead [nm] (w.alloc (.cells #[.string nm] 9)) (by rw [World.cell?_of_block (Below.heap_alloc _ _ _ hlt)]; exact h5) (by simp) (by simp)
    (fun j hj => by have : j = 0 := by simpa using hj
                    subst this; simp [go_sem]) (fun j hj => by have : j = 0 := by simpa using hj
                                                               subst this; exact hs)
  have hA := h.alloc (.cells #[.string nm] 9)
  have hC := hA.add
  have hsz : (w.alloc (.cells #[.string nm] 9)).heap.size = w.heap.size + 1 := by simp
  have cC := change_any (.create nm (w.alloc (.cells #[.string nm] 9)).heap.size) _ _ _ hC hf hf2 hn hs hcl
  have hft := foot_add hA.lt
  have HL := Lib.hid (fun ids s' w' => Left.of (w := w) (w1 := (w.alloc (.cells #[.string nm] 9)).alloc (.cells #[.slice none 0 0, .int .i64 0] 66)) (w' := w') (g := g) (ids := ids) (s' := s') (g1 := addGh g (w.alloc (.cells #[.string nm] 9)).heap.size) rfl
    ((Turn.alloc w _ _).trans (Turn.alloc _ _ (foot g)) (fun b hb => .inl hb))
    (fun b hb => by
      rcases (hft b).1 hb with e | e
      · exact .inr (by omega)
      · exact .inl e))
  have HS := Lib.hid ((hA.left (Turn.alloc w _ _)))
  obtain ⟨hL, -⟩ := look_run hA.nm hs
  unfold createE
  simp only [List.length_singleton] at cN
  have h1' : (w.alloc (.cells #[.string nm] 9)).cell? ⟨g.p, 1, none⟩ = some (.map (some g.m)) := by rw [World.cell?_of_block (Below.heap_alloc _ _ _ hlt)]; exact h1
  have hk : ∃ K, K = look s.names nm := ⟨_, rfl⟩
  obtain ⟨K, hK⟩ := hk
  rw [← hK] at hL ⊢
  clear hK h hA hC hft
  generalize namedE s.dead [nm] = E at cN ⊢
  by_cases hE : E = 0
  · subst hE
    simp only [if_pos, true_and]
    cases K with
    | zero =>
      rw [show ptrV 0 = .pointer none from rfl] at hL
      simp only [if_pos]
      simp only [hsz] at cC HL
      have cC' : Calls Try.prog 33 #[.pointer (some ⟨g.p, 0, none⟩), .iface 68 (.agg #[.string nm, .pointer (some ⟨w.heap.size + 1, 0, none⟩)])] ((w.alloc (.cells #[.string nm] 9)).alloc (.cells #[.slice none 0 0, .int .i64 0] 66)) _ := cC
      have CC := Lib.hid cC'
      clear cC cC' hsz
      go_enter Try.func10, Try.ntmps10
      go_wp2_with (first | (go_at_call 32; refine cN.mono ?_; rintro e w' ⟨rfl, rfl⟩) | (go_at_call 33; refine CC.out.mono ?_; rintro e w' ⟨rfl, hl⟩))
      go_ret
      exact ⟨rfl, w.heap.size + 1, Nat.le_succ _, HL.out _ _ _ hl⟩
    | succ K =>
      rw [show ptrV (K + 1) = .pointer (some ⟨K, 0, none⟩) from rfl] at hL
      rw [if_neg (by omega)]
      refine Calls.mono (R := fun e w' => e = .returned (.int .i64 64) ∧ w' = w.alloc (.cells #[.string nm] 9)) ?_ (fun e w' hh => ⟨hh.1, w.heap.size, Nat.le_refl _, by rw [if_neg (by omega), hh.2]; exact HS.out⟩)
      go_enter Try.func10, Try.ntmps10
      go_wp2_with (first | (go_at_call 32; refine cN.mono ?_; rintro e w' ⟨rfl, rfl⟩))
      go_ret
      exact ⟨rfl, rfl⟩
  · have hE1 : (E == 0) = false := beq_eq_false_iff_ne.2 hE
    simp only [if_neg hE]
    refine Calls.mono (R := fun e w' => e = .returned (.int .i64 E) ∧ w' = w.alloc (.cells #[.string nm] 9)) ?_ (fun e w' hh => ⟨hh.1, w.heap.size, Nat.le_refl _, by rw [if_neg (fun h => hE h.1), hh.2]; exact HS.out⟩)
    go_enter Try.func10, Try.ntmps10
    go_wp2_with (first | (go_at_call 32; refine cN.mono ?_; rintro e w' ⟨rfl, rfl⟩))
    go_ret
    exact ⟨rfl, rfl⟩
end Go.Proofs.Ytijdgmbpkfmciaa.Fs
