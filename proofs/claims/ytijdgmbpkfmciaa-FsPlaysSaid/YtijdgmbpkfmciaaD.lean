/- The file system: 'change'. -/
import Derived.Test.YtijdgmbpkfmciaaC
import Derived.StillTailTactics
namespace Go.Proofs.Ytijdgmbpkfmciaa.Fs
open Go.RowKit Go.Maps Go.ChangeMaps Go.WideMaps Go.Joins

theorem ahead68 (v : Value) (w : World) : (nilAhead 252 68 v "stemma/fs.apply").run Try.prog w = .ok (some false) w := by kernel_rfl
theorem ahead80 (v : Value) (w : World) : (nilAhead 252 80 v "stemma/fs.apply").run Try.prog w = .ok (some false) w := by kernel_rfl
theorem ahead82 (v : Value) (w : World) : (nilAhead 252 82 v "stemma/fs.apply").run Try.prog w = .ok (some false) w := by kernel_rfl
theorem meth68 (v : Value) (w : World) : (method 252 68 v "stemma/fs.apply").run Try.prog w = .ok (105, v) w := by kernel_rfl
theorem meth80 (v : Value) (w : World) : (method 252 80 v "stemma/fs.apply").run Try.prog w = .ok (106, v) w := by kernel_rfl
theorem meth82 (v : Value) (w : World) : (method 252 82 v "stemma/fs.apply").run Try.prog w = .ok (107, v) w := by kernel_rfl

theorem info73 : (Try.prog.info? 73).map (fun i => (i.zero, i.size, i.bytes)) = some (some .nilIface, 1, 16) := by kernel_rfl

def changed (s : St) (c : Chg) : St :=
  if s.fuse = 0 then { s with fuse := 0, dead := true } else { s with names := app s.names c, changes := s.changes ++ [c], fuse := burnF s.fuse }

/-- What a method leaves. -/
def Left (w w' : World) (g : Gh) (ids : List Nat) (s' : St) : Prop :=
  ∃ g', g'.p = g.p ∧ g'.ids = ids ∧ Rep w' g' s' ∧ Turn w w' (foot g) ∧ ∀ b ∈ foot g', b ∈ foot g ∨ w.heap.size ≤ b

theorem blk_le (v : Value) : (blkOf v).Nodup := by unfold blkOf; cases v.ownBlock <;> simp

/-- Behind the fuse: dead. -/
theorem left_dead {w w' : World} {g : Gh} {s : St} (h : Rep w g s) (hz : s.fuse = 0) (ht : Turn w w' [g.p])
    (hc : w'.heap[g.p]? = some (.cells #[.int .i64 s.quota, .map (some g.m), .map (some g.l), g.cv, .int .i64 (burnF s.fuse), .bool (s.dead || s.fuse == 0)] 61 (0, 0))) :
    Left w w' g g.ids { s with fuse := 0, dead := true } := by
  have hp : g.p ∈ head g := by simp [head]
  have hd : (head g).Nodup := (List.nodup_append.1 h.apart).1
  unfold head at hd
  simp only [List.nodup_cons, List.mem_cons, not_or] at hd
  have hne : ∀ b ∈ foot g, b ≠ g.p → w'.heap[b]? = w.heap[b]? := fun b hb hn => ht.block b (h.lt b hb) (by simpa using hn)
  have hq : ∀ b ∈ [g.p], b ∈ head g := fun b hb => by
    have e : b = g.p := by simpa using hb
    rw [e]; exact hp
  have e : burnF s.fuse = 0 := by simp [burnF, hz]
  have e2 : (s.dead || s.fuse == 0) = true := by simp [hz]
  rw [e, e2] at hc
  refine ⟨g, rfl, rfl, ?_⟩
  have := Rep.newhead (g' := g) (s' := { s with fuse := 0, dead := true }) h ht (fun b hb => .inl (hq b hb)) rfl rfl rfl hc
    (owns_frame h.nm (hne g.m (mem_foot.2 (.inr (.inl rfl))) (fun e => hd.1.1 e.symm))) (owns_frame h.ls (hne g.l (mem_foot.2 (.inr (.inr (.inl rfl)))) (fun e => hd.1.2.1 e.symm)))
    (ownsRow_frame h.ch fun b hb => hne b (mem_foot.2 (.inr (.inr (.inr (.inl hb))))) (fun e => hd.1.2.2 (e ▸ hb))) (List.nodup_append.1 h.apart).1 (fun b hb => .inl hb)
    (fun b hb => Nat.lt_of_lt_of_le (h.lt b (by unfold foot; exact List.mem_append.2 (.inl hb))) ht.size)
  exact ⟨this.1, ht.mono (fun b hb => .inl (List.mem_append.2 (.inl (hq b hb)))), this.2⟩

/-- Behind the change: the names turned in their own map, the changes in their own row. -/
theorem left_changed {w w1 w2 w3 w4 : World} {g : Gh} {s : St} {c : Chg} {v' : Value} (h : Rep w g s) (hz : s.fuse ≠ 0) (ht : Turn w w1 [g.p])
    (hc : w1.heap[g.p]? = some (.cells #[.int .i64 s.quota, .map (some g.m), .map (some g.l), g.cv, .int .i64 (burnF s.fuse), .bool (s.dead || s.fuse == 0)] 61 (0, 0)))
    (ht2 : Turn w1 w2 [g.m]) (hn2 : w2.ownsMap Try.prog 9 ptrR g.m (Maps.size (app s.names c)) (app s.names c)) (hB : Below w2.heap.size w2 w3)
    (hrow : w4.ownsRow 0 73 1 v' (s.changes.length + 1) (s.changes.map chgV ++ [chgV c])) (hg : w3.grownBy w4 g.cv.ownBlock) (hloc : v'.ownBlock = g.cv.ownBlock ∨ v'.ownBlock = some w3.heap.size) :
    Left w (w4.setCell ⟨g.p, 3, none⟩ v') g g.ids { s with names := app s.names c, changes := s.changes ++ [c], fuse := burnF s.fuse } := by
  have hd : (head g).Nodup := (List.nodup_append.1 h.apart).1
  unfold head at hd
  simp only [List.nodup_cons, List.mem_cons, not_or] at hd
  obtain ⟨⟨d1, d2, d3⟩, ⟨d4, d5⟩, d6, d7⟩ := hd
  have lp := h.lt g.p (mem_foot.2 (.inl rfl))
  have lm := h.lt g.m (mem_foot.2 (.inr (.inl rfl)))
  have ll := h.lt g.l (mem_foot.2 (.inr (.inr (.inl rfl))))
  have z1 := ht.size
  have z2 := ht2.size
  have z3 := hB.size
  have z4 := hg.size
  have mb : ∀ b, some b = g.cv.ownBlock ↔ b ∈ blkOf g.cv := fun b => by unfold blkOf; cases g.cv.ownBlock <;> simp [eq_comm]
  have mb' : ∀ b, some b = v'.ownBlock ↔ b ∈ blkOf v' := fun b => by unfold blkOf; cases v'.ownBlock <;> simp [eq_comm]
  have hv : ∀ b ∈ blkOf v', b ∈ blkOf g.cv ∨ b = w3.heap.size := fun b hb => by
    rcases hloc with e | e
    · exact .inl ((mb b).1 (by rw [← e]; exact (mb' b).2 hb))
    · exact .inr (by have := (mb' b).2 hb; rw [e] at this; simpa using this)
  have hpv : g.p ∉ blkOf v' := fun hb => by
    rcases hv _ hb with e | e
    · exact d3 e
    · omega
  -- the blocks that stand
  have st : ∀ b, b < w.heap.size → b ≠ g.p → b ≠ g.m → b ∉ blkOf g.cv → (w4.setCell ⟨g.p, 3, none⟩ v').heap[b]? = w.heap[b]? := fun b hb n1 n2 n3 => by
    rw [(turn_set w4 g.p 3 v').block b (by omega) (by simpa using n1), hg.block b (by omega) (fun e => n3 ((mb b).1 e)), hB.block b (by omega), ht2.block b (by omega) (by simpa using n2), ht.block b hb (by simpa using n1)]
  have hT : Turn w (w4.setCell ⟨g.p, 3, none⟩ v') (g.p :: g.m :: blkOf g.cv) := by
    refine ⟨?_, ?_, ?_, ?_, ?_⟩
    · rw [(turn_set w4 g.p 3 v').os, hg.os, hB.os, ht2.os, ht.os]
    · rw [(turn_set w4 g.p 3 v').tape, hg.tape, hB.tape, ht2.tape, ht.tape]
    · rw [(turn_set w4 g.p 3 v').output, hg.output, hB.output, ht2.output, ht.output]
    · have := (turn_set w4 g.p 3 v').size; omega
    · intro k hk hF
      simp only [List.mem_cons, not_or] at hF
      exact st k hk hF.1 hF.2.1 hF.2.2
  have hc4 : w4.heap[g.p]? = some (.cells #[.int .i64 s.quota, .map (some g.m), .map (some g.l), g.cv, .int .i64 (burnF s.fuse), .bool (s.dead || s.fuse == 0)] 61 (0, 0)) := by
    rw [hg.block g.p (by omega) (fun e => d3 ((mb _).1 e)), hB.block g.p (by omega), ht2.block g.p (by omega) (by simpa using d1), hc]
  have hz2 : (s.fuse == 0) = false := beq_eq_false_iff_ne.2 hz
  refine ⟨{ g with cv := v' }, rfl, rfl, ?_⟩
  have key := Rep.newhead (g' := { g with cv := v' }) (s' := { s with names := app s.names c, changes := s.changes ++ [c], fuse := burnF s.fuse }) h hT
    (fun b hb => .inl (by simp only [head, List.mem_cons] at hb ⊢; rcases hb with e | e | e <;> simp [e])) rfl rfl rfl
    (by rw [block_setCell hc4]; simp [hz2])
    (owns_frame hn2 (by rw [(turn_set w4 g.p 3 v').block g.m (by omega) (by simpa using fun e => d1 e.symm), hg.block g.m (by omega) (fun e => d5 ((mb _).1 e)), hB.block g.m (by omega)]))
    (owns_frame h.ls (st g.l ll (fun e => d2 e.symm) (fun e => d4 e.symm) d6))
    (by
      have := ownsRow_frame (w' := w4.setCell ⟨g.p, 3, none⟩ v') hrow fun b hb => (by
        have hne : b ≠ g.p := fun e => hpv (e ▸ hb)
        unfold World.setCell
        simp only [Array.getElem?_modify]
        rw [if_neg (Ne.symm hne)])
      simpa using this)
    (by
      show (g.p :: g.m :: g.l :: blkOf v').Nodup
      simp only [List.nodup_cons, List.mem_cons, not_or]
      refine ⟨⟨d1, d2, hpv⟩, ⟨d4, ?_⟩, ?_, blk_le v'⟩
      · intro hb; rcases hv _ hb with e | e
        · exact d5 e
        · omega
      · intro hb; rcases hv _ hb with e | e
        · exact d6 e
        · omega)
    (by
      intro b hb
      simp only [head, List.mem_cons] at hb ⊢
      rcases hb with e | e | e | e
      · simp [e]
      · simp [e]
      · simp [e]
      · rcases hv _ e with e | e
        · simp [e]
        · right; omega)
    (by
      intro b hb
      simp only [head, List.mem_cons] at hb
      have z5 := (turn_set w4 g.p 3 v').size
      rcases hb with e | e | e | e
      · omega
      · omega
      · omega
      · have := hrow.2
        rcases this with ⟨e0, _⟩ | ⟨gg, cap, cur, e0, _, e2, _⟩
        · rw [e0] at e; simp [blkOf, Value.ownBlock] at e
        · rw [e0] at e
          have : b = gg := by simpa [blkOf, Value.ownBlock] using e
          subst this
          have := (Array.getElem?_eq_some_iff.1 e2).1
          omega)
  exact ⟨key.1, hT.mono (fun b hb => .inl (by
    simp only [List.mem_cons] at hb
    rcases hb with e | e | e
    · exact mem_foot.2 (.inl e)
    · exact mem_foot.2 (.inr (.inl e))
    · exact mem_foot.2 (.inr (.inr (.inr (.inl e)))))), key.2⟩
end Go.Proofs.Ytijdgmbpkfmciaa.Fs
