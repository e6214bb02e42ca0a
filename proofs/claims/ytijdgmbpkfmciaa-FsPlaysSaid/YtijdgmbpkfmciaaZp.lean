/- The file system: the copy takes one more change; what Copy leaves. -/
import Derived.Test.YtijdgmbpkfmciaaZl
namespace Go.Proofs.Ytijdgmbpkfmciaa.Fs
open Go.RowKit Go.Maps Go.ChangeMaps Go.WideMaps Go.Joins Go.Sort

/-- A change and its like in the copy. -/
def TwC (T : List (Nat × Nat)) : Chg → Chg → Prop
  | .create a f, .create b y => a = b ∧ T.lookup f = some y
  | .rename a b, .rename c d => a = c ∧ b = d
  | .remove a, .remove b => a = b
  | _, _ => False
theorem TwC.more {T T2 : List (Nat × Nat)} (hT : ∀ z u, T.lookup z = some u → T2.lookup z = some u) {a b : Chg} (h : TwC T a b) : TwC T2 a b := by
  cases a <;> cases b <;> first | exact ⟨h.1, hT _ _ h.2⟩ | exact h

def TwL (T : List (Nat × Nat)) (l l' : List Chg) : Prop := l'.length = l.length ∧ ∀ (i : Nat) (a b : Chg), l[i]? = some a → l'[i]? = some b → TwC T a b
theorem TwL.snoc {T T2 : List (Nat × Nat)} {l l' : List Chg} (h : TwL T l l') (hT : ∀ z u, T.lookup z = some u → T2.lookup z = some u) {a b : Chg} (hab : TwC T2 a b) : TwL T2 (l ++ [a]) (l' ++ [b]) := by
  refine ⟨by simp [h.1], fun i x y hx hy => ?_⟩
  by_cases hi : i < l.length
  · rw [List.getElem?_append_left hi] at hx
    rw [List.getElem?_append_left (by rw [h.1]; exact hi)] at hy
    exact (h.2 i x y hx hy).more hT
  · rw [List.getElem?_append_right (by omega)] at hx
    rw [List.getElem?_append_right (by rw [h.1]; omega), h.1] at hy
    have e : i - l.length = 0 := by
      have := (List.getElem?_eq_some_iff.1 hx).1
      simp at this
      omega
    rw [e] at hx hy
    simp at hx hy
    subst hx hy
    exact hab
/-- Two maps tell the same names, each file by its twin. -/
def Like (T : List (Nat × Nat)) (D D' : Dm) : Prop := ∀ nm : ByteArray, Maps.has D' (kl nm) = Maps.has D (kl nm) ∧ (Maps.has D' (kl nm) = true → ∃ x y, look D nm = x + 1 ∧ look D' nm = y + 1 ∧ T.lookup x = some y)
def OkF (fl : Nat → List UInt8 × Nat) : Prop := ∀ f, (fl f).2 ≤ (fl f).1.length ∧ (fl f).1.length ≤ 16777216
/-- What Copy leaves. -/
def Copied (w : World) (g : Gh) (s : St) (e : Ending) (w' : World) : Prop :=
  ∃ g' s' tb t T, e = .returned (.pointer (some ⟨g'.p, 0, none⟩)) ∧ Cp w w' g s g' s' tb t T ∧ OkF s'.files ∧ Like T s.names s'.names ∧ Like T s.lasting s'.lasting ∧ TwL T s.changes s'.changes ∧ s'.quota = s.quota ∧ s'.fuse = s.fuse ∧ s'.dead = s.dead

theorem Cp.putChg {w0 w2 w4 : World} {g : Gh} {s : St} {g' : Gh} {s' : St} {tb t : Nat} {T : List (Nat × Nat)} (h : Cp w0 w2 g s g' s' tb t T) (c : Chg) {v' : Value} {o : Obj}
    (hrow : w4.ownsRow 0 73 1 v' (s'.changes.length + 1) (s'.changes.map chgV ++ [chgV c])) (hg : (w2.alloc o).grownBy w4 g'.cv.ownBlock) (hloc : v'.ownBlock = g'.cv.ownBlock ∨ v'.ownBlock = some (w2.alloc o).heap.size) :
    Cp w0 (w4.setCell ⟨g'.p, 3, none⟩ v') g s { g' with cv := v' } { s' with changes := s'.changes ++ [c] } tb t T := by
  have hR := h.rep'
  have hd : (Fs.head g').Nodup := (List.nodup_append.1 hR.apart).1
  unfold Fs.head at hd
  simp only [List.nodup_cons, List.mem_cons, not_or] at hd
  obtain ⟨⟨d1, d2, d3⟩, ⟨d4, d5⟩, d6, d7⟩ := hd
  have lp := hR.lt g'.p (mem_foot.2 (.inl rfl))
  have lm := hR.lt g'.m (mem_foot.2 (.inr (.inl rfl)))
  have ll := hR.lt g'.l (mem_foot.2 (.inr (.inr (.inl rfl))))
  have z3 : (w2.alloc o).heap.size = w2.heap.size + 1 := by simp
  have z4 := hg.size
  have mb : ∀ b, some b = g'.cv.ownBlock ↔ b ∈ blkOf g'.cv := fun b => by unfold blkOf; cases g'.cv.ownBlock <;> simp [eq_comm]
  have mb' : ∀ b, some b = v'.ownBlock ↔ b ∈ blkOf v' := fun b => by unfold blkOf; cases v'.ownBlock <;> simp [eq_comm]
  have hv : ∀ b ∈ blkOf v', b ∈ blkOf g'.cv ∨ b = (w2.alloc o).heap.size := fun b hb => by
    rcases hloc with e | e
    · exact .inl ((mb b).1 (by rw [← e]; exact (mb' b).2 hb))
    · exact .inr (by have := (mb' b).2 hb; rw [e] at this; simpa using this)
  have hpv : g'.p ∉ blkOf v' := fun hb => by
    rcases hv _ hb with e | e
    · exact d3 e
    · omega
  have st : ∀ b, b < w2.heap.size → b ≠ g'.p → b ∉ blkOf g'.cv → (w4.setCell ⟨g'.p, 3, none⟩ v').heap[b]? = w2.heap[b]? := fun b hb n1 n3 => by
    rw [(turn_set w4 g'.p 3 v').block b (by omega) (by simpa using n1), hg.block b (by omega) (fun e => n3 ((mb b).1 e)), Below.heap_alloc _ _ _ hb]
  have hT : Turn w2 (w4.setCell ⟨g'.p, 3, none⟩ v') (g'.p :: blkOf g'.cv) := by
    refine ⟨?_, ?_, ?_, ?_, ?_⟩
    · rw [(turn_set w4 g'.p 3 v').os, hg.os]; rfl
    · rw [(turn_set w4 g'.p 3 v').tape, hg.tape]; rfl
    · rw [(turn_set w4 g'.p 3 v').output, hg.output]; rfl
    · have := (turn_set w4 g'.p 3 v').size; omega
    · intro k hk hF
      simp only [List.mem_cons, not_or] at hF
      exact st k hk hF.1 hF.2
  have hc4 : w4.heap[g'.p]? = w2.heap[g'.p]? := by
    rw [hg.block g'.p (by omega) (fun e => d3 ((mb _).1 e)), Below.heap_alloc _ _ _ lp]
  rw [hR.cells] at hc4
  have key := Rep.newhead (g' := { g' with cv := v' }) (s' := { s' with changes := s'.changes ++ [c] }) hR hT
    (fun b hb => .inl (by simp only [Fs.head, List.mem_cons] at hb ⊢; rcases hb with e | e <;> simp [e])) rfl rfl rfl
    (by rw [block_setCell hc4]; rfl)
    (owns_frame hR.nm (st g'.m lm (fun e => d1 e.symm) d5))
    (owns_frame hR.ls (st g'.l ll (fun e => d2 e.symm) d6))
    (by
      have := ownsRow_frame (w' := w4.setCell ⟨g'.p, 3, none⟩ v') hrow fun b hb => (by
        have hne : b ≠ g'.p := fun e => hpv (e ▸ hb)
        unfold World.setCell
        simp only [Array.getElem?_modify]
        rw [if_neg (Ne.symm hne)])
      simpa using this)
    (by
      show (g'.p :: g'.m :: g'.l :: blkOf v').Nodup
      simp only [List.nodup_cons, List.mem_cons, not_or]
      refine ⟨⟨d1, d2, hpv⟩, ⟨d4, ?_⟩, ?_, blk_le v'⟩
      · intro hb; rcases hv _ hb with e | e
        · exact d5 e
        · omega
      · intro hb; rcases hv _ hb with e | e
        · exact d6 e
        · omega)
    (by
      intro b hb
      simp only [Fs.head, List.mem_cons] at hb ⊢
      rcases hb with e | e | e | e
      · simp [e]
      · simp [e]
      · simp [e]
      · rcases hv _ e with e | e
        · simp [e]
        · right; omega)
    (by
      intro b hb
      simp only [Fs.head, List.mem_cons] at hb
      have z5 := (turn_set w4 g'.p 3 v').size
      rcases hb with e | e | e | e
      · omega
      · omega
      · omega
      · have := hrow.2
        rcases this with ⟨e0, _⟩ | ⟨gg, cap, cur, e0, _, e2, _⟩
        · rw [e0] at e; simp [blkOf, Value.ownBlock] at e
        · rw [e0] at e
          have : b = gg := by simpa [blkOf, Value.ownBlock] using e
          subst this
          have := (Array.getElem?_eq_some_iff.1 e2).1
          omega)
  exact h.head hT (fun b hb => .inl (by
    simp only [List.mem_cons] at hb
    rcases hb with e | e
    · exact mem_foot.2 (.inl e)
    · exact mem_foot.2 (.inr (.inr (.inr (.inl e)))))) key.1 key.2 rfl rfl

/-- A change that made a file names one that is there. -/
theorem create_in {s : St} {ids : List Nat} {n : Nat} (h : Inv s ids n) {k : Nat} {nm : ByteArray} {f : Nat} (hk : s.changes[k]? = some (.create nm f)) : f ∈ ids := by
  have hl := (List.getElem?_eq_some_iff.1 hk).1
  have h1 := h.ids (k + 1)
  rw [replay_next _ _ _ hl, (List.getElem?_eq_some_iff.1 hk).2] at h1
  have hm : IsMap (replay s.lasting (s.changes.take k)) := (replay_tidy h.td _).isMap
  obtain ⟨f', hf', e⟩ := h1 nm (by show Maps.has (DataW.put _ _ _) _ = true; first | exact has_put_same hm (kl_isKey _) _ | simp [has_put_same])
  have e2 : look (app (replay s.lasting (s.changes.take k)) (.create nm f)) nm = f + 1 := look_put_same hm nm _
  rw [e2] at e
  have : f = f' := by omega
  rw [this]; exact hf'
end Go.Proofs.Ytijdgmbpkfmciaa.Fs
