/- The file system: bytes behind a file's, whatever its row. -/
import Derived.Test.YtijdgmbpkfmciaaN
namespace Go.Proofs.Ytijdgmbpkfmciaa.Fs
open Go.RowKit Go.Maps Go.ChangeMaps Go.WideMaps Go.Joins Go.Sort

theorem row_of_exact {w : World} {v : Value} {n : Nat} {xs : List Value} (h : w.ownsRow 0 5 1 v n xs) : Row w 5 v xs := by
  obtain ⟨h0, h⟩ := h
  have h0' : xs.length = n := by omega
  rcases h with ⟨h1, h2⟩ | ⟨g, cap, cur, h1, h2, h3, h4, h5, h6, h7⟩
  · exact .inl ⟨h1, List.eq_nil_of_length_eq_zero (by omega)⟩
  · exact .inr ⟨g, cap, cur, by rw [h1, h0'], h3, by omega, h5, by omega, .inl (by omega), by rw [h0']; simpa using h7⟩

theorem append_row (w : World) (ty : TypeId) (v : Value) (xs : List Value) (h : Row w 5 v xs) (a : Addr) (m c : Nat) (news : List Value) (hl : news.length = m) (hnews : ∀ j u, news[j]? = some u → w.cell? (a.add j) = some u)
    (h1 : ∀ u ∈ news, u.oneCell' = true) (h63 : xs.length + m ≤ 1000000000000) :
    ∃ v' w', (Builtin.append_ #[27, 27] ty #[v, .slice (some a) m c]).run Try.prog w = .ok v' w' ∧ Row w' 5 v' (xs ++ news) ∧ w.grownBy w' v.ownBlock ∧ (v'.ownBlock = v.ownBlock ∨ v'.ownBlock = some w.heap.size) := by
  obtain ⟨i0, hi, hz0, hz1, hz2⟩ := info_parts info5
  have exact_ : ∀ n, w.ownsRow 0 5 1 v n xs → ∃ v' w', (Builtin.append_ #[27, 27] ty #[v, .slice (some a) m c]).run Try.prog w = .ok v' w' ∧ Row w' 5 v' (xs ++ news) ∧ w.grownBy w' v.ownBlock ∧ (v'.ownBlock = v.ownBlock ∨ v'.ownBlock = some w.heap.size) := by
    intro n ho
    have hn : xs.length = n := by have := ho.1; omega
    obtain ⟨v', w', r1, r2, r3, _, r5⟩ := run_append_own_at (P := Try.prog) w 0 27 ty 5 i0 (.int .u8 0) 1 1 Try.underlying27 hi hz0 hz1 hz2 rfl (by decide) v n xs ho a m c news (by omega) hnews h1 (by unfold maxLen; omega) (by omega) (Nat.zero_le _)
    exact ⟨v', w', r1, row_of_exact r2, r3, r5⟩
  have hR := h
  rcases h with ⟨e1, e2⟩ | ⟨g, cap, cur, e1, e2, e3, e4, e5, e6, e7⟩
  · exact exact_ 0 ⟨by rw [e2]; rfl, .inl ⟨e1, rfl⟩⟩
  · rcases e6 with e6 | e6
    · exact exact_ xs.length ⟨by omega, .inr ⟨g, cap, cur, e1, Nat.zero_le _, e2, e3, e4, by omega, by simpa using e7⟩⟩
    · subst e1
      by_cases hm : m = 0
      · subst hm
        have hn : news = [] := List.eq_nil_of_length_eq_zero hl
        subst hn
        have hr := run_append_room (P := Try.prog) w 27 ty 5 i0 Try.underlying27 hi g xs.length cap cur e2 a 0 c [] (by simp) hnews h1 (by omega) (by simp [hz1]; omega)
        refine ⟨_, _, hr, .inr ⟨g, cap, _, by simp, setRow_heap w g cur _ 5 _ e2, by simpa using e3, e4, ?_, .inr (by simpa using e6), ?_⟩, ⟨rfl, rfl, rfl, by simp, fun k _ hk => setRow_other w g k _ (fun e => hk (by simp [Value.ownBlock, e]))⟩, Or.inl rfl⟩
        · simp [hz1]; omega
        · simp [hz1]
          simpa using e7
      · have holds := row_news (w' := w) hR rfl
        have hr := run_append_grow (P := Try.prog) w 27 ty 5 i0 (.int .u8 0) Try.underlying27 hi hz0 ⟨g, 0, none⟩ xs.length cap xs (by rw [hz1]; omega) holds a m c news (by rw [hz1]; omega) hnews (by omega) (by omega) (growslice_fits (by omega) (by rw [hz2]; omega))
        have hge := grownCap_ge w (xs.length + m) cap 5
        have hcm : grownCap w (xs.length + m) cap 5 ≤ maxLen := grownCap_le_maxLen w (xs.length + m) cap 5 (by unfold maxLen; omega)
        refine ⟨_, _, hr, .inr ⟨w.heap.size, _, _, by simp [hl], heap_alloc_new w.drew _, by simp [hl]; omega, hcm, ?_, .inl ?_, ?_⟩, ⟨rfl, rfl, rfl, by simp, fun k hk _ => Below.heap_alloc w.drew _ k hk⟩, Or.inr rfl⟩
        · have e : (Value.int .u8 0).cells.size = 1 := rfl
          simp only [Array.size_append, List.size_toArray, size_zeroCells, e, hl]; omega
        · have e : (Value.int .u8 0).cells.size = 1 := rfl
          simp only [Array.size_append, List.size_toArray, size_zeroCells, e, hl]; omega
        · simp only [Array.toList_append, List.append_assoc]
          rw [← List.append_assoc]
          exact List.take_left

theorem append_row_nil (w : World) (ty : TypeId) (v : Value) (xs : List Value) (h : Row w 5 v xs) :
    (Builtin.append_ #[27, 27] ty #[v, .slice none 0 0]).run Try.prog w = .ok v w := by
  obtain ⟨i0, hi, hz0, hz1, hz2⟩ := info_parts info5
  rcases h with ⟨e1, e2⟩ | ⟨g, cap, cur, e1, e2, e3, e4, e5, e6, e7⟩
  · subst e1
    simp [Builtin.append_, run_underlying Try.underlying27, sizeOf, typeInfo, hi, Builtin.lenOf, Builtin.firstCells]
  · subst e1
    simp [Builtin.append_, run_underlying Try.underlying27, sizeOf, typeInfo, hi, Builtin.lenOf, Builtin.firstCells, loadCells, e3]
    simp [storeCells, Result.andThen, Sem.run_pure]

/-- A slice value whose cells are these, wherever they lie. -/
def News (w : World) (v : Value) (xs : List Value) : Prop :=
  (v = .slice none 0 0 ∧ xs = []) ∨ ∃ a c, v = .slice (some a) xs.length c ∧ xs.length ≤ c ∧ ∀ j u, xs[j]? = some u → w.cell? (a.add j) = some u
theorem News.frame {w w' : World} {v : Value} {xs : List Value} (h : News w v xs) (hb : xs ≠ [] → ∀ b ∈ blkOf v, w'.heap[b]? = w.heap[b]?) : News w' v xs := by
  rcases h with h | ⟨a, c, rfl, hc, h⟩
  · exact .inl h
  · refine .inr ⟨a, c, rfl, hc, fun j u hj => ?_⟩
    have e : w'.heap[(a.add j).block]? = w.heap[(a.add j).block]? := by
      have e1 : (a.add j).block = a.block := by unfold Addr.add; split <;> rfl
      rw [e1]
      exact hb (by intro e; rw [e] at hj; simp at hj) a.block (by simp [blkOf, Value.ownBlock])
    exact (World.cell?_of_block e).trans (h j u hj)
theorem News.of_row {w : World} {v : Value} {xs : List Value} (h : Row w 5 v xs) : News w v xs := by
  have h0 := h
  rcases h with h | ⟨b, cap, cur, rfl, _, hc, _⟩
  · exact .inl h
  · exact .inr ⟨_, cap, rfl, hc, row_news h0 rfl⟩
theorem News.lt {w : World} {v : Value} {xs : List Value} (h : News w v xs) (hx : xs ≠ []) : ∀ b ∈ blkOf v, b < w.heap.size := by
  intro b hb
  rcases h with ⟨_, h⟩ | ⟨a, c, rfl, hc, h⟩
  · exact absurd h hx
  · have e : b = a.block := by simpa [blkOf, Value.ownBlock] using hb
    obtain ⟨y, ys, rfl⟩ := List.exists_cons_of_ne_nil hx
    have h0 := h 0 y rfl
    have := World.block_lt_of_cell? w _ h0
    rw [e]
    simpa [Addr.add] using this
theorem News.slice {w : World} {v : Value} {xs : List Value} (h : News w v xs) : ∃ a c, v = .slice a xs.length c := by
  rcases h with ⟨h, h2⟩ | ⟨a, c, h, _⟩
  · exact ⟨none, 0, by rw [h, h2]; rfl⟩
  · exact ⟨_, _, h⟩

/-- At the operation, for the walk. -/
theorem wpList_append_row (w : World) {ops : Array Oper} {rest : List Oper} {o : Oper} {a : Act} {Q : Exit → Act → World → Prop} (hgd : o.guard = none) (s x : Operand)
    (ho : o.op = .call { callee := .builtin .append, args := #[s, x], argTypes := #[27, 27] }) (v : Value) (xs : List Value) (hs : a.eval s = v) (h : Row w 5 v xs)
    (u : Value) (news : List Value) (hx : a.eval x = u) (hu : News w u news) (h1 : ∀ u ∈ news, u.oneCell' = true) (h63 : xs.length + news.length ≤ 1000000000000)
    (hK : ∀ v' w', Row w' 5 v' (xs ++ news) → w.grownBy w' v.ownBlock → (v'.ownBlock = v.ownBlock ∨ v'.ownBlock = some w.heap.size) → wpList Try.prog ops Q rest (a.put o.dst v') w') :
    wpList Try.prog ops Q (o :: rest) a w := by
  refine wpList_plain hgd fun K hK' => ?_
  have key : ∃ v' w', (Builtin.append_ #[27, 27] o.type #[v, u]).run Try.prog w = .ok v' w' ∧ Row w' 5 v' (xs ++ news) ∧ w.grownBy w' v.ownBlock ∧ (v'.ownBlock = v.ownBlock ∨ v'.ownBlock = some w.heap.size) := by
    rcases hu with ⟨e1, e2⟩ | ⟨a', cap, e1, hcp, hcs⟩
    · subst e1 e2
      exact ⟨v, w, append_row_nil w o.type v xs h, by simpa using h, ⟨rfl, rfl, rfl, Nat.le_refl _, fun _ _ _ => rfl⟩, .inl rfl⟩
    · subst e1
      exact append_row w o.type v xs h a' news.length cap news rfl hcs h1 h63
  obtain ⟨v', w', hr, h2, h3, h4⟩ := key
  unfold Oper.wp execOp
  simp only [ho, resolve, invoke, builtin, Sem.run_bind, Sem.run_pure, Result.andThen_ok, List.map_toArray, List.map_cons, List.map_nil, hs, hx, hr]
  exact hK' _ _ (hK v' w' h2 h3 h4)
end Go.Proofs.Ytijdgmbpkfmciaa.Fs
