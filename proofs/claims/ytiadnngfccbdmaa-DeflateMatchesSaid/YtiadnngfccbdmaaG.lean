/- Deflate: Raw, head, Bytes, the stored block. -/
import Derived.Test.YtiadnngfccbdmaaF
namespace Go.Proofs.Ytiadnngfccbdmaa.Df
open Go.RowKit Go.Joins Go.Maps

/-- A slice value whose cells are these, wherever they lie. -/
def News (w : World) (v : Value) (xs : List Value) : Prop :=
  (v = .slice none 0 0 ∧ xs = []) ∨ ∃ k o c, v = .slice (some ⟨k, o, none⟩) xs.length c ∧ xs.length ≤ c ∧ k < w.heap.size ∧ ∀ j u, xs[j]? = some u → w.cell? ⟨k, o + j, none⟩ = some u
theorem News.frame {w w' : World} {v : Value} {xs : List Value} (h : News w v xs) (hs : w.heap.size ≤ w'.heap.size) (hb : ∀ b, v.ownBlock = some b → w'.heap[b]? = w.heap[b]?) : News w' v xs := by
  rcases h with h | ⟨k, o, c, rfl, hc, hk, h⟩
  · exact .inl h
  · exact .inr ⟨k, o, c, rfl, hc, by omega, fun j u hj => (World.cell?_of_block (a := ⟨k, o + j, none⟩) (hb k rfl)).trans (h j u hj)⟩
theorem News.len {w : World} {v : Value} {xs : List Value} (h : News w v xs) : ∃ a c, v = .slice a xs.length c := by
  rcases h with ⟨h, h2⟩ | ⟨k, o, c, h, _⟩
  · exact ⟨none, 0, by rw [h, h2]; rfl⟩
  · exact ⟨_, _, h⟩
theorem addr_add (k o j : Nat) : (⟨k, o, none⟩ : Addr).add j = ⟨k, o + j, none⟩ := by
  unfold Addr.add
  split
  · rename_i e; subst e; simp
  · rfl
theorem run_append_nil (w : World) (ty B n : Nat) (v : Value) (xs : List Value) (h : w.ownsRow B 5 1 v n xs) :
    (Builtin.append_ #[22, 22] ty #[v, .slice none 0 0]).run Try.prog w = .ok v w := by
  obtain ⟨i0, hi, hz0, hz1, hz2⟩ := info_parts info5
  rcases h.2 with ⟨e1, e2⟩ | ⟨g, cap, cur, e1, e2, e3, e4, _⟩
  · subst e1
    simp [Builtin.append_, run_underlying Try.underlying22, sizeOf, typeInfo, hi, Builtin.lenOf, Builtin.firstCells]
  · subst e1
    simp [Builtin.append_, run_underlying Try.underlying22, sizeOf, typeInfo, hi, Builtin.lenOf, Builtin.firstCells, loadCells, e4]
    simp [storeCells, Result.andThen, Sem.run_pure]
/-- At the operation, for the walk. -/
theorem wpList_append_news (w : World) {ops : Array Oper} {rest : List Oper} {o : Oper} {a : Act} {Q : Exit → Act → World → Prop} (hgd : o.guard = none) (s x : Operand)
    (ho : o.op = .call { callee := .builtin .append, args := #[s, x], argTypes := #[22, 22] }) (B : Nat) (v : Value) (n : Nat) (xs : List Value) (hs : a.eval s = v) (h : w.ownsRow B 5 1 v n xs)
    (u : Value) (news : List Value) (hx : a.eval x = u) (hu : News w u news) (h1 : ∀ u ∈ news, u.oneCell' = true) (h63 : n + news.length ≤ 1000000000000) (hB : B ≤ w.heap.size)
    (hK : ∀ v' w', w'.ownsRow B 5 1 v' (n + news.length) (xs ++ news) → w.grownBy w' v.ownBlock → (v'.ownBlock = v.ownBlock ∨ v'.ownBlock = some w.heap.size) → wpList Try.prog ops Q rest (a.put o.dst v') w') :
    wpList Try.prog ops Q (o :: rest) a w := by
  obtain ⟨i0, hi, hz0, hz1, hz2⟩ := info_parts info5
  refine wpList_plain hgd fun K hK' => ?_
  have key : ∃ v' w', (Builtin.append_ #[22, 22] o.type #[v, u]).run Try.prog w = .ok v' w' ∧ w'.ownsRow B 5 1 v' (n + news.length) (xs ++ news) ∧ w.grownBy w' v.ownBlock ∧ (v'.ownBlock = v.ownBlock ∨ v'.ownBlock = some w.heap.size) := by
    rcases hu with ⟨e1, e2⟩ | ⟨k, o', cap, e1, hcp, _, hcs⟩
    · subst e1 e2
      exact ⟨v, w, run_append_nil w o.type B n v xs h, by simpa using h, ⟨rfl, rfl, rfl, Nat.le_refl _, fun _ _ _ => rfl⟩, .inl rfl⟩
    · subst e1
      obtain ⟨v', w', r1, r2, r3, _, r5⟩ := run_append_own_at (P := Try.prog) w B 22 o.type 5 i0 (.int .u8 0) 1 1 Try.underlying22 hi hz0 hz1 hz2 rfl (by decide) v n xs h ⟨k, o', none⟩ news.length cap news (by omega) (fun j u hj => by rw [addr_add]; exact hcs j u hj) h1 (by unfold maxLen; omega) (by omega) hB
      exact ⟨v', w', r1, r2, r3, r5⟩
  obtain ⟨v', w', hr, h2, h3, h4⟩ := key
  unfold Oper.wp execOp
  simp only [ho, resolve, invoke, builtin, Sem.run_bind, Sem.run_pure, Result.andThen_ok, List.map_toArray, List.map_cons, List.map_nil, hs, hx, hr]
  exact hK' _ _ (hK v' w' h2 h3 h4)

set_option maxHeartbeats 2000000 in
set_option maxRecDepth 100000 in
theorem raw_any (p : Nat) (v : Value) (bs : List UInt8) (x n : Nat) (u : Value) (src : List UInt8) (hl : bs.length ≤ 100000000) (hls : src.length ≤ 100000000) (w : World) (h : Ws w p v bs x n)
    (hu : News w u (src.map byteV)) (hup : ∀ b, u.ownBlock = some b → b ≠ p ∧ v.ownBlock ≠ some b) :
    Calls Try.prog 99 #[.pointer (some ⟨p, 0, none⟩), u] w fun e w' => e = .returned (.tuple #[]) ∧ ∃ v', Ws w' p v' (alignBs bs x n ++ src) 0 0 ∧ On w w' p v v' := by
  have cA := align_any p v bs x n (by omega) w h
  have hlen := alignBs_len bs x n
  generalize alignBs bs x n = bs1 at hlen cA ⊢
  have CA := Lib.hid cA
  clear cA
  clear h
  go_enter Try.func99, Try.ntmps99
  go_wp2_with fail
  refine CA.out.mono ?_
  rintro e w1 ⟨rfl, v1, hW1, hO1⟩
  have hu1 : News w1 u (src.map byteV) := hu.frame hO1.turn.size fun b hb => by
    rcases hu with ⟨e, _⟩ | ⟨k, o, c, rfl, _, hk, _⟩
    · rw [e] at hb; simp [Value.ownBlock] at hb
    · have : k = b := by simpa [Value.ownBlock] using hb
      subst this
      exact hO1.turn.block k hk fun hm => by
        rcases List.mem_cons.1 hm with e | e
        · exact (hup k rfl).1 e
        · exact (hup k rfl).2 (by simpa using e)
  obtain ⟨c0, c1, c2, cz⟩ := wr_cells hW1.wr.cells
  have hrow := hW1.wr.row
  have hplt : p < w1.heap.size := (Array.getElem?_eq_some_iff.1 hW1.wr.cells).1
  have hpo : ∀ b, v1.ownBlock = some b → p < b := fun b hb => by have := (own_ge hrow b hb.symm).1; omega
  have HW1 := Lib.hid hW1
  have HO1 := Lib.hid hO1
  have HU := Lib.hid hu1
  clear hW1 hO1 hu hu1 CA hup
  go_wp2_with (first | (at_builtin; refine wpList_append_news _ rfl (.tmp 10) (.tmp 11) rfl (p + 1) v1 bs1.length (bs1.map byteV) rfl hrow u (src.map byteV) rfl HU.out (oneCell_bytes _) (by rw [List.length_map]; omega) (by omega) ?_; intro v2' w2 hown' hgrow hat'; obtain ⟨va, vl, vc, hvv⟩ := slice_of_row hown'; have hown := hvv ▸ hown'; have hat := hvv ▸ hat'; clear hown' hat'; subst hvv; have k2 : w2.heap[p]? = w1.heap[p]? := hgrow.block p hplt (fun e => absurd (hpo p e.symm) (by omega)); have c20 : w2.cell? ⟨p, 0, none⟩ = some v1 := (World.cell?_of_block (a := ⟨p, 0, none⟩) k2).trans c0; have z20 : w2.frozen? ⟨p, 0, none⟩ = false := (World.frozen?_of_block (a := ⟨p, 0, none⟩) k2).trans (cz 0); have K2 := Lib.hid k2; clear k2))
  refine bodyPost_end (v := .tuple #[]) (by simp [results, Try.results99]) rfl ?_
  have r1 := block_setCell (i := 0) (K2.out.trans HW1.out.wr.cells) (.slice va vl vc)
  have hlt2 : ∀ b, some b = (Value.slice va vl vc).ownBlock → p < b ∧ b < w2.heap.size := fun b hb => by have := own_ge hown b hb; omega
  refine ⟨rfl, .slice va vl vc, ⟨⟨r1, ?_⟩, by decide, by decide⟩, HO1.out.trans ⟨?_, ?_⟩⟩
  · rw [List.length_append, List.map_append]
    rw [List.length_map] at hown
    exact ownsRow_frame hown fun b hb => (turn_set w2 p 0 _).block b (hlt2 b hb).2 (by have := (hlt2 b hb).1; simp; omega)
  · exact ((Turn.of_grown hgrow).mono (fun b hb => List.mem_cons_of_mem _ hb)).trans ((turn_set w2 p 0 _).mono (fun b hb => by simp at hb; simp [hb]))
  · rcases hat with e | e
    · exact .inl e
    · exact .inr fun b hb => by rw [e] at hb; simp at hb; omega

set_option maxHeartbeats 2000000 in
set_option maxRecDepth 100000 in
/-- The head of the last block, at the very start. -/
theorem head_first (p : Nat) (v : Value) (w : World) (h : Ws w p v [] 0 0) :
    Calls Try.prog 91 #[.pointer (some ⟨p, 0, none⟩), .bool true, .int .u32 0] w fun e w' => e = .returned (.tuple #[]) ∧ ∃ v', Ws w' p v' [] 1 3 ∧ On w w' p v v' := by
  have CA := Lib.hid (put_ws p v [] 0 1 1 0 (by decide) (by decide) (by decide) w h)
  clear h
  go_enter Try.func91, Try.ntmps91
  go_wp2_with fail
  refine CA.out.mono ?_
  rintro e w1 ⟨rfl, v1, b1, x1, n1, hf, hW1, hO1⟩
  rw [flush_stop _ _ _ _ (by decide)] at hf
  simp only [Prod.mk.injEq] at hf
  obtain ⟨rfl, rfl, rfl⟩ := hf
  have CB := Lib.hid (put_ws p v1 [] _ 0 2 1 (by decide) (by decide) (by decide) w1 hW1)
  have HO1 := Lib.hid hO1
  clear hW1 hO1 CA
  go_wp2_with fail
  refine CB.out.mono ?_
  rintro e w2 ⟨rfl, v2, b2, x2, n2, hf, hW2, hO2⟩
  rw [flush_stop _ _ _ _ (by decide)] at hf
  simp only [Prod.mk.injEq] at hf
  obtain ⟨rfl, rfl, rfl⟩ := hf
  go_wp2_with fail
  refine bodyPost_end (v := .tuple #[]) (by simp [results, Try.results91]) rfl ?_
  exact ⟨rfl, v2, hW2, HO1.out.trans hO2⟩
end Go.Proofs.Ytiadnngfccbdmaa.Df
