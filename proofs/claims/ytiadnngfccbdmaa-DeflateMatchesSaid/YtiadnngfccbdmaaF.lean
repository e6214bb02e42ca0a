/- Deflate: Align, Raw, head. -/
import Derived.Test.YtiadnngfccbdmaaE
namespace Go.Proofs.Ytiadnngfccbdmaa.Df
open Go.RowKit Go.Joins Go.Maps

/-- The writer goes on: its own box and row turn; the row may lie anew. -/
structure On (w w' : World) (p : Nat) (v v' : Value) : Prop where
  turn : Turn w w' (p :: v.ownBlock.toList)
  own : v'.ownBlock = v.ownBlock ∨ ∀ b, v'.ownBlock = some b → w.heap.size ≤ b
theorem On.trans {w w1 w2 : World} {p : Nat} {v v1 v2 : Value} (h : On w w1 p v v1) (h' : On w1 w2 p v1 v2) : On w w2 p v v2 := by
  have hs := h.turn.size
  refine ⟨⟨h'.turn.os.trans h.turn.os, h'.turn.tape.trans h.turn.tape, h'.turn.output.trans h.turn.output, Nat.le_trans hs h'.turn.size, fun q hq hF => ?_⟩, ?_⟩
  · refine (h'.turn.block q (by omega) fun hm => ?_).trans (h.turn.block q hq hF)
    rcases List.mem_cons.1 hm with e | e
    · exact hF (by rw [e]; simp)
    · rcases h.own with e2 | e2
      · exact hF (List.mem_cons_of_mem _ (e2 ▸ e))
      · have := e2 q (by simpa using e)
        omega
  · rcases h'.own with e | e
    · rcases h.own with e2 | e2
      · exact .inl (e.trans e2)
      · exact .inr fun b hb => e2 b (e ▸ hb)
    · exact .inr fun b hb => by have := e b hb; omega
theorem On.drewN {w : World} {p : Nat} {v : Value} (q : Nat) : On w (w.drewN q) p v v := ⟨Turn.drewN w q _, .inl rfl⟩
theorem On.refl {w : World} {p : Nat} {v : Value} : On w w p v v := ⟨Turn.refl w _, .inl rfl⟩
theorem On.below {w w' : World} {p : Nat} {v : Value} (h : Below w.heap.size w w') : On w w' p v v := ⟨Turn.of_below h _, .inl rfl⟩
/-- A writer in order. -/
structure Ws (w : World) (p : Nat) (v : Value) (bs : List UInt8) (x n : Nat) : Prop where
  wr : Wr w p v bs (x : Nat) (n : Nat)
  lt : x < 2 ^ n
  n8 : n < 8
theorem flush_ok (f : Nat) : ∀ (bs : List UInt8) (x m : Nat) (bs' : List UInt8) (x' m' : Nat), x < 2 ^ m → m < 8 * (f + 1) → flush f (bs, x, m) = (bs', x', m') → x' < 2 ^ m' ∧ m' < 8 ∧ bs'.length ≤ bs.length + f := by
  induction f with
  | zero =>
    intro bs x m bs' x' m' h1 h2 h
    simp only [flush, Prod.mk.injEq] at h
    obtain ⟨rfl, rfl, rfl⟩ := h
    exact ⟨h1, by omega, Nat.le_refl _⟩
  | succ f ih =>
    intro bs x m bs' x' m' h1 h2 h
    by_cases h8 : 8 ≤ m
    · rw [flush_go _ _ _ _ h8] at h
      have hx : x / 256 < 2 ^ (m - 8) := by
        rw [Nat.div_lt_iff_lt_mul (by decide)]
        rw [show (256 : Nat) = 2 ^ 8 from rfl, ← Nat.pow_add, Nat.sub_add_cancel h8]
        exact h1
      have := ih _ _ _ _ _ _ hx (by omega) h
      simp at this
      exact ⟨this.1, this.2.1, by omega⟩
    · rw [flush_stop _ _ _ _ h8] at h
      simp only [Prod.mk.injEq] at h
      obtain ⟨rfl, rfl, rfl⟩ := h
      exact ⟨h1, by omega, by omega⟩
/-- Put, packed. -/
theorem put_ws (p : Nat) (v : Value) (bs : List UInt8) (x u k n : Nat) (hu : u < 4294967296) (hk : k ≤ 32) (hl : bs.length ≤ 1000000000) (w : World) (h : Ws w p v bs x n) :
    Calls Try.prog 95 #[.pointer (some ⟨p, 0, none⟩), .int .u32 u, .int .i64 k] w fun e w' => e = .returned (.tuple #[]) ∧ ∃ v' bs' x' n' : _, flush 5 (bs, putWord x u k n, n + k) = (bs', x', n') ∧ Ws w' p v' bs' x' n' ∧ On w w' p v v' := by
  refine (put_any p v bs x u k n h.lt hu hk h.n8 hl w h.wr).mono ?_
  rintro e w' ⟨rfl, v', bs', x', n', hf, hw, ht, ho⟩
  have := flush_ok 5 _ _ _ _ _ _ (putWord_lt x u k n h.lt) (by have := h.n8; omega) hf
  exact ⟨rfl, v', bs', x', n', hf, ⟨hw, this.1, this.2.1⟩, ht, ho⟩
def alignBs (bs : List UInt8) (x n : Nat) : List UInt8 := if n = 0 then bs else bs ++ [low x]
theorem alignBs_len (bs : List UInt8) (x n : Nat) : (alignBs bs x n).length ≤ bs.length + 1 := by
  unfold alignBs
  split <;> simp

set_option maxHeartbeats 2000000 in
set_option maxRecDepth 100000 in
theorem align_any (p : Nat) (v : Value) (bs : List UInt8) (x n : Nat) (hl : bs.length ≤ 1000000000) (w : World) (h : Ws w p v bs x n) :
    Calls Try.prog 100 #[.pointer (some ⟨p, 0, none⟩)] w fun e w' => e = .returned (.tuple #[]) ∧ ∃ v', Ws w' p v' (alignBs bs x n) 0 0 ∧ On w w' p v v' := by
  obtain ⟨c0, c1, c2, cz⟩ := wr_cells h.wr.cells
  by_cases hn : n = 0
  · have s1 : ¬ (0 : Int) < (n : Int) := by omega
    have hx : x = 0 := by have := h.lt; rw [hn] at this; omega
    have e1 : alignBs bs x n = bs := by unfold alignBs; rw [if_pos hn]
    rw [e1]
    have H : Hid (Ws w p v bs 0 0) := Lib.hid (by rw [hx, hn] at h; exact h)
    clear h hn hx e1
    go_enter Try.func100, Try.ntmps100
    go_wp2_with fail
    refine bodyPost_end (v := .tuple #[]) (by simp [results, Try.results100]) rfl ?_
    exact ⟨rfl, v, H.out, On.refl⟩
  · have s1 : (0 : Int) < (n : Int) := by omega
    have hn8 := h.n8
    have hlt := h.lt
    have cP := put_ws p v bs x 0 (8 - n) n (by decide) (by omega) hl w h
    have e0 : ((8 - n : Nat) : Int) = 8 - (n : Int) := by omega
    rw [e0] at cP
    have hq : putWord x 0 (8 - n) n = x := by simp [putWord]
    have hx : x / 256 = 0 := Nat.div_eq_of_lt (Nat.lt_of_lt_of_le hlt (by rw [show (256 : Nat) = 2 ^ 8 from rfl]; exact Nat.pow_le_pow_right (by decide) (by omega)))
    have e1 : alignBs bs x n = bs ++ [low x] := by unfold alignBs; rw [if_neg hn]
    rw [hq, show n + (8 - n) = 8 by omega, flush_go _ _ _ _ (by decide), hx, flush_stop _ _ _ _ (by decide)] at cP
    rw [e1]
    have CP := Lib.hid cP
    have w1 : IntKind.i64.wrap (8 - (n : Int)) = 8 - (n : Int) := IntWalk.i64_in _ (by omega)
    clear cP h hn hx e1 hq e0 hlt
    go_enter Try.func100, Try.ntmps100
    go_wp2_with fail
    refine CP.out.mono ?_
    rintro e w' ⟨rfl, v', bs', x', n', hf, hw, ho⟩
    simp only [Prod.mk.injEq] at hf
    obtain ⟨rfl, rfl, rfl⟩ := hf
    go_wp2_with fail
    refine bodyPost_end (v := .tuple #[]) (by simp [results, Try.results100]) rfl ?_
    exact ⟨rfl, v', hw, ho⟩
end Go.Proofs.Ytiadnngfccbdmaa.Df
