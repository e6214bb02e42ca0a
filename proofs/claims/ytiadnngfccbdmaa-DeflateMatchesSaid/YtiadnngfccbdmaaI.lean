/- Deflate: Bytes. -/
import Derived.Test.YtiadnngfccbdmaaH
namespace Go.Proofs.Ytiadnngfccbdmaa.Df
open Go.RowKit Go.Joins Go.Maps

theorem News.of_own {w : World} {B n : Nat} {v : Value} {xs : List Value} (h : w.ownsRow B 5 1 v n xs) : News w v xs := by
  have hB := own_ge h
  obtain ⟨h0, h⟩ := h
  have hn : xs.length = n := by omega
  rcases h with ⟨h1, h2⟩ | ⟨b, cap, cur, h1, h2, h3, h4, h5, h6, h7⟩
  · subst h1
    exact .inl ⟨rfl, List.eq_nil_of_length_eq_zero (by omega)⟩
  · subst h1
    refine .inr ⟨b, 0, cap, by rw [hn], by omega, (hB b rfl).2, fun j u hj => ?_⟩
    rw [← h7, List.getElem?_take] at hj
    rw [World.cell?]
    simp only [h3, Nat.zero_add]
    split at hj
    · simpa using hj
    · cases hj
theorem News.shut {w : World} {B n c : Nat} {a : Option Addr} {xs : List Value} (h : w.ownsRow B 5 1 (.slice a n c) n xs) : n ≤ c ∧ News w (.slice a n n) xs ∧ ∀ b, (Value.slice a n n).ownBlock = some b → B ≤ b := by
  have hB := own_ge h
  have hN := News.of_own h
  have hn : xs.length = n := by have := h.1; omega
  rcases h.2 with ⟨h1, h2⟩ | ⟨b, cap, cur, h1, h2, h3, h4, _⟩
  · cases h1
    exact ⟨Nat.le_refl _, hN, fun b hb => by simp [Value.ownBlock] at hb⟩
  · cases h1
    refine ⟨h4, ?_, fun b' hb => (hB b' (by rw [← hb]; rfl)).1⟩
    rcases hN with ⟨e, _⟩ | ⟨k, o, c', e, hc, hk, hcs⟩
    · cases e
    · cases e
      exact .inr ⟨b, 0, _, by rw [hn], by omega, hk, hcs⟩
theorem below_of_grown {w w' : World} (h : w.grownBy w' (Value.slice none 0 0).ownBlock) : Below (w.heap.size) w w' :=
  ⟨h.os, h.tape, h.output, h.size, fun k hk => h.block k hk (by simp [Value.ownBlock])⟩
/-- What a function hands back: a new slice of bytes. -/
def Gave (w : World) (bs : List UInt8) (e : Ending) (w' : World) : Prop :=
  ∃ u, e = .returned u ∧ News w' u (bs.map byteV) ∧ (∀ b, u.ownBlock = some b → w.heap.size ≤ b) ∧ Below w.heap.size w w'

set_option maxHeartbeats 4000000 in
set_option maxRecDepth 100000 in
theorem bytes_any (p : Nat) (v : Value) (bs : List UInt8) (x n : Nat) (hl : bs.length ≤ 100000000) (w : World) (h : Ws w p v bs x n) :
    Calls Try.prog 24 #[.pointer (some ⟨p, 0, none⟩)] w (Gave w (alignBs bs x n)) := by
  obtain ⟨c0, c1, c2, cz⟩ := wr_cells h.wr.cells
  have hN := News.of_own h.wr.row
  have hplt : p < w.heap.size := (Array.getElem?_eq_some_iff.1 h.wr.cells).1
  have HN := Lib.hid hN
  obtain ⟨va, vl, vc, hvv⟩ := slice_of_row h.wr.row
  have hnil := World.ownsRow_nil w w.heap.size 5 1
  by_cases hn : n = 0
  · have s1 : ¬ (0 : Int) < (n : Int) := by omega
    have e1 : alignBs bs x n = bs := by unfold alignBs; rw [if_pos hn]
    rw [e1]
    clear h hn e1 hN hvv
    go_enter Try.func24, Try.ntmps24
    go_wp2_with (first | (at_builtin; refine wpList_append_news _ rfl (.const (.slice none 0 0)) (.tmp 7) rfl w.heap.size (.slice none 0 0) 0 [] rfl hnil v (bs.map byteV) rfl HN.out (oneCell_bytes _) (by rw [List.length_map]; omega) (Nat.le_refl _) ?_; intro v2' w2 hown' hgrow hat'; rw [List.nil_append, List.length_map, Nat.zero_add] at hown'; obtain ⟨ua, ul, uc, hvv⟩ := slice_of_row hown'; have hown := hvv ▸ hown'; clear hown' hat'; subst hvv; have c22 : w2.cell? ⟨p, 2, none⟩ = some (.int .i64 (n : Nat)) := (World.cell?_of_block (a := ⟨p, 2, none⟩) (hgrow.block p hplt (by simp [Value.ownBlock]))).trans c2; obtain rfl := owned_len hown; obtain ⟨q1, q2, q3⟩ := News.shut hown; have q1' : (bs.length : Int) ≤ (uc : Int) := (by omega); have Q2 := Lib.hid q2; have Q3 := Lib.hid q3; have HG := Lib.hid hgrow; clear q2 q3 hgrow hown))
    go_ret
    exact ⟨_, rfl, Q2.out, Q3.out, below_of_grown HG.out⟩
  · have s1 : (0 : Int) < (n : Int) := by omega
    have e1 : alignBs bs x n = bs ++ [low x] := by unfold alignBs; rw [if_neg hn]
    rw [e1]
    obtain ⟨i0, hi, hz0, hz1, hz2⟩ := info_parts info5
    clear h hn e1 hN hvv
    go_enter Try.func24, Try.ntmps24
    go_wp2_with (first | (at_builtin; refine wpList_append_news _ rfl (.const (.slice none 0 0)) (.tmp 7) rfl w.heap.size (.slice none 0 0) 0 [] rfl hnil v (bs.map byteV) rfl HN.out (oneCell_bytes _) (by rw [List.length_map]; omega) (Nat.le_refl _) ?_; intro v2' w2 hown' hgrow hat'; rw [List.nil_append, List.length_map, Nat.zero_add] at hown'; obtain ⟨ua, ul, uc, hvv⟩ := slice_of_row hown'; have hown := hvv ▸ hown'; clear hown' hat'; subst hvv; have c21 : w2.cell? ⟨p, 1, none⟩ = some (.int .u64 (x : Nat)) := (World.cell?_of_block (a := ⟨p, 1, none⟩) (hgrow.block p hplt (by simp [Value.ownBlock]))).trans c1; have c22 : w2.cell? ⟨p, 2, none⟩ = some (.int .i64 (n : Nat)) := (World.cell?_of_block (a := ⟨p, 2, none⟩) (hgrow.block p hplt (by simp [Value.ownBlock]))).trans c2; obtain rfl := owned_len hown; have HG := Lib.hid hgrow; have OG : Hid (∀ k, some k = (Value.slice ua bs.length uc).ownBlock → w.heap.size ≤ k) := Lib.hid (fun k hk => (own_ge hown k hk).1); have HOWN := Lib.hid (ownsRow_alloc hown (.cells #[.int .u8 ((x : Int) % 256)] 5)); have HN2 := Lib.hid (World.news_of_block (heap_alloc_new w2 (.cells #[.int .u8 ((x : Int) % 256)] 5))); clear hgrow hown) | (at_builtin; refine wpList_append_own_at _ rfl (.tmp 14) (.tmp 20) 22 rfl w.heap.size 5 i0 (.int .u8 0) 1 1 Try.underlying22 hi hz0 hz1 hz2 rfl (by decide) _ _ _ rfl HOWN.out ⟨w2.heap.size, 0, none⟩ 1 1 [.int .u8 ((x : Int) % 256)] rfl rfl HN2.out (by simp [Value.oneCell']) (by unfold maxLen; omega) (by omega) (by have := HG.out.size; simp; omega) ?_; intro v3' w3 hown' hgrow hnl hat'; obtain ⟨ta, tl, tc, hvv⟩ := slice_of_row hown'; have hown := hvv ▸ hown'; clear hown' hat' hnl; subst hvv; obtain rfl := owned_len hown; obtain ⟨q1, q2, q3⟩ := News.shut hown; have q1' : (bs.length : Int) + 1 ≤ (tc : Int) := (by omega); have Q2 := Lib.hid q2; have Q3 := Lib.hid q3; have HG3 := Lib.hid hgrow; clear q2 q3 hgrow hown))
    go_ret
    have e2 : (bs ++ [low x]).map byteV = bs.map byteV ++ [.int .u8 ((x : Int) % 256)] := by
      rw [List.map_append]
      show _ ++ [byteV (low x)] = _
      rw [low_val, IntKind.wrap_u8]
    refine ⟨_, rfl, by rw [e2]; exact Q2.out, Q3.out, (below_of_grown HG.out).trans ?_⟩
    have hs := HG.out.size
    refine ((Below.refl w2.heap.size w2).alloc (Nat.le_refl _) (.cells #[.int .u8 ((x : Int) % 256)] 5)).mono hs |>.trans ?_
    refine ⟨HG3.out.os, HG3.out.tape, HG3.out.output, HG3.out.size, fun k hk => HG3.out.block k (by simp; omega) fun e => ?_⟩
    have := OG.out k e
    omega
end Go.Proofs.Ytiadnngfccbdmaa.Df
