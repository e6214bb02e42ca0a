/- Deflate: the writer of bits, as far as awake needs it. -/
import Derived.Test.YtiadnngfccbdmaaD
import Derived.Deep.AppendLies
import Derived.Deep.RegionLaw
namespace Go.Proofs.Ytiadnngfccbdmaa.Df
open Go.RowKit Go.Joins Go.Maps

theorem info5 : (Try.prog.info? 5).map (fun i => (i.zero, i.size, i.bytes)) = some (some (.int .u8 0), 1, 1) := by kernel_rfl
theorem oneCell_bytes (l : List UInt8) : ∀ u ∈ l.map byteV, u.oneCell' = true := by
  intro u hu
  obtain ⟨b, _, rfl⟩ := List.mem_map.1 hu
  rfl
/-- The writer's three cells, its row of bytes. -/
structure Wr (w : World) (p : Nat) (v : Value) (bs : List UInt8) (word n : Int) : Prop where
  cells : w.heap[p]? = some (.cells #[v, .int .u64 word, .int .i64 n] 68 (0, 0))
  row : w.ownsRow (p + 1) 5 1 v bs.length (bs.map byteV)
theorem wr_cells {w : World} {p t : Nat} {a0 a1 a2 : Value} (h : w.heap[p]? = some (.cells #[a0, a1, a2] t (0, 0))) :
    w.cell? ⟨p, 0, none⟩ = some a0 ∧ w.cell? ⟨p, 1, none⟩ = some a1 ∧ w.cell? ⟨p, 2, none⟩ = some a2 ∧ ∀ o, w.frozen? ⟨p, o, none⟩ = false := by
  refine ⟨?_, ?_, ?_, fun o => unfrozen_of_block h o⟩ <;> rw [cell_of_block h] <;> rfl
/-- What a step of the writer does. -/
def Step (w : World) (p : Nat) (v : Value) (bs : List UInt8) (word n : Int) (e : Ending) (w' : World) : Prop :=
  e = .returned (.tuple #[]) ∧ ∃ v', Wr w' p v' bs word n ∧ Turn w w' (p :: v.ownBlock.toList)

def putWord (word u k n : Nat) : Nat := word + (u % 2 ^ k) * 2 ^ n
theorem put_word (word u k n : Nat) (hw : word < 2 ^ n) (hu : u < 4294967296) (hk : k ≤ 32) (hn : n < 8) :
    bits BinOp.or IntKind.u64 (word : Int) (IntKind.u64.wrap (bits BinOp.and IntKind.u64 (u : Int) (IntKind.u64.wrap (IntKind.u64.wrap (2 ^ k) - 1)) * 2 ^ n)) = (putWord word u k n : Nat) := by
  have hk2 : (2 : Nat) ^ k ≤ 2 ^ 32 := Nat.pow_le_pow_right (by decide) hk
  have hk0 : 0 < (2 : Nat) ^ k := Nat.pow_pos (by decide)
  have hn2 : (2 : Nat) ^ n ≤ 2 ^ 7 := Nat.pow_le_pow_right (by decide) (by omega)
  have e2 : IntKind.u64.wrap ((2 : Int) ^ k) = ((2 ^ k : Nat) : Int) := by
    have : ((2 : Int) ^ k) = ((2 ^ k : Nat) : Int) := by simp
    rw [this]; simp only [IntKind.wrap_u64]; omega
  have e3 : IntKind.u64.wrap (((2 ^ k : Nat) : Int) - 1) = ((2 ^ k - 1 : Nat) : Int) := by simp only [IntKind.wrap_u64]; omega
  have e4 : ((2 : Int) ^ n) = ((2 ^ n : Nat) : Int) := by simp
  have hand : bits BinOp.and IntKind.u64 (u : Int) ((2 ^ k - 1 : Nat) : Int) = ((u % 2 ^ k : Nat) : Int) := by
    have hm := Nat.mod_lt u hk0
    have hb : (BitVec.ofInt IntKind.u64.bits (u : Int) &&& BitVec.ofInt IntKind.u64.bits ((2 ^ k - 1 : Nat) : Int)).toNat = u % 2 ^ k := by
      rw [BitVec.toNat_and]
      have q1 : (BitVec.ofInt IntKind.u64.bits (u : Int)).toNat = u := by
        simp [IntKind.bits]; omega
      have q2 : (BitVec.ofInt IntKind.u64.bits ((2 ^ k - 1 : Nat) : Int)).toNat = 2 ^ k - 1 := by
        simp only [BitVec.toNat_ofInt, IntKind.bits]; omega
      rw [q1, q2, Nat.and_two_pow_sub_one_eq_mod]
    unfold bits
    simp only [hb, IntKind.wrap_u64]
    omega
  have hm := Nat.mod_lt u hk0
  have hx : (u % 2 ^ k) * 2 ^ n < 2 ^ 32 * 2 ^ 7 := Nat.lt_of_lt_of_le (Nat.mul_lt_mul_of_pos_right (by omega : u % 2 ^ k < 2 ^ 32) (Nat.pow_pos (by decide))) (Nat.mul_le_mul_left _ hn2)
  have e5 : IntKind.u64.wrap (((u % 2 ^ k : Nat) : Int) * ((2 ^ n : Nat) : Int)) = ((u % 2 ^ k * 2 ^ n : Nat) : Int) := by
    rw [← Int.natCast_mul]; simp only [IntKind.wrap_u64]; omega
  rw [e2, e3, hand, e4, e5]
  have hor : (BitVec.ofInt IntKind.u64.bits (word : Int) ||| BitVec.ofInt IntKind.u64.bits ((u % 2 ^ k * 2 ^ n : Nat) : Int)).toNat = putWord word u k n := by
    rw [BitVec.toNat_or]
    have q1 : (BitVec.ofInt IntKind.u64.bits (word : Int)).toNat = word := by
      simp only [BitVec.toNat_ofInt, IntKind.bits]; omega
    have q2 : (BitVec.ofInt IntKind.u64.bits ((u % 2 ^ k * 2 ^ n : Nat) : Int)).toNat = u % 2 ^ k * 2 ^ n := by
      simp only [BitVec.toNat_ofInt, IntKind.bits]; omega
    rw [q1, q2, Nat.or_comm]
    have h := Nat.two_pow_add_eq_or_of_lt hw (u % 2 ^ k)
    unfold putWord
    rw [Nat.mul_comm] at h
    rw [← h]; omega
  unfold bits
  simp only [hor, IntKind.wrap_u64]
  unfold putWord
  omega
theorem putWord_lt (word u k n : Nat) (hw : word < 2 ^ n) : putWord word u k n < 2 ^ (n + k) := by
  have hm := Nat.mod_lt u (Nat.pow_pos (n := k) (by decide : 0 < 2))
  have h1 : (u % 2 ^ k + 1) * 2 ^ n ≤ 2 ^ k * 2 ^ n := Nat.mul_le_mul_right _ (by omega)
  unfold putWord
  rw [Nat.pow_add, Nat.mul_comm (2 ^ n)]
  rw [Nat.add_mul] at h1
  omega
def low (x : Nat) : UInt8 := UInt8.ofNat x
theorem low_val (x : Nat) : byteV (low x) = .int .u8 (IntKind.u8.wrap (x : Int)) := by
  unfold byteV low
  rw [IntKind.wrap_u8]
  simp
/-- The flush: the whole bytes go out. -/
def flush : Nat → List UInt8 × Nat × Nat → List UInt8 × Nat × Nat
  | 0, s => s
  | f + 1, (bs, x, m) => if 8 ≤ m then flush f (bs ++ [low x], x / 256, m - 8) else (bs, x, m)
theorem flush_stop (f : Nat) (bs : List UInt8) (x m : Nat) (h : ¬ 8 ≤ m) : flush f (bs, x, m) = (bs, x, m) := by
  cases f <;> simp [flush, h]
theorem flush_go (f : Nat) (bs : List UInt8) (x m : Nat) (h : 8 ≤ m) : flush (f + 1) (bs, x, m) = flush f (bs ++ [low x], x / 256, m - 8) := by
  simp [flush, h]

def mOf : Option Value → Nat
  | some (.int _ m) => m.toNat
  | _ => 0

set_option maxHeartbeats 4000000 in
set_option maxRecDepth 100000 in
theorem put_any (p : Nat) (v : Value) (bs : List UInt8) (word u k n : Nat) (hw : word < 2 ^ n) (hu : u < 4294967296) (hk : k ≤ 32) (hn : n < 8) (hl : bs.length ≤ 1000000000) (w : World) (h : Wr w p v bs word n) :
    Calls Try.prog 95 #[.pointer (some ⟨p, 0, none⟩), .int .u32 u, .int .i64 k] w fun e w' => e = .returned (.tuple #[]) ∧ ∃ v' bs' word' n' : _, flush 5 (bs, putWord word u k n, n + k) = (bs', word', n') ∧ Wr w' p v' bs' (word' : Nat) (n' : Nat) ∧ Turn w w' (p :: v.ownBlock.toList) ∧ (v'.ownBlock = v.ownBlock ∨ ∀ b, v'.ownBlock = some b → w.heap.size ≤ b) := by
  obtain ⟨c0, c1, c2, cz⟩ := wr_cells h.cells
  have hpw := put_word word u k n hw hu hk hn
  have hlt := putWord_lt word u k n hw
  obtain ⟨X, hX⟩ : ∃ X, X = putWord word u k n := ⟨_, rfl⟩
  rw [← hX] at hpw hlt ⊢
  have H := Lib.hid h
  have HPW := Lib.hid hpw
  have HLT := Lib.hid hlt
  have k0 : (0 : Int) ≤ (k : Int) := by omega
  have k1 : (k : Int) ≤ 32 := by omega
  have n0 : (0 : Int) ≤ (n : Int) := by omega
  have n1 : (n : Int) < 8 := by omega
  have n2 := Lib.hid (show ((n : Int) + (k : Int)) = ((n + k : Nat) : Int) by omega)
  have hplt : p < w.heap.size := (Array.getElem?_eq_some_iff.1 h.cells).1
  have hpo : ∀ b, v.ownBlock = some b → p < b := fun b hb => by have := (own_ge h.row b hb.symm).1; omega
  clear h hpw hX hlt hw
  go_enter Try.func95, Try.ntmps95
  go_wp2_with fail
  go_region
  go_wp2_with fail
  rw [HPW.out, n2.out]
  have hW1 : Wr ((w.setCell ⟨p, 1, none⟩ (.int .u64 (X : Nat))).setCell ⟨p, 2, none⟩ (.int .i64 (n + k : Nat))).drew p v bs X (n + k : Nat) := by
    have r1 := block_setCell (i := 1) H.out.cells (.int .u64 (X : Nat))
    have r2 := block_setCell (i := 2) r1 (.int .i64 (n + k : Nat))
    exact ⟨r2, ownsRow_frame H.out.row fun b hb => by
      have := hpo b hb.symm
      exact (((turn_set _ p 2 _).block b (by simpa using (own_ge H.out.row b hb).2) (by simp; omega)).trans ((turn_set w p 1 _).block b (own_ge H.out.row b hb).2 (by simp; omega)))⟩
  have hT1 : Turn w ((w.setCell ⟨p, 1, none⟩ (.int .u64 (X : Nat))).setCell ⟨p, 2, none⟩ (.int .i64 (n + k : Nat))).drew (p :: v.ownBlock.toList) :=
    (((turn_set w p 1 _).trans (turn_set _ p 2 _)).trans (Turn.drewN _ 1 _)).mono (fun b hb => by simp at hb; simp [hb])
  generalize ((w.setCell ⟨p, 1, none⟩ (.int .u64 (X : Nat))).setCell ⟨p, 2, none⟩ (.int .i64 (n + k : Nat))).drew = w1 at hW1 hT1 ⊢
  have HW1 := Lib.hid hW1
  have HT1 := Lib.hid hT1
  clear hW1 hT1 c0 c1 c2 cz HPW
  go_loopw [] (fun wr => ∃ (v' : Value) (bs' : List UInt8) (x m f : Nat), Hid (f ≤ 5 ∧ m < 8 * (f + 1) ∧ bs'.length + f = bs.length + 5 ∧ flush f (bs', x, m) = flush 5 (bs, X, n + k)) ∧ m ≤ 40 ∧ Hid (Wr wr p v' bs' (x : Nat) (m : Nat)) ∧ Hid (Turn w wr (p :: v.ownBlock.toList) ∧ (v'.ownBlock = v.ownBlock ∨ ∀ b, v'.ownBlock = some b → w.heap.size ≤ b))) (fun wr => mOf (wr.cell? ⟨p, 2, none⟩))
  case atStart => exact ⟨v, bs, X, n + k, 5, Lib.hid ⟨by omega, by omega, rfl, rfl⟩, by omega, HW1, Lib.hid ⟨HT1.out, .inl rfl⟩⟩
  case round =>
    obtain ⟨v', bs', x, m, f, HF, hm, HW, HT⟩ := hrel
    obtain ⟨c0, c1, c2, cz⟩ := wr_cells HW.out.cells
    by_cases h8 : 8 ≤ m
    · have s1 : (8 : Int) ≤ (m : Int) := by omega
      obtain ⟨i0, hi, hz0, hz1, hz2⟩ := info_parts info5
      obtain ⟨va, vl, vc, hv'⟩ := slice_of_row HW.out.row
      have hrow := HW.out.row
      have hpo' : ∀ b, v'.ownBlock = some b → p < b := fun b hb => by have := (own_ge hrow b hb.symm).1; omega
      have hbsl : bs'.length ≤ 1000000005 := by have := HF.out.2.2.1; omega
      have hplr : p < wr.heap.size := (Array.getElem?_eq_some_iff.1 HW.out.cells).1
      have hfl : ∃ f', f = f' + 1 := ⟨f - 1, by have := HF.out.2.1; omega⟩
      obtain ⟨f', rfl⟩ := hfl
      have hffo := HF.out.2.2.2
      rw [flush_go _ _ _ _ h8] at hffo
      have HFF := Lib.hid hffo
      clear hv' hffo
      go_wp2_with fail
      have hA := Lib.hid (ownsRow_alloc hrow (.cells #[.int .u8 (IntKind.u8.wrap (x : Nat))] 5))
      have hN : Hid (∀ j u, [Value.int .u8 (IntKind.u8.wrap (x : Nat))][j]? = some u → (wr.alloc (.cells #[.int .u8 (IntKind.u8.wrap (x : Nat))] 5)).cell? ((⟨wr.heap.size, 0, none⟩ : Addr).add j) = some u) := Lib.hid (World.news_of_block (heap_alloc_new wr _))
      go_region_law ((refine step_append_lies _ (by rfl) (.tmp 51) (.tmp 57) 22 (by rfl) (p + 1) 5 i0 (.int .u8 0) 1 1 Try.underlying22 hi hz0 hz1 hz2 (by rfl) (by decide) v' bs'.length (bs'.map byteV) (by rfl) hA.out ⟨wr.heap.size, 0, none⟩ 1 1 [.int .u8 (IntKind.u8.wrap (x : Nat))] (by rfl) (by rfl) hN.out (by simp [Value.oneCell']) (by decide) (by unfold maxLen; omega) (by omega) (by simp; omega) (wr.heap.size + 1) (by simp) ?_; intro g cap w2 hown hgrow hat hlt2; have k2 : w2.cell? ⟨p, 0, none⟩ = some v' := (hgrow.cell_far ⟨p, 0, none⟩ (by simp; omega) (fun e => absurd (hpo' p e.symm) (by omega))).trans (Go.Lib.cell?_alloc_some _ c0); have z2 : w2.frozen? ⟨p, 0, none⟩ = false := (hgrow.frozen_far ⟨p, 0, none⟩ (by simp; omega) (fun e => absurd (hpo' p e.symm) (by omega))).trans ((World.frozen?_alloc_old wr _ ⟨p, 0, none⟩ (Nat.ne_of_lt hplr)).trans (cz 0))))
      all_goals
        have hW2 : Wr (w2.setCell ⟨p, 0, none⟩ (.slice (some ⟨g, 0, none⟩) (bs'.length + 1) cap)) p (.slice (some ⟨g, 0, none⟩) (bs'.length + 1) cap) (bs' ++ [low x]) (x : Nat) (m : Nat) := by
          have hb2 : w2.heap[p]? = wr.heap[p]? := (hgrow.block p (by simp; omega) (fun e => absurd (hpo' p e.symm) (by omega))).trans (Below.heap_alloc _ _ _ hplr)
          have r1 := block_setCell (i := 0) (hb2.trans HW.out.cells) (.slice (some ⟨g, 0, none⟩) (bs'.length + 1) cap)
          refine ⟨r1, ?_⟩
          have e1 : (bs' ++ [low x]).map byteV = bs'.map byteV ++ [.int .u8 (IntKind.u8.wrap (x : Nat))] := by rw [List.map_append, ← low_val]; rfl
          rw [e1, List.length_append]
          refine ownsRow_frame hown fun b hb => (turn_set w2 p 0 _).block b (own_ge hown b hb).2 (by have := (own_ge hown b hb).1; simp; omega)
        have hT2 : Turn wr (w2.setCell ⟨p, 0, none⟩ (.slice (some ⟨g, 0, none⟩) (bs'.length + 1) cap)) (p :: v'.ownBlock.toList) :=
          (((Turn.of_below ((Below.refl wr.heap.size wr).alloc (Nat.le_refl _) (.cells #[.int .u8 (IntKind.u8.wrap (x : Nat))] 5)) _).trans ((Turn.drewN _ 1 _).trans ((Turn.of_grown hgrow).mono (fun b hb => List.mem_cons_of_mem _ hb)))).trans ((turn_set w2 p 0 _).mono (fun b hb => by simp at hb; simp [hb])))
        have hV2 : (Value.slice (some ⟨g, 0, none⟩) (bs'.length + 1) cap).ownBlock = v.ownBlock ∨ ∀ b, (Value.slice (some ⟨g, 0, none⟩) (bs'.length + 1) cap).ownBlock = some b → w.heap.size ≤ b := by
          rcases hat with e | e
          · rcases HT.out.2 with e2 | e2
            · exact .inl (by rw [← e2, e]; rfl)
            · exact .inr fun b hb => e2 b (by rw [e, ← hb]; rfl)
          · refine .inr fun b hb => ?_
            have : g = b := by simpa [Value.ownBlock] using hb
            have := HT.out.1.size
            omega
        have hT3 : Turn w (w2.setCell ⟨p, 0, none⟩ (.slice (some ⟨g, 0, none⟩) (bs'.length + 1) cap)) (p :: v.ownBlock.toList) :=
          ⟨hT2.os.trans HT.out.1.os, hT2.tape.trans HT.out.1.tape, hT2.output.trans HT.out.1.output, Nat.le_trans HT.out.1.size hT2.size, fun q hq hF => by
            have := HT.out.1.size
            refine (hT2.block q (by omega) fun hm => ?_).trans (HT.out.1.block q hq hF)
            rcases List.mem_cons.1 hm with e | e
            · exact hF (by rw [e]; simp)
            · rcases HT.out.2 with e2 | e2
              · exact hF (List.mem_cons_of_mem _ (e2 ▸ e))
              · have := e2 q (by simpa using e)
                omega⟩
        have HV2 := Lib.hid hV2
        have HT3 := Lib.hid hT3
        generalize (Value.slice (some ⟨g, 0, none⟩) (bs'.length + 1) cap) = v2 at hW2 HV2 HT3 ⊢
        generalize w2.setCell ⟨p, 0, none⟩ v2 = w3 at hW2 HT3 ⊢
        obtain ⟨d0, d1, d2, dz⟩ := wr_cells hW2.cells
        have HW2 := Lib.hid hW2
        clear hV2 hT3 hT2 hown hgrow hat hlt2 k2 z2 c0 c1 c2 cz hrow hA hN hW2
        have x0 : (0 : Int) ≤ (x : Int) := by omega
        go_wp2_with fail
        have hW4 : Wr ((w3.setCell ⟨p, 1, none⟩ (.int .u64 ((x : Int) / 256))).setCell ⟨p, 2, none⟩ (.int .i64 ((m : Int) - 8))) p v2 (bs' ++ [low x]) (x / 256 : Nat) (m - 8 : Nat) := by
          have r1 := block_setCell (i := 1) HW2.out.cells (.int .u64 ((x : Int) / 256))
          have r2 := block_setCell (i := 2) r1 (.int .i64 ((m : Int) - 8))
          refine ⟨r2.trans ?_, ownsRow_frame HW2.out.row fun b hb => ?_⟩
          · rw [show ((x / 256 : Nat) : Int) = (x : Int) / 256 by omega, show ((m - 8 : Nat) : Int) = (m : Int) - 8 by omega]
            rfl
          · have := own_ge HW2.out.row b hb
            exact (((turn_set _ p 2 _).block b (by simpa using this.2) (by simp; omega)).trans ((turn_set w3 p 1 _).block b this.2 (by simp; omega)))
        have hT4 : Turn w ((w3.setCell ⟨p, 1, none⟩ (.int .u64 ((x : Int) / 256))).setCell ⟨p, 2, none⟩ (.int .i64 ((m : Int) - 8))) (p :: v.ownBlock.toList) :=
          HT3.out.trans (((turn_set w3 p 1 _).trans (turn_set _ p 2 _)).mono (fun b hb => by simp at hb; simp [hb]))
        go_roundw
        case rel =>
          repeat apply Exists.intro
          refine ⟨⟨v2, bs' ++ [low x], x / 256, m - 8, f', Lib.hid ⟨by have := HF.out.1; omega, by have := HF.out.2.1; omega, by have := HF.out.2.2.1; simp; omega, HFF.out⟩, by omega, Lib.hid hW4, Lib.hid ⟨hT4, HV2.out⟩⟩, rfl⟩
        case measure =>
          rw [(wr_cells hW4.cells).2.2.1, (wr_cells HW.out.cells).2.2.1]
          simp [mOf]; omega
    · have s1 : ¬ (8 : Int) ≤ (m : Int) := by omega
      have hf := HF.out.2.2.2
      rw [flush_stop _ _ _ _ h8] at hf
      have HFL := Lib.hid hf
      clear hf
      go_wp2_with fail
      refine bodyPost_end (v := .tuple #[]) (by simp [results, Try.results95]) rfl ?_
      exact ⟨rfl, v', bs', x, m, HFL.out.symm, HW.out, HT.out⟩
end Go.Proofs.Ytiadnngfccbdmaa.Df
