/- Deflate: the stored block, Bytes. -/
import Derived.Test.YtiadnngfccbdmaaG
namespace Go.Proofs.Ytiadnngfccbdmaa.Df
open Go.RowKit Go.Joins Go.Maps

def four (n : Nat) : List UInt8 := [low n, low (n / 256), low (255 - n % 256), low (255 - n / 256 % 256)]
set_option maxRecDepth 100000 in
theorem xor_u8 (x : Int) (h0 : 0 ≤ x) (h1 : x < 256) : bits BinOp.xor IntKind.u8 IntKind.u8.max x = 255 - x := by
  obtain ⟨k, rfl⟩ : ∃ k : Nat, x = (k : Int) := ⟨x.toNat, by omega⟩
  have hk : k < 256 := by omega
  have key : ∀ k : Fin 256, bits BinOp.xor IntKind.u8 IntKind.u8.max ((k : Nat) : Int) = 255 - ((k : Nat) : Int) := by decide
  exact key ⟨k, hk⟩
theorem four_vals (n : Nat) (h : n ≤ 65535) : (four n).map byteV = [.int .u8 ((n : Int) % 256), .int .u8 ((n : Int) / 256), .int .u8 (bits BinOp.xor IntKind.u8 IntKind.u8.max ((n : Int) % 256)), .int .u8 (bits BinOp.xor IntKind.u8 IntKind.u8.max ((n : Int) / 256))] := by
  rw [xor_u8 _ (by omega) (by omega), xor_u8 _ (by omega) (by omega)]
  unfold four
  simp only [List.map_cons, List.map_nil, low_val, IntKind.wrap_u8]
  have e0 : ((n / 256 : Nat) : Int) % 256 = (n : Int) / 256 := by omega
  have e1 : ((255 - n % 256 : Nat) : Int) % 256 = 255 - (n : Int) % 256 := by omega
  have e2 : ((255 - n / 256 % 256 : Nat) : Int) % 256 = 255 - (n : Int) / 256 := by omega
  rw [e0, e1, e2]

set_option maxHeartbeats 4000000 in
set_option maxRecDepth 100000 in
theorem stored_any (p : Nat) (v : Value) (u : Value) (src : List UInt8) (hls : src.length ≤ 65535) (w : World) (h : Ws w p v [] 0 0)
    (hu : News w u (src.map byteV)) (hup : ∀ b, u.ownBlock = some b → b ≠ p ∧ v.ownBlock ≠ some b) :
    Calls Try.prog 98 #[.agg #[u], .pointer (some ⟨p, 0, none⟩), .bool true] w fun e w' => e = .returned (.tuple #[]) ∧ ∃ v', Ws w' p v' ([1] ++ four src.length ++ src) 0 0 ∧ On w w' p v v' := by
  obtain ⟨ua, uc, hul⟩ := hu.len
  rw [List.length_map] at hul
  have hplt : p < w.heap.size := (Array.getElem?_eq_some_iff.1 h.wr.cells).1
  have hvo : ∀ b, some b = v.ownBlock → p < b ∧ b < w.heap.size := fun b hb => by have := own_ge h.wr.row b hb; omega
  have hA : Ws (w.alloc (.cells #[u] 65)) p v [] 0 0 := ⟨⟨(Below.heap_alloc w _ p hplt).trans h.wr.cells, ownsRow_alloc h.wr.row _⟩, h.lt, h.n8⟩
  have hOA : On w (w.alloc (.cells #[u] 65)) p v v := On.below ((Below.refl _ _).alloc (Nat.le_refl _) _)
  have huA : News (w.alloc (.cells #[u] 65)) u (src.map byteV) := hu.frame (by simp) fun b hb => Below.heap_alloc w _ b (by
    rcases hu with ⟨e, _⟩ | ⟨k, o, c, e, _, hk, _⟩
    · rw [e] at hb; simp [Value.ownBlock] at hb
    · rw [e] at hb
      have : k = b := by simpa [Value.ownBlock] using hb
      omega)
  have cH := head_first p v _ hA
  have hbx : (w.alloc (.cells #[u] 65)).heap[w.heap.size]? = some (.cells #[u] 65 (0, 0)) := heap_alloc_new w _
  have huS : ∀ b, u.ownBlock = some b → b < w.heap.size := fun b hb => by
    rcases hu with ⟨e, _⟩ | ⟨k, o, c, e, _, hk, _⟩
    · rw [e] at hb; simp [Value.ownBlock] at hb
    · rw [e] at hb
      have : k = b := by simpa [Value.ownBlock] using hb
      omega
  obtain ⟨bx, hbxe⟩ : ∃ bx, bx = w.heap.size := ⟨_, rfl⟩
  have CH := Lib.hid cH
  have HOA := Lib.hid hOA
  have HUA := Lib.hid huA
  have HBX := Lib.hid hbx
  have HULE := Lib.hid hul
  clear cH hOA huA hbx h hu hA
  have hlen : src.length ≤ 65535 := hls
  subst hul
  go_enter Try.func98, Try.ntmps98
  go_wp2_with fail
  refine CH.out.mono ?_
  rintro e w1 ⟨rfl, v1, hW1, hO1⟩
  have KEEP : Hid (∀ (w' : World) (v' : Value), On (w.alloc (.cells #[.slice ua src.length uc] 65)) w' p v v' → News w' (.slice ua src.length uc) (src.map byteV) ∧ w'.cell? ⟨w.heap.size, 0, none⟩ = some (.slice ua src.length uc)) := Lib.hid fun w' v' hO => by
    refine ⟨HUA.out.frame hO.turn.size fun b hb => hO.turn.block b (by have := huS b hb; simp; omega) fun hm => ?_, ?_⟩
    · rcases List.mem_cons.1 hm with e | e
      · exact (hup b hb).1 e
      · exact (hup b hb).2 (by simpa using e)
    · have hk1 : w'.heap[w.heap.size]? = some (.cells #[.slice ua src.length uc] 65 (0, 0)) := (hO.turn.block _ (by simp) fun hm => by
        rcases List.mem_cons.1 hm with e | e
        · omega
        · have := hvo w.heap.size (by simpa [eq_comm] using e)
          omega).trans HBX.out
      rw [cell_of_block hk1]; rfl
  obtain ⟨-, c10⟩ := KEEP.out w1 v1 hO1
  have z0 : (0 : Int) ≤ (src.length : Int) := by omega
  have z1 : (src.length : Int) ≤ 65535 := by omega
  have HW1 := Lib.hid hW1
  have HO1 := Lib.hid hO1
  clear hW1 hO1
  go_wp2_with fail
  have CR := raw_any p v1 [] 1 3 (.slice (some ⟨w1.heap.size, 0, none⟩) 4 4) (four src.length) (by decide) (by simp [four]) (w1.alloc (.cells ((four src.length).map byteV).toArray 5)) ⟨⟨(Below.heap_alloc w1 _ p (Array.getElem?_eq_some_iff.1 HW1.out.wr.cells).1).trans HW1.out.wr.cells, ownsRow_alloc HW1.out.wr.row _⟩, HW1.out.lt, HW1.out.n8⟩
    (.inr ⟨w1.heap.size, 0, 4, rfl, by simp [four], by simp, fun j u hj => by rw [cell_of_block (heap_alloc_new w1 _)]; simpa using hj⟩)
    (fun b hb => by
      have e : w1.heap.size = b := by simpa [Value.ownBlock] using hb
      have := (Array.getElem?_eq_some_iff.1 HW1.out.wr.cells).1
      refine ⟨by omega, fun h => ?_⟩
      have := own_ge HW1.out.wr.row b h.symm
      omega)
  rw [four_vals _ hls] at CR
  refine CR.mono ?_
  rintro e w2 ⟨rfl, v2, hW2, hO2⟩
  have hO2' := HO1.out.trans ((On.below ((Below.refl _ _).alloc (Nat.le_refl _) _)).trans hO2)
  obtain ⟨hU2, c20⟩ := KEEP.out w2 v2 hO2'
  have CR2 := Lib.hid (raw_any p v2 (alignBs [] 1 3 ++ four src.length) 0 0 (.slice ua src.length uc) src (by simp [four, alignBs]) (by omega) w2 hW2 hU2 (fun b hb => ⟨(hup b hb).1, fun e => by
    have h1 := (hup b hb).2
    have h2 := huS b hb
    rcases hO2'.own with e2 | e2
    · exact h1 (e2 ▸ e)
    · have := e2 b e
      simp at this
      omega⟩))
  have HO2 := Lib.hid hO2'
  clear hO2 hO2' hU2 hW2 KEEP CR
  go_wp2_with fail
  refine CR2.out.mono ?_
  rintro e w3 ⟨rfl, v3, hW3, hO3⟩
  have hO := HOA.out.trans (HO2.out.trans hO3)
  go_wp2_with fail
  refine bodyPost_end (v := .tuple #[]) (by simp [results, Try.results98]) rfl ?_
  exact ⟨rfl, v3, by simpa [alignBs, low] using hW3, hO⟩
end Go.Proofs.Ytiadnngfccbdmaa.Df
