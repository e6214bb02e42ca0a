/- Deflate: Matches walked. -/
import Derived.Test.YtiadnngfccbdmaaC
import Derived.Maps.AppendAt
import Derived.Laws.MakeOwn
import Derived.Lib.SliceRun
import Derived.Deep.CutBlock
import Derived.Deep.DeepCutAuto
namespace Go.Proofs.Ytiadnngfccbdmaa.Df
open Go.RowKit Go.Joins Go.Maps

structure One (bs : List UInt8) (reach : Int) (a l d : Nat) : Prop where
  l3 : 3 ≤ l
  l258 : l ≤ 258
  d1 : 1 ≤ d
  dr : (d : Int) ≤ reach
  d32 : d ≤ 32768
  da : d ≤ a
  al : a + l ≤ bs.length
  eq : ∀ m, m < l → bs[a + m]? = bs[a + m - d]?
inductive GoodTo (bs : List UInt8) (reach : Int) : List (Nat × Nat × Nat) → Nat → Prop
  | nil : GoodTo bs reach [] 0
  | snoc {ms : List (Nat × Nat × Nat)} {e a l d : Nat} : GoodTo bs reach ms e → e ≤ a → One bs reach a l d → GoodTo bs reach (ms ++ [(a, l, d)]) (a + l)
def cellsOf (ms : List (Nat × Nat × Nat)) : List Value := ms.flatMap fun m => [intV m.1, intV m.2.1, intV m.2.2]
theorem cells_len (ms : List (Nat × Nat × Nat)) : (cellsOf ms).length = ms.length * 3 := by
  induction ms with
  | nil => rfl
  | cons m ms ih =>
    unfold cellsOf at ih ⊢
    rw [List.flatMap_cons, List.length_append, ih, List.length_cons]
    simp; omega
theorem cells_snoc (ms : List (Nat × Nat × Nat)) (a l d : Nat) : cellsOf (ms ++ [(a, l, d)]) = cellsOf ms ++ [intV a, intV l, intV d] := by
  unfold cellsOf
  rw [List.flatMap_append]
  rfl
/-- Blocks that are not its own turn. -/
theorem Mt.apart {w w' : World} {g : Wh} {bs : List UInt8} {D : Dm} {pv : List Int} {F : List Nat} (h : Mt w g bs D pv) (ht : Turn w w' F) (hF : ∀ b ∈ F, b ≠ g.bb ∧ b ≠ g.pb ∧ b ≠ g.hb ∧ b ≠ g.pr ∧ b ≠ g.mb ∧ b ≠ g.k) : Mt w' g bs D pv := by
  have n1 : g.bb ∉ F := fun hm => (hF _ hm).1 rfl
  have n2 : g.pb ∉ F := fun hm => (hF _ hm).2.1 rfl
  have n3 : g.hb ∉ F := fun hm => (hF _ hm).2.2.1 rfl
  have n4 : g.pr ∉ F := fun hm => (hF _ hm).2.2.2.1 rfl
  have n5 : g.mb ∉ F := fun hm => (hF _ hm).2.2.2.2.1 rfl
  have n6 : g.k ∉ F := fun hm => (hF _ hm).2.2.2.2.2 rfl
  exact ⟨ht.cell h.b n1, h.cap, fun j hj => ht.cell (h.arr j hj) n6, ht.cell h.p n2, (ht.block g.pr (Array.getElem?_eq_some_iff.1 h.row).1 n4).trans h.row, h.len, ht.cell h.h n3, owns_frame h.own (ht.block g.mb h.own.lt n5), h.a1, h.a2⟩
theorem info3 : (Try.prog.info? 3).map (fun i => (i.zero, i.size, i.bytes)) = some (some (.int .i64 0), 1, 8) := by kernel_rfl
theorem info27 : (Try.prog.info? 27).map (fun i => (i.zero, i.size, i.bytes)) = some (some (.agg #[.int .i64 0, .int .i64 0, .int .i64 0]), 3, 24) := by kernel_rfl
def zeros (m : Nat) : Array Value := ((List.replicate m (0 : Int)).map intV).toArray

theorem mk_ints (m : Nat) (hm : m ≤ 1000000) (w : World) : (Instr.makeSlice 36 (.int .i64 (m : Int)) (.int .i64 (m : Int))).run Try.prog w = .ok (.slice (some ⟨w.heap.size, 0, none⟩) m m) (w.alloc (.cells (zeros m) 3)) := by
  obtain ⟨i0, hi, hz0, hz1, hz2⟩ := info_parts info3
  have h := run_makeSlice (P := Try.prog) w 36 3 i0 (.int .i64 0) Try.underlying36 hi hz0 .i64 .i64 m m (by omega) (Int.le_refl _) (by rw [hz1]; simp; omega) (by rw [hz2]; omega) (by omega)
  rw [h]
  have e : madeCells (Value.int .i64 0).cells ((m : Int).toNat * i0.size) = zeros m := by
    unfold zeros
    rw [hz1]
    apply Array.ext
    · simp [madeCells]
    · intro k h1 h2
      simp [madeCells, intV, Value.cells, Nat.mod_one]
  rw [e]
  simp
def Matched (bs : List UInt8) (reach : Int) (w : World) (e : Ending) (w' : World) : Prop :=
  ∃ (v : Value) (ms : List (Nat × Nat × Nat)) (en : Nat), e = .returned v ∧ GoodTo bs (min reach 32768) ms en ∧ (reach ≤ 0 → ms = []) ∧ ms.length ≤ bs.length ∧ (∃ a c, v = .slice a ms.length c ∧ ms.length ≤ c ∧ (ms = [] ∨ ∃ b, a = some ⟨b, 0, none⟩ ∧ ∀ j u, (cellsOf ms)[j]? = some u → w'.cell? ⟨b, j, none⟩ = some u)) ∧ Below w.heap.size w w'

theorem slice_of_row {w : World} {b e s n : Nat} {v : Value} {xs : List Value} (h : w.ownsRow b e s v n xs) : ∃ a l c, v = .slice a l c := by
  rcases h.2 with ⟨h, _⟩ | ⟨g, cap, cur, h, _⟩
  · exact ⟨_, _, _, h⟩
  · exact ⟨_, _, _, h⟩
theorem owned_len {w : World} {b e s n l c : Nat} {a : Option Addr} {xs : List Value} (h : w.ownsRow b e s (.slice a l c) n xs) : n = l := by
  rcases h.2 with ⟨e, e2⟩ | ⟨_, _, _, e, _⟩
  · rw [e2]; cases e; rfl
  · cases e; rfl
theorem ownsRow_frame {w w' : World} {B e s n : Nat} {v : Value} {xs : List Value} (h : w.ownsRow B e s v n xs) (hb : ∀ b, some b = v.ownBlock → w'.heap[b]? = w.heap[b]?) : w'.ownsRow B e s v n xs := by
  obtain ⟨h0, h⟩ := h
  refine ⟨h0, ?_⟩
  rcases h with h | ⟨b, cap, cur, rfl, h1, h2, h3⟩
  · exact .inl h
  · exact .inr ⟨b, cap, cur, rfl, h1, (hb b (by simp [Value.ownBlock])).trans h2, h3⟩
theorem own_ge {w : World} {b e s n : Nat} {v : Value} {xs : List Value} (h : w.ownsRow b e s v n xs) : ∀ k, some k = v.ownBlock → b ≤ k ∧ k < w.heap.size := by
  intro k hk
  rcases h.2 with ⟨h1, _⟩ | ⟨g, cap, cur, h1, h2, h3, _⟩
  · rw [h1] at hk; simp [Value.ownBlock] at hk
  · rw [h1] at hk
    have : k = g := by simpa [Value.ownBlock] using hk
    subst this
    exact ⟨h2, (Array.getElem?_eq_some_iff.1 h3).1⟩
theorem ownsRow_turn {w w' : World} {B e s n : Nat} {v : Value} {xs : List Value} {F : List Nat} (h : w.ownsRow B e s v n xs) (ht : Turn w w' F) (hF : ∀ b ∈ F, b < B) : w'.ownsRow B e s v n xs :=
  ownsRow_frame h fun b hb => ht.block b (own_ge h b hb).2 fun hm => by have := hF b hm; have := (own_ge h b hb).1; omega
theorem ownsRow_alloc {w : World} {B e s n : Nat} {v : Value} {xs : List Value} (h : w.ownsRow B e s v n xs) (o : Obj) : (w.alloc o).ownsRow B e s v n xs :=
  ownsRow_frame h fun b hb => Below.heap_alloc _ _ _ (own_ge h b hb).2
theorem row_final {w : World} {B n c : Nat} {a : Option Addr} {ms : List (Nat × Nat × Nat)} (h : w.ownsRow B 27 3 (.slice a n c) n (cellsOf ms)) : (n ≤ c ∧ n = ms.length) ∧ (∃ a' c', Value.slice a n n = .slice a' ms.length c' ∧ ms.length ≤ c' ∧ (ms = [] ∨ ∃ b, a' = some ⟨b, 0, none⟩ ∧ ∀ j u, (cellsOf ms)[j]? = some u → w.cell? ⟨b, j, none⟩ = some u)) := by
  obtain ⟨h0, h⟩ := h
  have hn : n = ms.length := by have := cells_len ms; omega
  subst hn
  rcases h with ⟨h1, h2⟩ | ⟨b, cap, cur, h1, h2, h3, h4, h5, h6, h7⟩
  · have e : ms = [] := List.eq_nil_of_length_eq_zero h2
    subst e
    exact ⟨⟨Nat.zero_le _, rfl⟩, a, 0, rfl, Nat.zero_le _, .inl rfl⟩
  · cases h1
    refine ⟨⟨h4, rfl⟩, _, _, rfl, Nat.le_refl _, .inr ⟨b, rfl, fun j u hj => ?_⟩⟩
    rw [← h7, List.getElem?_take] at hj
    rw [World.cell?]
    simp only [h3]
    split at hj
    · simpa using hj
    · cases hj
theorem news3 (w : World) (x y z : Int) : ∀ j u, [intV x, intV y, intV z][j]? = some u → (w.alloc (.cells #[.int .i64 x, .int .i64 y, .int .i64 z] 27)).cell? ((⟨w.heap.size, 0, none⟩ : Addr).add j) = some u := by
  intro j u hj
  match j, hj with
  | 0, hj => simp [intV] at hj; subst hj; simp [go_sem, Addr.add]
  | 1, hj => simp [intV] at hj; subst hj; simp [go_sem, Addr.add]
  | 2, hj => simp [intV] at hj; subst hj; simp [go_sem, Addr.add]
  | j + 3, hj => simp at hj
theorem one3 (x y z : Int) : ∀ u ∈ [intV x, intV y, intV z], u.oneCell' = true := by
  intro u hu
  simp only [List.mem_cons, List.not_mem_nil, or_false] at hu
  rcases hu with rfl | rfl | rfl <;> rfl
theorem enter_at (bb pb hb pr mb k o c : Nat) (bs : List UInt8) (D : Dm) (pv : List Int) (i : Nat) (w : World) (h : Mt w ⟨bb, pb, hb, pr, mb, k, o, c⟩ bs D pv) (hh : HeadOk D i bs.length) (hp : PrevOk pv i) (hl : bs.length ≤ 1000000) (hi : i ≤ 1000000) (hsz : Maps.size D ≤ 1000000) :
    Calls Try.prog 11 #[.int .i64 i, .pointer (some ⟨bb, 0, none⟩), .pointer (some ⟨pb, 0, none⟩), .pointer (some ⟨hb, 0, none⟩)] w (Entered w ⟨bb, pb, hb, pr, mb, k, o, c⟩ bs D i) :=
  enter_any ⟨bb, pb, hb, pr, mb, k, o, c⟩ bs D pv i w h hh hp hl hi hsz
def Best (bs : List UInt8) (R : Int) (i b a : Nat) : Prop := b ≤ 258 ∧ i + b ≤ bs.length ∧ (b = 0 ∨ (Alike bs a i b ∧ a < i ∧ ((i : Int) - (a : Int)) ≤ R))
theorem best_one {bs : List UInt8} {R : Int} {i b a : Nat} (h : Best bs R i b a) (h3 : 3 ≤ b) (hR : R ≤ 32768) : One bs R i b (i - a) := by
  obtain ⟨h1, h2, h4⟩ := h
  rcases h4 with e | ⟨h5, h6, h7⟩
  · omega
  · refine ⟨h3, h1, by omega, by omega, by omega, by omega, h2, fun m hm => ?_⟩
    rw [← h5.2.2 m hm]
    congr 1
    omega

set_option maxHeartbeats 8000000 in
set_option maxRecDepth 100000 in
theorem matches_any (k o c : Nat) (bs : List UInt8) (reach : Int) (w : World) (ha : Arr w k o bs) (hk : k < w.heap.size) (hc : bs.length ≤ c) (hl : bs.length ≤ 1000000) (hr : -9223372036854775808 ≤ reach ∧ reach < 9223372036854775808) :
    Calls Try.prog 7 #[.slice (some ⟨k, o, none⟩) bs.length c, .int .i64 reach] w (Matched bs reach w) := by
  have hmk := mk_ints bs.length hl
  have hmm := @run_makeMap Try.prog
  obtain ⟨wS, hwS⟩ : ∃ wS, ((((w.alloc (.cells #[.slice (some ⟨k, o, none⟩) bs.length c] 22)).alloc (.map #[] 0)).alloc (.cells #[.map (some (w.heap.size + 1))] 35)).alloc (.cells (zeros bs.length) 3)).alloc (.cells #[.slice (some ⟨w.heap.size + 1 + 1 + 1, 0, none⟩) bs.length bs.length] 36) = wS := ⟨_, rfl⟩
  have hBS : Below w.heap.size w wS := by rw [← hwS]; exact (((((Below.refl _ _).alloc (Nat.le_refl _) _).alloc (by simp) _).alloc (by simp; omega) _).alloc (by simp; omega) _).alloc (by simp; omega) _
  have hzS : wS.heap.size = w.heap.size + 5 := by rw [← hwS]; simp
  have hMS : Mt wS ⟨w.heap.size, w.heap.size + 1 + 1 + 1 + 1, w.heap.size + 1 + 1, w.heap.size + 1 + 1 + 1, w.heap.size + 1, k, o, c⟩ bs (.map []) (List.replicate bs.length 0) := by
    rw [← hwS]
    have hown := World.ownsMap_made (H := Unit) (w.alloc (.cells #[.slice (some ⟨k, o, none⟩) bs.length c] 22)) Try.prog 37 R3
    rw [show (w.alloc (.cells #[.slice (some ⟨k, o, none⟩) bs.length c] 22)).heap.size = w.heap.size + 1 by simp] at hown
    refine ⟨by simp [go_sem], hc, fun j hj => ?_, by simp [go_sem], ?_, by simp, by simp [go_sem], ((hown.alloc _).alloc _).alloc _, by simp; omega, by simp; omega⟩
    · have := ha j hj
      exact Go.Lib.cell?_alloc_some _ (Go.Lib.cell?_alloc_some _ (Go.Lib.cell?_alloc_some _ (Go.Lib.cell?_alloc_some _ (Go.Lib.cell?_alloc_some _ this))))
    · have e := (MapKept.heap_alloc (((w.alloc (.cells #[.slice (some ⟨k, o, none⟩) bs.length c] 22)).alloc (.map #[] 0)).alloc (.cells #[.map (some (w.heap.size + 1))] 35)) (.cells (zeros bs.length) 3)).1
      rw [Below.heap_alloc _ _ _ (by simp)]
      simpa [zeros] using e
  have HMS := Lib.hid hMS
  have HBS := Lib.hid hBS
  have HZS := Lib.hid hzS
  have HWS := Lib.hid hwS
  clear hMS hBS hzS hwS
  by_cases hle : reach ≤ 32768
  · have HRE := Lib.hid (show min reach 32768 = reach by omega)
    have hR32 : (reach : Int) ≤ 32768 := by omega
    go_enter Try.func7, Try.ntmps7
    go_wp2_with fail
    rw [HWS.out]
    obtain ⟨pb, hpb⟩ : ∃ b, w.heap.size + 1 + 1 + 1 + 1 = b := ⟨_, rfl⟩
    obtain ⟨pr, hpr⟩ : ∃ b, w.heap.size + 1 + 1 + 1 = b := ⟨_, rfl⟩
    obtain ⟨hb, hhb⟩ : ∃ b, w.heap.size + 1 + 1 = b := ⟨_, rfl⟩
    obtain ⟨mb, hmb⟩ : ∃ b, w.heap.size + 1 = b := ⟨_, rfl⟩
    obtain ⟨bb, hbb⟩ : ∃ b, w.heap.size = b := ⟨_, rfl⟩
    have HAP : Hid (∀ b, wS.heap.size ≤ b → b ≠ bb ∧ b ≠ pb ∧ b ≠ hb ∧ b ≠ pr ∧ b ≠ mb ∧ b ≠ k) := Lib.hid fun b hb' => by have := HZS.out; omega
    have HNEW : Hid (w.heap.size ≤ pr ∧ w.heap.size ≤ mb ∧ pr < wS.heap.size ∧ mb < wS.heap.size) := Lib.hid (by have := HZS.out; omega)
    rw [hpb, hpr, hhb, hmb, hbb] at HMS
    rw [hpb, hhb, hbb]
    have HBBL := Lib.hid hbb
    clear hpb hpr hhb hmb hbb hmk hmm HWS
    go_loopw [5, 9] (fun a i wr => ∃ (q e : Nat) (ms : List (Nat × Nat × Nat)) (D : Dm) (pv : List Int), q ≤ bs.length ∧ i = .int .i64 q ∧ wr.ownsRow wS.heap.size 27 3 a ms.length (cellsOf ms) ∧ Hid (Mt wr ⟨bb, pb, hb, pr, mb, k, o, c⟩ bs D pv) ∧ Hid (HeadOk D q bs.length ∧ PrevOk pv q ∧ Maps.size D ≤ q) ∧ Hid (GoodTo bs reach ms e ∧ e ≤ q ∧ ms.length ≤ q ∧ (reach ≤ 0 → ms = [])) ∧ Hid (Below w.heap.size w wr ∧ wS.heap.size ≤ wr.heap.size)) (fun _ i _ => bs.length - (RowKit.intOf i).toNat)
    case atStart =>
      refine ⟨0, 0, [], _, _, Nat.zero_le _, rfl, World.ownsRow_nil _ _ _ _, HMS, Lib.hid ⟨head_empty _ _, fun q hq h0 => absurd h0 (by omega), Nat.le_refl _⟩, Lib.hid ⟨.nil, Nat.le_refl _, Nat.le_refl _, fun _ => rfl⟩, Lib.hid ⟨HBS.out, Nat.le_refl _⟩⟩
    case round =>
      obtain ⟨q, e, ms, D, pv, hq, rfl, hown, HM, HI, HG, HB⟩ := hrel
      have hb0 := HM.out.b
      simp only at hb0
      obtain ⟨ua, ul, uc, rfl⟩ := slice_of_row hown
      obtain rfl := owned_len hown
      by_cases hin : q + 3 ≤ bs.length
      · have s1 : (q : Int) + 3 ≤ (bs.length : Int) := by omega
        by_cases hpos : 0 < reach
        · have hil : q + 2 < bs.length := by omega
          have a0 := HM.out.arr q (by omega)
          have a1 := HM.out.arr (q + 1) (by omega)
          have a2 := HM.out.arr (q + 2) (by omega)
          simp only at a0 a1 a2
          rw [← Nat.add_assoc] at a1 a2
          obtain ⟨K, hK⟩ : ∃ K, K = key3 (bs[q]'(by omega)) (bs[q + 1]'(by omega)) (bs[q + 2]'(by omega)) := ⟨_, rfl⟩
          have hKw : (Lit.int .u32 K).wf = true := by rw [hK]; exact key3_wf _ _ _
          have C3 : ∀ m, Calls Try.prog 12 #[.slice (some ⟨k, o + q, none⟩) (bs.length - q) (c - q)] (wr.drewN m) fun e w' => e = .returned (.int .u32 K) ∧ ∃ m', w' = (wr.drewN m).drewN m' := fun m => by rw [hK]; exact three_any k (o + q) (bs.length - q) (c - q) _ _ _ (wr.drewN m) (by omega) a0 a1 a2
          have hsl := slice_from k o bs.length c q (by omega) (by omega)
          have hkey : keyOf Try.prog 37 (.int .u32 K) = some (.int .u32 K) := keyOf_int_mk Try.underlying37 hKw
          have hlk : ∃ c0 : Int, (∀ m, (Instr.lookup 35 (.map (some mb)) (.int .u32 K) true).run Try.prog (wr.drewN m) = .ok (.tuple #[.int .i64 c0, .bool (Maps.has D (.int .u32 K))]) (wr.drewN m)) ∧ (Maps.has D (.int .u32 K) = true → 0 ≤ c0 ∧ c0 < q ∧ c0 + 3 ≤ bs.length) := by
            obtain ⟨v, ps, hrun, hv⟩ := HM.out.own.look_ok law Try.underlying35 (zeroE wr) (zd := .lit (.int .i64 0)) (zp := []) (plainElem_int Try.underlying3 (by decide)) hkey
            obtain ⟨c0, rfl, hc0, _⟩ := plainElem_int_inv Try.underlying3 hv
            simp only [Prod.mk.injEq] at hc0
            refine ⟨c0, fun m => ?_, fun hh => ?_⟩
            · obtain ⟨v2, ps2, hrun2, hv2⟩ := (owns_frame (w' := wr.drewN m) HM.out.own rfl).look_ok law Try.underlying35 (zeroE _) (zd := .lit (.int .i64 0)) (zp := []) (plainElem_int Try.underlying3 (by decide)) hkey
              obtain ⟨c2, rfl, hc2, _⟩ := plainElem_int_inv Try.underlying3 hv2
              simp only [Prod.mk.injEq] at hc2
              have : c2 = c0 := by have := hc2.1.symm.trans hc0.1; injection this with h1; injection h1
              rw [← this]
              exact hrun2
            · obtain ⟨c1, e1, e2, e3⟩ := HI.out.1 K hh
              have : c0 = (c1 : Int) := by have := hc0.1.symm.trans e1; injection this with h1; injection h1
              omega
          obtain ⟨c0, hlk, hc0⟩ := hlk
          have hh0 := HM.out.h
          simp only at hh0
          obtain ⟨ok, hok⟩ : ∃ ok, ok = Maps.has D (.int .u32 K) := ⟨_, rfl⟩
          rw [← hok] at hlk hc0
          have HC0 := Lib.hid hc0
          clear hK hKw hkey a0 a1 a2 hok hc0
          go_wp2_with fail
          go_quiet ((go_at_call 12; exact Calls.quiet_of (C3 _)))
          obtain ⟨wq, hwq⟩ : ∃ wq, wr.drewN nq = wq := ⟨_, rfl⟩
          have HMq : Hid (Mt wq ⟨bb, pb, hb, pr, mb, k, o, c⟩ bs D pv) := Lib.hid (by rw [← hwq]; exact HM.out.same (Turn.drewN wr nq []))
          have HBq : Hid (Below w.heap.size w wq ∧ wS.heap.size ≤ wq.heap.size) := Lib.hid (by rw [← hwq]; exact ⟨HB.out.1.trans ((Turn.drewN wr nq []).below HB.out.1.size (fun b hb => by cases hb)), HB.out.2⟩)
          have hownq : wq.ownsRow wS.heap.size 27 3 (.slice ua ms.length uc) ms.length (cellsOf ms) := by rw [← hwq]; exact hown
          rw [hwq]
          clear hwq HM HB hown C3 hsl hlk hb0 hh0
          go_upto_block 2 with (fail)
          go_cut [10, 11] (fun s10 s11 wx => ∃ bt at_ m : Nat, s10 = .int .i64 bt ∧ s11 = .int .i64 at_ ∧ Hid (Best bs reach q bt at_) ∧ Hid (wx = wq.drewN m))
          case first =>
            clear hownq
            have HST : Hid (ok = true → -1 ≤ c0 ∧ c0 < q ∧ (0 ≤ c0 → c0 + 3 ≤ bs.length)) := Lib.hid fun h => by
              have := HC0.out h
              omega
            go_wp2_with fail
            go_loopw [10, 11, 12, 14] (fun b a p n wx => ∃ (bt at_ nn m : Nat) (pp : Int), b = .int .i64 bt ∧ a = .int .i64 at_ ∧ p = .int .i64 pp ∧ n = .int .i64 nn ∧ nn ≤ 48 ∧ Hid (ok = true → -1 ≤ pp ∧ pp < q ∧ (0 ≤ pp → pp + 3 ≤ bs.length)) ∧ Hid (Best bs reach q bt at_) ∧ Hid (wx = wq.drewN m)) (fun _ _ _ n _ => 48 - (RowKit.intOf n).toNat)
            case atStart => exact ⟨0, 0, 0, 0, c0, rfl, rfl, rfl, rfl, by omega, HST, Lib.hid ⟨by omega, by omega, .inl rfl⟩, Lib.hid rfl⟩
            case round =>
              obtain ⟨bt, at_, nn, m, pp, rfl, rfl, rfl, rfl, hnn, HPP, HBE, HW⟩ := hrel
              cases ok with
              | false =>
                go_wp2
                go_meet
                exact ⟨bt, at_, m, rfl, rfl, HBE, HW⟩
              | true =>
                have hpp := HPP.out rfl
                obtain ⟨p1, p2, p3⟩ := hpp
                by_cases h48 : nn < 48
                · have g1 : (nn : Int) < 48 := by omega
                  by_cases hp0 : 0 ≤ pp
                  · by_cases hrr : (q : Int) - pp ≤ reach
                    · obtain ⟨x, rfl⟩ : ∃ x : Nat, pp = (x : Int) := ⟨pp.toNat, by omega⟩
                      have hxq : x < q := by omega
                      have hx3 : x + 3 ≤ bs.length := by have := p3 hp0; omega
                      have hMx : Mt wr ⟨bb, pb, hb, pr, mb, k, o, c⟩ bs D pv := by rw [HW.out]; exact HMq.out.same (Turn.drewN wq m [])
                      have CA := Lib.hid (alike_any k o c x q bs wr hMx.arr hxq hq hl)
                      have hb1 := hMx.b
                      simp only at hb1
                      have hpl : x < pv.length := by rw [hMx.len]; omega
                      obtain ⟨v1, v2⟩ := HI.out.2.1 x hpl hxq (by rw [hMx.len]; exact hx3)
                      have HPV := Lib.hid hMx
                      have hwx1 : IntKind.i64.wrap ((q : Int) - (x : Int)) = (q : Int) - (x : Int) := IntWalk.i64_in _ (by omega)
                      clear hMx p1 p2 p3
                      go_wp2_with fail
                      refine CA.out.mono ?_
                      rintro e wy ⟨l, hal, rfl, m', hwy⟩
                      have hMy : Mt wy ⟨bb, pb, hb, pr, mb, k, o, c⟩ bs D pv := by rw [hwy]; exact HPV.out.same (Turn.drewN wr m' [])
                      have HWY : Hid (wy = wq.drewN (m + m')) := Lib.hid (by rw [hwy, HW.out, drewN_drewN])
                      have hp2 := hMy.p
                      have hc2 : wy.cell? ⟨pr, x, none⟩ = some (.int .i64 (pv[x]'hpl)) := by
                        rw [cell_of_block hMy.row]
                        simp [hpl, intV]
                      simp only at hp2
                      generalize pv[x]'hpl = z at hc2 v1 v2
                      have g2 : (x : Int) < (bs.length : Int) := by omega
                      have HAL := Lib.hid hal
                      have hl258 := hal.1
                      have hll := hal.2.1
                      have HPN : Hid (true = true → -1 ≤ z ∧ z < q ∧ (0 ≤ z → z + 3 ≤ bs.length)) := Lib.hid fun _ => by omega
                      clear hwy hMy hal CA HPV
                      by_cases hgt : bt < l
                      · have g3 : (bt : Int) < (l : Int) := by omega
                        have HBN : Hid (Best bs reach q l x) := Lib.hid ⟨hl258, hll, .inr ⟨HAL.out, hxq, hrr⟩⟩
                        go_wp2
                        go_roundw
                        case measure => simp [RowKit.intOf]; omega
                        case rel => exact ⟨l, x, nn + 1, m + m', z, rfl, rfl, rfl, by go_num, by omega, HPN, HBN, HWY⟩
                      · have g3 : ¬ (bt : Int) < (l : Int) := by omega
                        go_wp2
                        go_roundw
                        case measure => simp [RowKit.intOf]; omega
                        case rel => exact ⟨bt, at_, nn + 1, m + m', z, rfl, rfl, rfl, by go_num, by omega, HPN, HBE, HWY⟩
                    · have hwx1 : IntKind.i64.wrap ((q : Int) - pp) = (q : Int) - pp := IntWalk.i64_in _ (by omega)
                      go_wp2
                      go_meet
                      exact ⟨bt, at_, m, rfl, rfl, HBE, HW⟩
                  · go_wp2
                    go_meet
                    exact ⟨bt, at_, m, rfl, rfl, HBE, HW⟩
                · have g1 : ¬ (nn : Int) < 48 := by omega
                  go_wp2
                  go_meet
                  exact ⟨bt, at_, m, rfl, rfl, HBE, HW⟩
          case rest =>
            obtain ⟨bt, at_, m, rfl, rfl, HBE, HW⟩ := hcut
            rename World => wx
            have HMx : Hid (Mt wx ⟨bb, pb, hb, pr, mb, k, o, c⟩ bs D pv) := Lib.hid (by rw [HW.out]; exact HMq.out.same (Turn.drewN wq m []))
            have HBx : Hid (Below w.heap.size w wx ∧ wS.heap.size ≤ wx.heap.size) := Lib.hid (by rw [HW.out]; exact ⟨HBq.out.1.trans ((Turn.drewN wq m []).below HBq.out.1.size (fun b hb => by cases hb)), HBq.out.2⟩)
            have hownx : wx.ownsRow wS.heap.size 27 3 (.slice ua ms.length uc) ms.length (cellsOf ms) := by rw [HW.out]; exact hownq
            clear hownq HMq HBq HW HC0
            by_cases h3 : 3 ≤ bt
            · have g3 : (3 : Int) ≤ (bt : Int) := by omega
              have hone := best_one HBE.out h3 hR32
              have hmq : ms.length ≤ q := HG.out.2.2.1
              obtain ⟨i0, hi, hz0, hz1, hz2⟩ := info_parts info27
              have hba : at_ ≤ q := by
                rcases HBE.out.2.2 with e | ⟨_, h, _⟩ <;> omega
              have hqb := HBE.out.2.1
              have hb258 := HBE.out.1
              have hwx1 : IntKind.i64.wrap ((q : Int) - (at_ : Int)) = ((q - at_ : Nat) : Int) := by rw [IntWalk.i64_in _ (by omega)]; omega
              have HONE := Lib.hid hone
              obtain ⟨d, hd⟩ : ∃ d, d = q - at_ := ⟨_, rfl⟩
              rw [← hd] at hwx1 HONE
              clear hone hd
              go_wp2_with (first | (at_builtin; refine wpList_append_own_at _ rfl (.tmp 75) (.tmp 82) 24 rfl wS.heap.size 27 i0 (.agg #[.int .i64 0, .int .i64 0, .int .i64 0]) 3 24 Try.underlying24 hi hz0 hz1 hz2 rfl (by decide) _ _ _ rfl (ownsRow_alloc hownx _) ⟨wx.heap.size, 0, none⟩ 1 1 [intV q, intV bt, intV d] rfl rfl (news3 _ _ _ _) (one3 _ _ _) (by unfold maxLen; omega) (by omega) (by have := HBx.out.2; simp; omega) ?_; intro v' wz hown' hgrow hnil hloc; obtain ⟨va, vl, vc, rfl⟩ := slice_of_row hown'; obtain rfl := owned_len hown'))
              have hTz : Turn wx wz (Value.slice ua ms.length uc).ownBlock.toList := (Turn.of_below ((Below.refl wx.heap.size wx).alloc (Nat.le_refl _) (.cells #[.int .i64 q, .int .i64 bt, .int .i64 d] 27)) _).trans (Turn.of_grown hgrow)
              have hOb : ∀ b ∈ (Value.slice ua ms.length uc).ownBlock.toList, wS.heap.size ≤ b := fun b hb' => (own_ge hownx b (by simpa [eq_comm] using hb')).1
              have HMz0 : Hid (Mt wz ⟨bb, pb, hb, pr, mb, k, o, c⟩ bs D pv) := Lib.hid (HMx.out.apart hTz (fun b hb' => HAP.out b (hOb b hb')))
              have HBZ : Hid (Below w.heap.size w wz ∧ wS.heap.size ≤ wz.heap.size) := Lib.hid ⟨HBx.out.1.trans (hTz.below HBx.out.1.size (fun b hb' => by have := hOb b hb'; have := HZS.out; omega)), Nat.le_trans HBx.out.2 hTz.size⟩
              have HOZ : Hid (wz.ownsRow wS.heap.size 27 3 (.slice va (ms.length + 1) vc) (ms ++ [(q, bt, d)]).length (cellsOf (ms ++ [(q, bt, d)]))) := Lib.hid (by rw [cells_snoc, List.length_append]; exact hown')
              clear hTz hOb hown' hgrow hnil hloc hownx HMx HBx hwx1
              have HMz := HMz0
              go_wp2_with fail
              go_loopw [9, 86] (fun i tt wr => ∃ (t : Nat) (D2 : Dm) (pv2 : List Int), t ≤ bt ∧ tt = .int .i64 t ∧ i = .int .i64 (q + t : Nat) ∧ Hid (Mt wr ⟨bb, pb, hb, pr, mb, k, o, c⟩ bs D2 pv2) ∧ Hid (HeadOk D2 (q + t) bs.length ∧ PrevOk pv2 (q + t) ∧ Maps.size D2 ≤ q + t) ∧ Hid (Turn wz wr [pr, mb])) (fun _ tt _ => bt - (RowKit.intOf tt).toNat)
              case atStart => exact ⟨0, D, pv, Nat.zero_le _, rfl, rfl, HMz, HI, Lib.hid (Turn.refl _ _)⟩
              case round =>
                obtain ⟨t, D2, pv2, ht, rfl, rfl, HM2, HI2, HT2⟩ := hrel
                by_cases hts : t < bt
                · have y1 : (t : Int) < (bt : Int) := by omega
                  have CE := Lib.hid (enter_at bb pb hb pr mb k o c bs D2 pv2 (q + t) wr HM2.out HI2.out.1 HI2.out.2.1 hl (by omega) (by have := HI2.out.2.2; omega))
                  have hw9 : IntKind.i64.wrap (((q + t : Nat) : Int) + 1) = ((q + (t + 1) : Nat) : Int) := by rw [IntWalk.i64_in _ (by omega)]; omega
                  go_wp2_with fail
                  refine CE.out.mono ?_
                  rintro e9 w9 ⟨rfl, D3, pv3, hM3, hH3, hP3, hS3, hT3⟩
                  have HM3 := Lib.hid hM3
                  have HI3 : Hid (HeadOk D3 (q + (t + 1)) bs.length ∧ PrevOk pv3 (q + (t + 1)) ∧ Maps.size D3 ≤ q + (t + 1)) := Lib.hid ⟨hH3, hP3, by have := HI2.out.2.2; omega⟩
                  have HT3 : Hid (Turn wz w9 [pr, mb]) := Lib.hid (HT2.out.trans hT3)
                  clear hM3 hH3 hP3 hS3 hT3 CE
                  go_wp2
                  go_roundw
                  case measure => simp [RowKit.intOf]; omega
                  case rel => exact ⟨t + 1, D3, pv3, by omega, by go_num, by first | rfl | go_num, HM3, HI3, HT3⟩
                · have y1 : ¬ (t : Int) < (bt : Int) := by omega
                  have hown9 := ownsRow_turn HOZ.out HT2.out (by have := HNEW.out; intro b hb'; simp only [List.mem_cons, List.not_mem_nil, or_false] at hb'; omega)
                  have HB9 : Hid (Below w.heap.size w wr ∧ wS.heap.size ≤ wr.heap.size) := Lib.hid ⟨HBZ.out.1.trans (HT2.out.below HBZ.out.1.size (fun b hb' => by have := HNEW.out; simp only [List.mem_cons, List.not_mem_nil, or_false] at hb'; omega)), Nat.le_trans HBZ.out.2 HT2.out.size⟩
                  have HG9 : Hid (GoodTo bs reach (ms ++ [(q, bt, d)]) (q + bt) ∧ q + bt ≤ q + bt ∧ (ms ++ [(q, bt, d)]).length ≤ q + bt ∧ (reach ≤ 0 → ms ++ [(q, bt, d)] = [])) := Lib.hid ⟨.snoc HG.out.1 HG.out.2.1 HONE.out, Nat.le_refl _, by simp; omega, fun h => by omega⟩
                  obtain rfl : t = bt := by omega
                  go_wp2
                  go_roundw
                  case measure => simp [RowKit.intOf]; omega
                  case rel => exact ⟨_, _, _, D2, pv2, by omega, rfl, hown9, HM2, HI2, HG9, HB9⟩
            · have g3 : ¬ (3 : Int) ≤ (bt : Int) := by omega
              have hmq : ms.length ≤ q := HG.out.2.2.1
              have HMz0 := HMx
              have HBZ := HBx
              have HOZ := Lib.hid hownx
              clear hownx HMx HBx
              have HMz := HMz0
              go_wp2_with fail
              go_loopw [9, 86] (fun i tt wr => ∃ (t : Nat) (D2 : Dm) (pv2 : List Int), t ≤ 1 ∧ tt = .int .i64 t ∧ i = .int .i64 (q + t : Nat) ∧ Hid (Mt wr ⟨bb, pb, hb, pr, mb, k, o, c⟩ bs D2 pv2) ∧ Hid (HeadOk D2 (q + t) bs.length ∧ PrevOk pv2 (q + t) ∧ Maps.size D2 ≤ q + t) ∧ Hid (Turn wx wr [pr, mb])) (fun _ tt _ => 1 - (RowKit.intOf tt).toNat)
              case atStart => exact ⟨0, D, pv, Nat.zero_le _, rfl, rfl, HMz, HI, Lib.hid (Turn.refl _ _)⟩
              case round =>
                obtain ⟨t, D2, pv2, ht, rfl, rfl, HM2, HI2, HT2⟩ := hrel
                by_cases hts : t < 1
                · have y1 : (t : Int) < (1 : Int) := by omega
                  have CE := Lib.hid (enter_at bb pb hb pr mb k o c bs D2 pv2 (q + t) wr HM2.out HI2.out.1 HI2.out.2.1 hl (by omega) (by have := HI2.out.2.2; omega))
                  have hw9 : IntKind.i64.wrap (((q + t : Nat) : Int) + 1) = ((q + (t + 1) : Nat) : Int) := by rw [IntWalk.i64_in _ (by omega)]; omega
                  go_wp2_with fail
                  refine CE.out.mono ?_
                  rintro e9 w9 ⟨rfl, D3, pv3, hM3, hH3, hP3, hS3, hT3⟩
                  have HM3 := Lib.hid hM3
                  have HI3 : Hid (HeadOk D3 (q + (t + 1)) bs.length ∧ PrevOk pv3 (q + (t + 1)) ∧ Maps.size D3 ≤ q + (t + 1)) := Lib.hid ⟨hH3, hP3, by have := HI2.out.2.2; omega⟩
                  have HT3 : Hid (Turn wx w9 [pr, mb]) := Lib.hid (HT2.out.trans hT3)
                  clear hM3 hH3 hP3 hS3 hT3 CE
                  go_wp2
                  go_roundw
                  case measure => simp [RowKit.intOf]; omega
                  case rel => exact ⟨t + 1, D3, pv3, by omega, by go_num, by first | rfl | go_num, HM3, HI3, HT3⟩
                · have y1 : ¬ (t : Int) < (1 : Int) := by omega
                  have hown9 := ownsRow_turn HOZ.out HT2.out (by have := HNEW.out; intro b hb'; simp only [List.mem_cons, List.not_mem_nil, or_false] at hb'; omega)
                  have HB9 : Hid (Below w.heap.size w wr ∧ wS.heap.size ≤ wr.heap.size) := Lib.hid ⟨HBZ.out.1.trans (HT2.out.below HBZ.out.1.size (fun b hb' => by have := HNEW.out; simp only [List.mem_cons, List.not_mem_nil, or_false] at hb'; omega)), Nat.le_trans HBZ.out.2 HT2.out.size⟩
                  have HG9 : Hid (GoodTo bs reach ms e ∧ e ≤ q + 1 ∧ ms.length ≤ q + 1 ∧ (reach ≤ 0 → ms = [])) := Lib.hid ⟨HG.out.1, by have := HG.out.2.1; omega, by omega, HG.out.2.2.2⟩
                  obtain rfl : t = 1 := by omega
                  go_wp2
                  go_roundw
                  case measure => simp [RowKit.intOf]; omega
                  case rel => exact ⟨_, _, _, D2, pv2, by omega, rfl, hown9, HM2, HI2, HG9, HB9⟩
        · have s2 : ¬ (0 : Int) < reach := by omega
          have hmn := HG.out.2.2.1
          obtain ⟨z1, z2⟩ := row_final hown
          have hcap : (ms.length : Int) ≤ (uc : Int) := by have := z1.1; omega
          have HZ := Lib.hid (And.intro z1 z2)
          clear z1 z2 hown HM
          go_wp2_with fail
          go_ret
          exact ⟨_, ms, e, rfl, by rw [HRE.out]; exact HG.out.1, fun h0 => HG.out.2.2.2 (by omega), by omega, HZ.out.2, HB.out.1⟩
      · have s1 : ¬ (q : Int) + 3 ≤ (bs.length : Int) := by omega
        have hmn := HG.out.2.2.1
        obtain ⟨z1, z2⟩ := row_final hown
        have hcap : (ms.length : Int) ≤ (uc : Int) := by have := z1.1; omega
        have HZ := Lib.hid (And.intro z1 z2)
        clear z1 z2 hown HM
        go_wp2_with fail
        go_ret
        exact ⟨_, ms, e, rfl, by rw [HRE.out]; exact HG.out.1, fun h0 => HG.out.2.2.2 (by omega), by omega, HZ.out.2, HB.out.1⟩
  · have HRE := Lib.hid (show min reach 32768 = 32768 by omega)
    have hR32 : (32768 : Int) ≤ 32768 := by omega
    go_enter Try.func7, Try.ntmps7
    go_wp2_with fail
    rw [HWS.out]
    obtain ⟨pb, hpb⟩ : ∃ b, w.heap.size + 1 + 1 + 1 + 1 = b := ⟨_, rfl⟩
    obtain ⟨pr, hpr⟩ : ∃ b, w.heap.size + 1 + 1 + 1 = b := ⟨_, rfl⟩
    obtain ⟨hb, hhb⟩ : ∃ b, w.heap.size + 1 + 1 = b := ⟨_, rfl⟩
    obtain ⟨mb, hmb⟩ : ∃ b, w.heap.size + 1 = b := ⟨_, rfl⟩
    obtain ⟨bb, hbb⟩ : ∃ b, w.heap.size = b := ⟨_, rfl⟩
    have HAP : Hid (∀ b, wS.heap.size ≤ b → b ≠ bb ∧ b ≠ pb ∧ b ≠ hb ∧ b ≠ pr ∧ b ≠ mb ∧ b ≠ k) := Lib.hid fun b hb' => by have := HZS.out; omega
    have HNEW : Hid (w.heap.size ≤ pr ∧ w.heap.size ≤ mb ∧ pr < wS.heap.size ∧ mb < wS.heap.size) := Lib.hid (by have := HZS.out; omega)
    rw [hpb, hpr, hhb, hmb, hbb] at HMS
    rw [hpb, hhb, hbb]
    have HBBL := Lib.hid hbb
    clear hpb hpr hhb hmb hbb hmk hmm HWS
    go_loopw [5, 9] (fun a i wr => ∃ (q e : Nat) (ms : List (Nat × Nat × Nat)) (D : Dm) (pv : List Int), q ≤ bs.length ∧ i = .int .i64 q ∧ wr.ownsRow wS.heap.size 27 3 a ms.length (cellsOf ms) ∧ Hid (Mt wr ⟨bb, pb, hb, pr, mb, k, o, c⟩ bs D pv) ∧ Hid (HeadOk D q bs.length ∧ PrevOk pv q ∧ Maps.size D ≤ q) ∧ Hid (GoodTo bs 32768 ms e ∧ e ≤ q ∧ ms.length ≤ q ∧ (32768 ≤ 0 → ms = [])) ∧ Hid (Below w.heap.size w wr ∧ wS.heap.size ≤ wr.heap.size)) (fun _ i _ => bs.length - (RowKit.intOf i).toNat)
    case atStart =>
      refine ⟨0, 0, [], _, _, Nat.zero_le _, rfl, World.ownsRow_nil _ _ _ _, HMS, Lib.hid ⟨head_empty _ _, fun q hq h0 => absurd h0 (by omega), Nat.le_refl _⟩, Lib.hid ⟨.nil, Nat.le_refl _, Nat.le_refl _, fun _ => rfl⟩, Lib.hid ⟨HBS.out, Nat.le_refl _⟩⟩
    case round =>
      obtain ⟨q, e, ms, D, pv, hq, rfl, hown, HM, HI, HG, HB⟩ := hrel
      have hb0 := HM.out.b
      simp only at hb0
      obtain ⟨ua, ul, uc, rfl⟩ := slice_of_row hown
      obtain rfl := owned_len hown
      by_cases hin : q + 3 ≤ bs.length
      · have s1 : (q : Int) + 3 ≤ (bs.length : Int) := by omega
        by_cases hpos : 0 < 32768
        · have hil : q + 2 < bs.length := by omega
          have a0 := HM.out.arr q (by omega)
          have a1 := HM.out.arr (q + 1) (by omega)
          have a2 := HM.out.arr (q + 2) (by omega)
          simp only at a0 a1 a2
          rw [← Nat.add_assoc] at a1 a2
          obtain ⟨K, hK⟩ : ∃ K, K = key3 (bs[q]'(by omega)) (bs[q + 1]'(by omega)) (bs[q + 2]'(by omega)) := ⟨_, rfl⟩
          have hKw : (Lit.int .u32 K).wf = true := by rw [hK]; exact key3_wf _ _ _
          have C3 : ∀ m, Calls Try.prog 12 #[.slice (some ⟨k, o + q, none⟩) (bs.length - q) (c - q)] (wr.drewN m) fun e w' => e = .returned (.int .u32 K) ∧ ∃ m', w' = (wr.drewN m).drewN m' := fun m => by rw [hK]; exact three_any k (o + q) (bs.length - q) (c - q) _ _ _ (wr.drewN m) (by omega) a0 a1 a2
          have hsl := slice_from k o bs.length c q (by omega) (by omega)
          have hkey : keyOf Try.prog 37 (.int .u32 K) = some (.int .u32 K) := keyOf_int_mk Try.underlying37 hKw
          have hlk : ∃ c0 : Int, (∀ m, (Instr.lookup 35 (.map (some mb)) (.int .u32 K) true).run Try.prog (wr.drewN m) = .ok (.tuple #[.int .i64 c0, .bool (Maps.has D (.int .u32 K))]) (wr.drewN m)) ∧ (Maps.has D (.int .u32 K) = true → 0 ≤ c0 ∧ c0 < q ∧ c0 + 3 ≤ bs.length) := by
            obtain ⟨v, ps, hrun, hv⟩ := HM.out.own.look_ok law Try.underlying35 (zeroE wr) (zd := .lit (.int .i64 0)) (zp := []) (plainElem_int Try.underlying3 (by decide)) hkey
            obtain ⟨c0, rfl, hc0, _⟩ := plainElem_int_inv Try.underlying3 hv
            simp only [Prod.mk.injEq] at hc0
            refine ⟨c0, fun m => ?_, fun hh => ?_⟩
            · obtain ⟨v2, ps2, hrun2, hv2⟩ := (owns_frame (w' := wr.drewN m) HM.out.own rfl).look_ok law Try.underlying35 (zeroE _) (zd := .lit (.int .i64 0)) (zp := []) (plainElem_int Try.underlying3 (by decide)) hkey
              obtain ⟨c2, rfl, hc2, _⟩ := plainElem_int_inv Try.underlying3 hv2
              simp only [Prod.mk.injEq] at hc2
              have : c2 = c0 := by have := hc2.1.symm.trans hc0.1; injection this with h1; injection h1
              rw [← this]
              exact hrun2
            · obtain ⟨c1, e1, e2, e3⟩ := HI.out.1 K hh
              have : c0 = (c1 : Int) := by have := hc0.1.symm.trans e1; injection this with h1; injection h1
              omega
          obtain ⟨c0, hlk, hc0⟩ := hlk
          have hh0 := HM.out.h
          simp only at hh0
          obtain ⟨ok, hok⟩ : ∃ ok, ok = Maps.has D (.int .u32 K) := ⟨_, rfl⟩
          rw [← hok] at hlk hc0
          have HC0 := Lib.hid hc0
          clear hK hKw hkey a0 a1 a2 hok hc0
          go_wp2_with fail
          go_quiet ((go_at_call 12; exact Calls.quiet_of (C3 _)))
          obtain ⟨wq, hwq⟩ : ∃ wq, wr.drewN nq = wq := ⟨_, rfl⟩
          have HMq : Hid (Mt wq ⟨bb, pb, hb, pr, mb, k, o, c⟩ bs D pv) := Lib.hid (by rw [← hwq]; exact HM.out.same (Turn.drewN wr nq []))
          have HBq : Hid (Below w.heap.size w wq ∧ wS.heap.size ≤ wq.heap.size) := Lib.hid (by rw [← hwq]; exact ⟨HB.out.1.trans ((Turn.drewN wr nq []).below HB.out.1.size (fun b hb => by cases hb)), HB.out.2⟩)
          have hownq : wq.ownsRow wS.heap.size 27 3 (.slice ua ms.length uc) ms.length (cellsOf ms) := by rw [← hwq]; exact hown
          rw [hwq]
          clear hwq HM HB hown C3 hsl hlk hb0 hh0
          go_upto_block 2 with (fail)
          go_cut [10, 11] (fun s10 s11 wx => ∃ bt at_ m : Nat, s10 = .int .i64 bt ∧ s11 = .int .i64 at_ ∧ Hid (Best bs 32768 q bt at_) ∧ Hid (wx = wq.drewN m))
          case first =>
            clear hownq
            have HST : Hid (ok = true → -1 ≤ c0 ∧ c0 < q ∧ (0 ≤ c0 → c0 + 3 ≤ bs.length)) := Lib.hid fun h => by
              have := HC0.out h
              omega
            go_wp2_with fail
            go_loopw [10, 11, 12, 14] (fun b a p n wx => ∃ (bt at_ nn m : Nat) (pp : Int), b = .int .i64 bt ∧ a = .int .i64 at_ ∧ p = .int .i64 pp ∧ n = .int .i64 nn ∧ nn ≤ 48 ∧ Hid (ok = true → -1 ≤ pp ∧ pp < q ∧ (0 ≤ pp → pp + 3 ≤ bs.length)) ∧ Hid (Best bs 32768 q bt at_) ∧ Hid (wx = wq.drewN m)) (fun _ _ _ n _ => 48 - (RowKit.intOf n).toNat)
            case atStart => exact ⟨0, 0, 0, 0, c0, rfl, rfl, rfl, rfl, by omega, HST, Lib.hid ⟨by omega, by omega, .inl rfl⟩, Lib.hid rfl⟩
            case round =>
              obtain ⟨bt, at_, nn, m, pp, rfl, rfl, rfl, rfl, hnn, HPP, HBE, HW⟩ := hrel
              cases ok with
              | false =>
                go_wp2
                go_meet
                exact ⟨bt, at_, m, rfl, rfl, HBE, HW⟩
              | true =>
                have hpp := HPP.out rfl
                obtain ⟨p1, p2, p3⟩ := hpp
                by_cases h48 : nn < 48
                · have g1 : (nn : Int) < 48 := by omega
                  by_cases hp0 : 0 ≤ pp
                  · by_cases hrr : (q : Int) - pp ≤ 32768
                    · obtain ⟨x, rfl⟩ : ∃ x : Nat, pp = (x : Int) := ⟨pp.toNat, by omega⟩
                      have hxq : x < q := by omega
                      have hx3 : x + 3 ≤ bs.length := by have := p3 hp0; omega
                      have hMx : Mt wr ⟨bb, pb, hb, pr, mb, k, o, c⟩ bs D pv := by rw [HW.out]; exact HMq.out.same (Turn.drewN wq m [])
                      have CA := Lib.hid (alike_any k o c x q bs wr hMx.arr hxq hq hl)
                      have hb1 := hMx.b
                      simp only at hb1
                      have hpl : x < pv.length := by rw [hMx.len]; omega
                      obtain ⟨v1, v2⟩ := HI.out.2.1 x hpl hxq (by rw [hMx.len]; exact hx3)
                      have HPV := Lib.hid hMx
                      have hwx1 : IntKind.i64.wrap ((q : Int) - (x : Int)) = (q : Int) - (x : Int) := IntWalk.i64_in _ (by omega)
                      clear hMx p1 p2 p3
                      go_wp2_with fail
                      refine CA.out.mono ?_
                      rintro e wy ⟨l, hal, rfl, m', hwy⟩
                      have hMy : Mt wy ⟨bb, pb, hb, pr, mb, k, o, c⟩ bs D pv := by rw [hwy]; exact HPV.out.same (Turn.drewN wr m' [])
                      have HWY : Hid (wy = wq.drewN (m + m')) := Lib.hid (by rw [hwy, HW.out, drewN_drewN])
                      have hp2 := hMy.p
                      have hc2 : wy.cell? ⟨pr, x, none⟩ = some (.int .i64 (pv[x]'hpl)) := by
                        rw [cell_of_block hMy.row]
                        simp [hpl, intV]
                      simp only at hp2
                      generalize pv[x]'hpl = z at hc2 v1 v2
                      have g2 : (x : Int) < (bs.length : Int) := by omega
                      have HAL := Lib.hid hal
                      have hl258 := hal.1
                      have hll := hal.2.1
                      have HPN : Hid (true = true → -1 ≤ z ∧ z < q ∧ (0 ≤ z → z + 3 ≤ bs.length)) := Lib.hid fun _ => by omega
                      clear hwy hMy hal CA HPV
                      by_cases hgt : bt < l
                      · have g3 : (bt : Int) < (l : Int) := by omega
                        have HBN : Hid (Best bs 32768 q l x) := Lib.hid ⟨hl258, hll, .inr ⟨HAL.out, hxq, hrr⟩⟩
                        go_wp2
                        go_roundw
                        case measure => simp [RowKit.intOf]; omega
                        case rel => exact ⟨l, x, nn + 1, m + m', z, rfl, rfl, rfl, by go_num, by omega, HPN, HBN, HWY⟩
                      · have g3 : ¬ (bt : Int) < (l : Int) := by omega
                        go_wp2
                        go_roundw
                        case measure => simp [RowKit.intOf]; omega
                        case rel => exact ⟨bt, at_, nn + 1, m + m', z, rfl, rfl, rfl, by go_num, by omega, HPN, HBE, HWY⟩
                    · have hwx1 : IntKind.i64.wrap ((q : Int) - pp) = (q : Int) - pp := IntWalk.i64_in _ (by omega)
                      go_wp2
                      go_meet
                      exact ⟨bt, at_, m, rfl, rfl, HBE, HW⟩
                  · go_wp2
                    go_meet
                    exact ⟨bt, at_, m, rfl, rfl, HBE, HW⟩
                · have g1 : ¬ (nn : Int) < 48 := by omega
                  go_wp2
                  go_meet
                  exact ⟨bt, at_, m, rfl, rfl, HBE, HW⟩
          case rest =>
            obtain ⟨bt, at_, m, rfl, rfl, HBE, HW⟩ := hcut
            rename World => wx
            have HMx : Hid (Mt wx ⟨bb, pb, hb, pr, mb, k, o, c⟩ bs D pv) := Lib.hid (by rw [HW.out]; exact HMq.out.same (Turn.drewN wq m []))
            have HBx : Hid (Below w.heap.size w wx ∧ wS.heap.size ≤ wx.heap.size) := Lib.hid (by rw [HW.out]; exact ⟨HBq.out.1.trans ((Turn.drewN wq m []).below HBq.out.1.size (fun b hb => by cases hb)), HBq.out.2⟩)
            have hownx : wx.ownsRow wS.heap.size 27 3 (.slice ua ms.length uc) ms.length (cellsOf ms) := by rw [HW.out]; exact hownq
            clear hownq HMq HBq HW HC0
            by_cases h3 : 3 ≤ bt
            · have g3 : (3 : Int) ≤ (bt : Int) := by omega
              have hone := best_one HBE.out h3 hR32
              have hmq : ms.length ≤ q := HG.out.2.2.1
              obtain ⟨i0, hi, hz0, hz1, hz2⟩ := info_parts info27
              have hba : at_ ≤ q := by
                rcases HBE.out.2.2 with e | ⟨_, h, _⟩ <;> omega
              have hqb := HBE.out.2.1
              have hb258 := HBE.out.1
              have hwx1 : IntKind.i64.wrap ((q : Int) - (at_ : Int)) = ((q - at_ : Nat) : Int) := by rw [IntWalk.i64_in _ (by omega)]; omega
              have HONE := Lib.hid hone
              obtain ⟨d, hd⟩ : ∃ d, d = q - at_ := ⟨_, rfl⟩
              rw [← hd] at hwx1 HONE
              clear hone hd
              go_wp2_with (first | (at_builtin; refine wpList_append_own_at _ rfl (.tmp 75) (.tmp 82) 24 rfl wS.heap.size 27 i0 (.agg #[.int .i64 0, .int .i64 0, .int .i64 0]) 3 24 Try.underlying24 hi hz0 hz1 hz2 rfl (by decide) _ _ _ rfl (ownsRow_alloc hownx _) ⟨wx.heap.size, 0, none⟩ 1 1 [intV q, intV bt, intV d] rfl rfl (news3 _ _ _ _) (one3 _ _ _) (by unfold maxLen; omega) (by omega) (by have := HBx.out.2; simp; omega) ?_; intro v' wz hown' hgrow hnil hloc; obtain ⟨va, vl, vc, rfl⟩ := slice_of_row hown'; obtain rfl := owned_len hown'))
              have hTz : Turn wx wz (Value.slice ua ms.length uc).ownBlock.toList := (Turn.of_below ((Below.refl wx.heap.size wx).alloc (Nat.le_refl _) (.cells #[.int .i64 q, .int .i64 bt, .int .i64 d] 27)) _).trans (Turn.of_grown hgrow)
              have hOb : ∀ b ∈ (Value.slice ua ms.length uc).ownBlock.toList, wS.heap.size ≤ b := fun b hb' => (own_ge hownx b (by simpa [eq_comm] using hb')).1
              have HMz0 : Hid (Mt wz ⟨bb, pb, hb, pr, mb, k, o, c⟩ bs D pv) := Lib.hid (HMx.out.apart hTz (fun b hb' => HAP.out b (hOb b hb')))
              have HBZ : Hid (Below w.heap.size w wz ∧ wS.heap.size ≤ wz.heap.size) := Lib.hid ⟨HBx.out.1.trans (hTz.below HBx.out.1.size (fun b hb' => by have := hOb b hb'; have := HZS.out; omega)), Nat.le_trans HBx.out.2 hTz.size⟩
              have HOZ : Hid (wz.ownsRow wS.heap.size 27 3 (.slice va (ms.length + 1) vc) (ms ++ [(q, bt, d)]).length (cellsOf (ms ++ [(q, bt, d)]))) := Lib.hid (by rw [cells_snoc, List.length_append]; exact hown')
              clear hTz hOb hown' hgrow hnil hloc hownx HMx HBx hwx1
              have HMz := HMz0
              go_wp2_with fail
              go_loopw [9, 86] (fun i tt wr => ∃ (t : Nat) (D2 : Dm) (pv2 : List Int), t ≤ bt ∧ tt = .int .i64 t ∧ i = .int .i64 (q + t : Nat) ∧ Hid (Mt wr ⟨bb, pb, hb, pr, mb, k, o, c⟩ bs D2 pv2) ∧ Hid (HeadOk D2 (q + t) bs.length ∧ PrevOk pv2 (q + t) ∧ Maps.size D2 ≤ q + t) ∧ Hid (Turn wz wr [pr, mb])) (fun _ tt _ => bt - (RowKit.intOf tt).toNat)
              case atStart => exact ⟨0, D, pv, Nat.zero_le _, rfl, rfl, HMz, HI, Lib.hid (Turn.refl _ _)⟩
              case round =>
                obtain ⟨t, D2, pv2, ht, rfl, rfl, HM2, HI2, HT2⟩ := hrel
                by_cases hts : t < bt
                · have y1 : (t : Int) < (bt : Int) := by omega
                  have CE := Lib.hid (enter_at bb pb hb pr mb k o c bs D2 pv2 (q + t) wr HM2.out HI2.out.1 HI2.out.2.1 hl (by omega) (by have := HI2.out.2.2; omega))
                  have hw9 : IntKind.i64.wrap (((q + t : Nat) : Int) + 1) = ((q + (t + 1) : Nat) : Int) := by rw [IntWalk.i64_in _ (by omega)]; omega
                  go_wp2_with fail
                  refine CE.out.mono ?_
                  rintro e9 w9 ⟨rfl, D3, pv3, hM3, hH3, hP3, hS3, hT3⟩
                  have HM3 := Lib.hid hM3
                  have HI3 : Hid (HeadOk D3 (q + (t + 1)) bs.length ∧ PrevOk pv3 (q + (t + 1)) ∧ Maps.size D3 ≤ q + (t + 1)) := Lib.hid ⟨hH3, hP3, by have := HI2.out.2.2; omega⟩
                  have HT3 : Hid (Turn wz w9 [pr, mb]) := Lib.hid (HT2.out.trans hT3)
                  clear hM3 hH3 hP3 hS3 hT3 CE
                  go_wp2
                  go_roundw
                  case measure => simp [RowKit.intOf]; omega
                  case rel => exact ⟨t + 1, D3, pv3, by omega, by go_num, by first | rfl | go_num, HM3, HI3, HT3⟩
                · have y1 : ¬ (t : Int) < (bt : Int) := by omega
                  have hown9 := ownsRow_turn HOZ.out HT2.out (by have := HNEW.out; intro b hb'; simp only [List.mem_cons, List.not_mem_nil, or_false] at hb'; omega)
                  have HB9 : Hid (Below w.heap.size w wr ∧ wS.heap.size ≤ wr.heap.size) := Lib.hid ⟨HBZ.out.1.trans (HT2.out.below HBZ.out.1.size (fun b hb' => by have := HNEW.out; simp only [List.mem_cons, List.not_mem_nil, or_false] at hb'; omega)), Nat.le_trans HBZ.out.2 HT2.out.size⟩
                  have HG9 : Hid (GoodTo bs 32768 (ms ++ [(q, bt, d)]) (q + bt) ∧ q + bt ≤ q + bt ∧ (ms ++ [(q, bt, d)]).length ≤ q + bt ∧ (32768 ≤ 0 → ms ++ [(q, bt, d)] = [])) := Lib.hid ⟨.snoc HG.out.1 HG.out.2.1 HONE.out, Nat.le_refl _, by simp; omega, fun h => by omega⟩
                  obtain rfl : t = bt := by omega
                  go_wp2
                  go_roundw
                  case measure => simp [RowKit.intOf]; omega
                  case rel => exact ⟨_, _, _, D2, pv2, by omega, rfl, hown9, HM2, HI2, HG9, HB9⟩
            · have g3 : ¬ (3 : Int) ≤ (bt : Int) := by omega
              have hmq : ms.length ≤ q := HG.out.2.2.1
              have HMz0 := HMx
              have HBZ := HBx
              have HOZ := Lib.hid hownx
              clear hownx HMx HBx
              have HMz := HMz0
              go_wp2_with fail
              go_loopw [9, 86] (fun i tt wr => ∃ (t : Nat) (D2 : Dm) (pv2 : List Int), t ≤ 1 ∧ tt = .int .i64 t ∧ i = .int .i64 (q + t : Nat) ∧ Hid (Mt wr ⟨bb, pb, hb, pr, mb, k, o, c⟩ bs D2 pv2) ∧ Hid (HeadOk D2 (q + t) bs.length ∧ PrevOk pv2 (q + t) ∧ Maps.size D2 ≤ q + t) ∧ Hid (Turn wx wr [pr, mb])) (fun _ tt _ => 1 - (RowKit.intOf tt).toNat)
              case atStart => exact ⟨0, D, pv, Nat.zero_le _, rfl, rfl, HMz, HI, Lib.hid (Turn.refl _ _)⟩
              case round =>
                obtain ⟨t, D2, pv2, ht, rfl, rfl, HM2, HI2, HT2⟩ := hrel
                by_cases hts : t < 1
                · have y1 : (t : Int) < (1 : Int) := by omega
                  have CE := Lib.hid (enter_at bb pb hb pr mb k o c bs D2 pv2 (q + t) wr HM2.out HI2.out.1 HI2.out.2.1 hl (by omega) (by have := HI2.out.2.2; omega))
                  have hw9 : IntKind.i64.wrap (((q + t : Nat) : Int) + 1) = ((q + (t + 1) : Nat) : Int) := by rw [IntWalk.i64_in _ (by omega)]; omega
                  go_wp2_with fail
                  refine CE.out.mono ?_
                  rintro e9 w9 ⟨rfl, D3, pv3, hM3, hH3, hP3, hS3, hT3⟩
                  have HM3 := Lib.hid hM3
                  have HI3 : Hid (HeadOk D3 (q + (t + 1)) bs.length ∧ PrevOk pv3 (q + (t + 1)) ∧ Maps.size D3 ≤ q + (t + 1)) := Lib.hid ⟨hH3, hP3, by have := HI2.out.2.2; omega⟩
                  have HT3 : Hid (Turn wx w9 [pr, mb]) := Lib.hid (HT2.out.trans hT3)
                  clear hM3 hH3 hP3 hS3 hT3 CE
                  go_wp2
                  go_roundw
                  case measure => simp [RowKit.intOf]; omega
                  case rel => exact ⟨t + 1, D3, pv3, by omega, by go_num, by first | rfl | go_num, HM3, HI3, HT3⟩
                · have y1 : ¬ (t : Int) < (1 : Int) := by omega
                  have hown9 := ownsRow_turn HOZ.out HT2.out (by have := HNEW.out; intro b hb'; simp only [List.mem_cons, List.not_mem_nil, or_false] at hb'; omega)
                  have HB9 : Hid (Below w.heap.size w wr ∧ wS.heap.size ≤ wr.heap.size) := Lib.hid ⟨HBZ.out.1.trans (HT2.out.below HBZ.out.1.size (fun b hb' => by have := HNEW.out; simp only [List.mem_cons, List.not_mem_nil, or_false] at hb'; omega)), Nat.le_trans HBZ.out.2 HT2.out.size⟩
                  have HG9 : Hid (GoodTo bs 32768 ms e ∧ e ≤ q + 1 ∧ ms.length ≤ q + 1 ∧ (32768 ≤ 0 → ms = [])) := Lib.hid ⟨HG.out.1, by have := HG.out.2.1; omega, by omega, HG.out.2.2.2⟩
                  obtain rfl : t = 1 := by omega
                  go_wp2
                  go_roundw
                  case measure => simp [RowKit.intOf]; omega
                  case rel => exact ⟨_, _, _, D2, pv2, by omega, rfl, hown9, HM2, HI2, HG9, HB9⟩
        · have s2 : ¬ (0 : Int) < 32768 := by omega
          have hmn := HG.out.2.2.1
          obtain ⟨z1, z2⟩ := row_final hown
          have hcap : (ms.length : Int) ≤ (uc : Int) := by have := z1.1; omega
          have HZ := Lib.hid (And.intro z1 z2)
          clear z1 z2 hown HM
          go_wp2_with fail
          go_ret
          exact ⟨_, ms, e, rfl, by rw [HRE.out]; exact HG.out.1, fun h0 => HG.out.2.2.2 (by omega), by omega, HZ.out.2, HB.out.1⟩
      · have s1 : ¬ (q : Int) + 3 ≤ (bs.length : Int) := by omega
        have hmn := HG.out.2.2.1
        obtain ⟨z1, z2⟩ := row_final hown
        have hcap : (ms.length : Int) ≤ (uc : Int) := by have := z1.1; omega
        have HZ := Lib.hid (And.intro z1 z2)
        clear z1 z2 hown HM
        go_wp2_with fail
        go_ret
        exact ⟨_, ms, e, rfl, by rw [HRE.out]; exact HG.out.1, fun h0 => HG.out.2.2.2 (by omega), by omega, HZ.out.2, HB.out.1⟩
end Go.Proofs.Ytiadnngfccbdmaa.Df
