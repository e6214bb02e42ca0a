/- The document's file system: its representation, the plain calls, and what makes both alike. -/
import Derived.Test.YtijdgmbpkfmciaaZu
import Derived.Lib.IndexLaws
import Derived.Sort.Walk0
/- The document's file system (stemmaref1): how it lies; names, find, burn. -/
namespace Go.Proofs.Ytijdgmbpkfmciaa.Fs
open Go.RowKit Go.Maps Go.ChangeMaps Go.WideMaps Go.Joins Go.Sort

abbrev Pr := ByteArray × Nat
abbrev Wt := ByteArray × ByteArray × Int
structure RS where
  quota : Int
  files : List Pr
  now : List Pr
  lasts : List Pr
  wait : List Wt
  fuse : Int
  dead : Bool
structure RG where
  p : Nat
  fv : Value
  nv : Value
  lv : Value
  wv : Value
def prC (x : Pr) : List Value := [.string x.1, .int .i64 x.2]
def wtC (x : Wt) : List Value := [.string x.1, .string x.2.1, .int .i64 x.2.2]
def rblk (r : RG) : List Nat := blkOf r.fv ++ (blkOf r.wv ++ (blkOf r.nv ++ blkOf r.lv))
def rfoot (r : RG) : List Nat := r.p :: rblk r
theorem mem_rfoot {r : RG} {b : Nat} : b ∈ rfoot r ↔ b = r.p ∨ b ∈ blkOf r.fv ∨ b ∈ blkOf r.wv ∨ b ∈ blkOf r.nv ∨ b ∈ blkOf r.lv := by
  simp [rfoot, rblk]
structure RRep (w : World) (r : RG) (R : RS) : Prop where
  cells : w.heap[r.p]? = some (.cells #[.int .i64 R.quota, r.fv, r.nv, r.lv, r.wv, .int .i64 R.fuse, .bool R.dead] 90 (0, 0))
  fl : w.ownsRow 0 105 2 r.fv R.files.length (R.files.flatMap prC)
  nw : w.ownsRow 0 96 2 r.nv R.now.length (R.now.flatMap prC)
  ls : w.ownsRow 0 96 2 r.lv R.lasts.length (R.lasts.flatMap prC)
  wt : w.ownsRow 0 108 3 r.wv R.wait.length (R.wait.flatMap wtC)
  a1 : r.p ∉ rblk r
  a2 : ∀ b ∈ blkOf r.fv, b ∉ blkOf r.wv ∧ b ∉ blkOf r.nv ∧ b ∉ blkOf r.lv
  a3 : ∀ b ∈ blkOf r.wv, b ∉ blkOf r.nv ∧ b ∉ blkOf r.lv

theorem owned_lt {w : World} {e : TypeId} {s n : Nat} {v : Value} {xs : List Value} (h : w.ownsRow 0 e s v n xs) : ∀ b ∈ blkOf v, b < w.heap.size := by
  intro b hb
  rcases h.2 with ⟨rfl, _⟩ | ⟨g, cap, cur, rfl, _, h3, _⟩
  · simp [blkOf, Value.ownBlock] at hb
  · have : b = g := by simpa [blkOf, Value.ownBlock] using hb
    subst this
    exact (Array.getElem?_eq_some_iff.1 h3).1
theorem RRep.lt {w : World} {r : RG} {R : RS} (h : RRep w r R) : ∀ b ∈ rfoot r, b < w.heap.size := by
  intro b hb
  rcases mem_rfoot.1 hb with rfl | e | e | e | e
  · exact (Array.getElem?_eq_some_iff.1 h.cells).1
  · exact owned_lt h.fl b e
  · exact owned_lt h.wt b e
  · exact owned_lt h.nw b e
  · exact owned_lt h.ls b e
theorem owned_frame {w w' : World} {base : Nat} {e : TypeId} {s n : Nat} {v : Value} {xs : List Value} (h : w.ownsRow base e s v n xs) (hb : ∀ b ∈ blkOf v, w'.heap[b]? = w.heap[b]?) : w'.ownsRow base e s v n xs := by
  obtain ⟨h0, h⟩ := h
  refine ⟨h0, ?_⟩
  rcases h with h | ⟨b, cap, cur, rfl, h1, h2, h3⟩
  · exact .inl h
  · exact .inr ⟨b, cap, cur, rfl, h1, (hb b (by simp [blkOf, Value.ownBlock])).trans h2, h3⟩
theorem owned_zero {w : World} {b : Nat} {e : TypeId} {s n : Nat} {v : Value} {xs : List Value} (h : w.ownsRow b e s v n xs) : w.ownsRow 0 e s v n xs := by
  obtain ⟨h0, hrow⟩ := h
  refine ⟨h0, ?_⟩
  rcases hrow with hrow | ⟨g', cap, cur, r1, r2, r3⟩
  · exact .inl hrow
  · exact .inr ⟨g', cap, cur, r1, Nat.zero_le _, r3⟩
theorem owned_ge {w : World} {b : Nat} {e : TypeId} {s n : Nat} {v : Value} {xs : List Value} (h : w.ownsRow b e s v n xs) : ∀ k ∈ blkOf v, b ≤ k := by
  intro k hk
  rcases h.2 with ⟨rfl, _⟩ | ⟨g, cap, cur, rfl, h2, _⟩
  · simp [blkOf, Value.ownBlock] at hk
  · have : k = g := by simpa [blkOf, Value.ownBlock] using hk
    omega
theorem owned_slice {w : World} {b : Nat} {e : TypeId} {s n : Nat} {v : Value} {xs : List Value} (h : w.ownsRow b e s v n xs) : ∃ a c, v = .slice a n c := by
  rcases h.2 with ⟨h1, h2⟩ | ⟨g, cap, cur, h1, _⟩
  · exact ⟨none, 0, by rw [h1, h2]⟩
  · exact ⟨_, _, h1⟩
theorem RRep.frame {w w' : World} {r : RG} {R : RS} (h : RRep w r R) (hb : ∀ b ∈ rfoot r, w'.heap[b]? = w.heap[b]?) : RRep w' r R where
  cells := (hb r.p (mem_rfoot.2 (.inl rfl))).trans h.cells
  fl := owned_frame h.fl fun b hm => hb b (mem_rfoot.2 (.inr (.inl hm)))
  nw := owned_frame h.nw fun b hm => hb b (mem_rfoot.2 (.inr (.inr (.inr (.inl hm)))))
  ls := owned_frame h.ls fun b hm => hb b (mem_rfoot.2 (.inr (.inr (.inr (.inr hm)))))
  wt := owned_frame h.wt fun b hm => hb b (mem_rfoot.2 (.inr (.inr (.inl hm))))
  a1 := h.a1
  a2 := h.a2
  a3 := h.a3
theorem RRep.below {w w' : World} {r : RG} {R : RS} (h : RRep w r R) (hb : Below w.heap.size w w') : RRep w' r R := h.frame fun b hm => hb.block b (h.lt b hm)
theorem RRep.turn {w w' : World} {r : RG} {R : RS} {F : List Nat} (h : RRep w r R) (ht : Turn w w' F) (hF : ∀ b ∈ rfoot r, b ∉ F) : RRep w' r R := h.frame fun b hm => ht.block b (h.lt b hm) (hF b hm)

theorem r_cells {w : World} {p : Nat} {a0 a1 a2 a3 a4 a5 a6 : Value} (h : w.heap[p]? = some (.cells #[a0, a1, a2, a3, a4, a5, a6] 90 (0, 0))) :
    w.cell? ⟨p, 0, none⟩ = some a0 ∧ w.cell? ⟨p, 1, none⟩ = some a1 ∧ w.cell? ⟨p, 2, none⟩ = some a2 ∧ w.cell? ⟨p, 3, none⟩ = some a3 ∧ w.cell? ⟨p, 4, none⟩ = some a4 ∧ w.cell? ⟨p, 5, none⟩ = some a5 ∧ w.cell? ⟨p, 6, none⟩ = some a6 ∧ ∀ o, w.frozen? ⟨p, o, none⟩ = false := by
  refine ⟨?_, ?_, ?_, ?_, ?_, ?_, ?_, fun o => unfrozen_of_block h o⟩ <;> rw [cell_of_block h] <;> rfl

theorem prC_at : ∀ (l : List Pr) (k : Nat) (hk : k < l.length), (l.flatMap prC)[k * 2]? = some (.string (l[k]'hk).1) ∧ (l.flatMap prC)[k * 2 + 1]? = some (.int .i64 (l[k]'hk).2)
  | [], k, hk => absurd hk (by simp)
  | x :: l, 0, _ => ⟨rfl, rfl⟩
  | x :: l, k + 1, hk => by
    have ih := prC_at l k (by simpa using hk)
    have e : (x :: l).flatMap prC = .string x.1 :: .int .i64 x.2 :: l.flatMap prC := rfl
    rw [e, show (k + 1) * 2 = k * 2 + 1 + 1 from by omega, show k * 2 + 1 + 1 + 1 = k * 2 + 1 + 2 from rfl]
    simpa using ih
theorem wtC_at : ∀ (l : List Wt) (k : Nat) (hk : k < l.length), (l.flatMap wtC)[k * 3]? = some (.string (l[k]'hk).1) ∧ (l.flatMap wtC)[k * 3 + 1]? = some (.string (l[k]'hk).2.1) ∧ (l.flatMap wtC)[k * 3 + 2]? = some (.int .i64 (l[k]'hk).2.2)
  | [], k, hk => absurd hk (by simp)
  | x :: l, 0, _ => ⟨rfl, rfl, rfl⟩
  | x :: l, k + 1, hk => by
    have ih := wtC_at l k (by simpa using hk)
    have e : (x :: l).flatMap wtC = .string x.1 :: .string x.2.1 :: .int .i64 x.2.2 :: l.flatMap wtC := rfl
    rw [e, show (k + 1) * 3 = k * 3 + 1 + 1 + 1 from by omega]
    simpa using ih
theorem len_prC (l : List Pr) : (l.flatMap prC).length = l.length * 2 := by
  induction l with
  | nil => rfl
  | cons x l ih => rw [List.flatMap_cons, List.length_append, ih]; simp [prC]; omega
theorem len_wtC (l : List Wt) : (l.flatMap wtC).length = l.length * 3 := by
  induction l with
  | nil => rfl
  | cons x l ih => rw [List.flatMap_cons, List.length_append, ih]; simp [wtC]; omega
theorem one_prC (l : List Pr) : ∀ u ∈ l.flatMap prC, u.oneCell' = true := by
  intro u hu
  obtain ⟨x, _, hx⟩ := List.mem_flatMap.1 hu
  simp only [prC, List.mem_cons, List.not_mem_nil, or_false] at hx
  rcases hx with rfl | rfl <;> rfl
theorem one_wtC (l : List Wt) : ∀ u ∈ l.flatMap wtC, u.oneCell' = true := by
  intro u hu
  obtain ⟨x, _, hx⟩ := List.mem_flatMap.1 hu
  simp only [wtC, List.mem_cons, List.not_mem_nil, or_false] at hx
  rcases hx with rfl | rfl | rfl <;> rfl

theorem owned_cell {w : World} {e : TypeId} {s n c : Nat} {a : Option Addr} {xs : List Value} (h : w.ownsRow 0 e s (.slice a n c) n xs) (hn : 0 < n) :
    ∃ b, a = some ⟨b, 0, none⟩ ∧ n ≤ c ∧ (∀ j u, xs[j]? = some u → w.cell? ⟨b, j, none⟩ = some u) ∧ (∀ o, w.frozen? ⟨b, o, none⟩ = false) ∧ b < w.heap.size := by
  rcases h.2 with ⟨h1, h2⟩ | ⟨g, cap, cur, h1, h2, h3, h4, h5, h6, h7⟩
  · omega
  · cases h1
    refine ⟨g, rfl, h4, fun j u hj => ?_, fun o => unfrozen_of_block h3 o, (Array.getElem?_eq_some_iff.1 h3).1⟩
    rw [← h7, List.getElem?_take] at hj
    rw [World.cell?]
    simp only [h3]
    split at hj
    · simpa using hj
    · cases hj
theorem pr_cell {w : World} {e : TypeId} {c : Nat} {a : Option Addr} {l : List Pr} (h : w.ownsRow 0 e 2 (.slice a l.length c) l.length (l.flatMap prC)) {k : Nat} (hk : k < l.length) :
    ∃ b, a = some ⟨b, 0, none⟩ ∧ l.length ≤ c ∧ w.cell? ⟨b, k * 2, none⟩ = some (.string (l[k]'hk).1) ∧ w.cell? ⟨b, k * 2 + 1, none⟩ = some (.int .i64 (l[k]'hk).2) ∧ (∀ o, w.frozen? ⟨b, o, none⟩ = false) ∧ b < w.heap.size := by
  obtain ⟨b, h1, h2, h3, h4, h5⟩ := owned_cell h (by omega)
  obtain ⟨e1, e2⟩ := prC_at l k hk
  exact ⟨b, h1, h2, h3 _ _ e1, h3 _ _ e2, h4, h5⟩

/-- What a method leaves. -/
def RLeft (w w' : World) (r : RG) (R' : RS) : Prop := ∃ r' : RG, r'.p = r.p ∧ RRep w' r' R' ∧ Turn w w' (rfoot r) ∧ ∀ b ∈ rfoot r', b ∈ rfoot r ∨ w.heap.size ≤ b
theorem RLeft.same {w : World} {r : RG} {R : RS} (h : RRep w r R) : RLeft w w r R := ⟨r, rfl, h, Turn.refl _ _, fun _ hb => .inl hb⟩
theorem RLeft.below {w w' : World} {r : RG} {R : RS} (h : RRep w r R) (hb : Below w.heap.size w w') : RLeft w w' r R := ⟨r, rfl, h.below hb, Turn.of_below hb _, fun _ hb => .inl hb⟩
theorem RLeft.of {w w1 w' : World} {r r1 : RG} {R' : RS} (hp : r1.p = r.p) (ht : Turn w w1 (rfoot r)) (hs : ∀ b ∈ rfoot r1, b ∈ rfoot r ∨ w.heap.size ≤ b) (hl : RLeft w1 w' r1 R') : RLeft w w' r R' := by
  obtain ⟨r', h1, h2, h3, h4⟩ := hl
  refine ⟨r', h1.trans hp, h2, ht.trans h3 hs, fun b hb => ?_⟩
  rcases h4 b hb with h | h
  · exact hs b h
  · exact .inr (Nat.le_trans ht.size h)
theorem RLeft.below_after {w w1 w2 : World} {r : RG} {R : RS} (h : RLeft w w1 r R) (hb : Below w1.heap.size w1 w2) : RLeft w w2 r R := by
  obtain ⟨r', h1, h2, h3, h4⟩ := h
  exact ⟨r', h1, h2.below hb, h3.trans (Turn.of_below hb []) (fun b hb => by cases hb), h4⟩

/-! ### names -/
theorem okN_of {s : ByteArray} : okN s = true ↔ (1 ≤ s.size ∧ s.size ≤ 200 ∧ ∀ k (hk : k < s.size), s[k].toNat ≠ 0) := by
  unfold okN
  simp only [Bool.and_eq_true, decide_eq_true_eq]
  have hsz : s.data.toList.length = s.size := by rw [Array.length_toList]; rfl
  have key : Lib.indexByte s.data.toList 0 < 0 ↔ ∀ k (hk : k < s.size), s[k].toNat ≠ 0 := by
    constructor
    · intro h k hk e
      have h1 := Lib.indexByte_ge s.data.toList 0
      have h2 := Lib.indexByte_none (l := s.data.toList) (c := 0) (by omega) k
      apply h2
      rw [List.getElem?_eq_getElem (by omega)]
      congr 1
      exact UInt8.toNat_inj.1 (by rw [show s.data.toList[k]'(by omega) = s[k] from rfl, e]; rfl)
    · intro h
      by_cases hn : Lib.indexByte s.data.toList 0 < 0
      · exact hn
      · obtain ⟨o, ho⟩ := Int.eq_ofNat_of_zero_le (by omega : 0 ≤ Lib.indexByte s.data.toList 0)
        obtain ⟨h1, _⟩ := Lib.indexByte_some ho
        obtain ⟨hl, e⟩ := List.getElem?_eq_some_iff.1 h1
        exact absurd (show s[o].toNat = 0 from by rw [show s[o] = s.data.toList[o] from rfl, e]; rfl) (h o (by omega))
  rw [key]
set_option maxHeartbeats 2000000 in
set_option maxRecDepth 100000 in
theorem rname_any (s : ByteArray) (hs : s.size ≤ 9223372036854775807) (w : World) :
    Calls Try.prog 57 #[.string s] w fun e w' => e = .returned (.bool (okN s)) ∧ w' = w := by
  have HK := Lib.hid (okN_of (s := s))
  go_enter Try.func57, Try.ntmps57
  go_wp2_with fail
  go_loop [3] (fun i => ∃ k : Nat, k ≤ s.size ∧ i = .int .i64 k ∧ Hid (∀ j (hj : j < s.size), j < k → s[j].toNat ≠ 0)) (fun i => s.size - (RowKit.intOf i).toNat)
  case atStart => exact ⟨0, Nat.zero_le _, rfl, Lib.hid fun j _ hj => absurd hj (Nat.not_lt_zero _)⟩
  case round =>
    obtain ⟨k, hk, rfl, HZ⟩ := hrel
    by_cases hlt : k < s.size
    · have s1 : (k : Int) < (s.size : Int) := by omega
      by_cases hz : s[k].toNat = 0
      · have hz1 : ((s[k].toNat : Int) == 0) = true := beq_iff_eq.2 (by omega)
        have HX : Hid (okN s = false) := Lib.hid (by
          cases hh : okN s with
          | false => rfl
          | true => exact absurd hz ((HK.out.1 hh).2.2 k hlt))
        clear hz
        go_wp2_with fail
        go_ret
        exact ⟨by rw [HX.out]; rfl, rfl⟩
      · have hz1 : ((s[k].toNat : Int) == 0) = false := beq_eq_false_iff_ne.2 (by omega)
        have HZ2 : Hid (∀ j (hj : j < s.size), j < k + 1 → s[j].toNat ≠ 0) := Lib.hid fun j hj hjk => by
          by_cases e : j = k
          · subst e; exact hz
          · exact HZ.out j hj (by omega)
        clear hz
        go_wp2_with fail
        go_round
        case rel => exact ⟨k + 1, by omega, by go_num, HZ2⟩
        case measure => simp [RowKit.intOf]; omega
    · have s1 : ¬ (k : Int) < (s.size : Int) := by omega
      have hall : ∀ j (hj : j < s.size), s[j].toNat ≠ 0 := fun j hj => HZ.out j hj (by omega)
      by_cases h0 : 1 ≤ s.size
      · have d1 : (0 : Int) < (s.size : Int) := by omega
        by_cases h2 : s.size ≤ 200
        · have d2 : (s.size : Int) ≤ 200 := by omega
          have HX : Hid (okN s = true) := Lib.hid (HK.out.2 ⟨h0, h2, hall⟩)
          clear hall
          go_wp2_with fail
          go_ret
          exact ⟨by rw [HX.out]; rfl, rfl⟩
        · have d2 : ¬ (s.size : Int) ≤ 200 := by omega
          have HX : Hid (okN s = false) := Lib.hid (by
            cases hh : okN s with
            | false => rfl
            | true => exact absurd (HK.out.1 hh).2.1 h2)
          clear hall
          go_wp2_with fail
          go_ret
          exact ⟨by rw [HX.out]; rfl, rfl⟩
      · have d1 : ¬ (0 : Int) < (s.size : Int) := by omega
        have HX : Hid (okN s = false) := Lib.hid (by
          cases hh : okN s with
          | false => rfl
          | true => exact absurd (HK.out.1 hh).1 h0)
        clear hall
        go_wp2_with fail
        go_ret
        exact ⟨by rw [HX.out]; rfl, rfl⟩

/-! ### find -/
def findR : List Pr → ByteArray → Int
  | [], _ => -1
  | x :: l, s => if x.1 = s then x.2 else findR l s
theorem findR_at : ∀ (l : List Pr) (s : ByteArray) (k : Nat) (hk : k < l.length), (∀ j (hj : j < l.length), j < k → (l[j]'hj).1 ≠ s) → (l[k]'hk).1 = s → findR l s = (l[k]'hk).2
  | [], _, _, hk, _, _ => absurd hk (by simp)
  | x :: l, s, 0, _, _, h => by
    have h' : x.1 = s := h
    show (if x.1 = s then (x.2 : Int) else _) = _
    rw [if_pos h']; rfl
  | x :: l, s, k + 1, hk, h0, h => by
    have h' : x.1 ≠ s := h0 0 (by simp) (by omega)
    show (if x.1 = s then (x.2 : Int) else findR l s) = _
    rw [if_neg h']
    exact findR_at l s k (by simpa using hk) (fun j hj hjk => h0 (j + 1) (by simpa using hj) (by omega)) h
theorem findR_none : ∀ (l : List Pr) (s : ByteArray), (∀ j (hj : j < l.length), (l[j]'hj).1 ≠ s) → findR l s = -1
  | [], _, _ => rfl
  | x :: l, s, h => by
    have h' : x.1 ≠ s := h 0 (by simp)
    show (if x.1 = s then (x.2 : Int) else findR l s) = _
    rw [if_neg h']
    exact findR_none l s fun j hj => h (j + 1) (by simpa using hj)
theorem findR_ge : ∀ (l : List Pr) (s : ByteArray), -1 ≤ findR l s
  | [], _ => by simp [findR]
  | x :: l, s => by
    show -1 ≤ (if x.1 = s then (x.2 : Int) else findR l s)
    split
    · omega
    · exact findR_ge l s
theorem toList_inj {a b : ByteArray} (h : a.toList = b.toList) : a = b := by
  rw [Lib.toList_data, Lib.toList_data] at h
  exact ByteArray.ext (Array.toList_inj.1 h)
set_option maxHeartbeats 2000000 in
set_option maxRecDepth 100000 in
theorem rfind_any (r : RG) (R : RS) (s : ByteArray) (w : World) (h : RRep w r R) (hl : R.now.length ≤ 1000000000) :
    Calls Try.prog 58 #[.pointer (some ⟨r.p, 0, none⟩), .string s] w fun e w' => e = .returned (.int .i64 (findR R.now s)) ∧ w' = w := by
  obtain ⟨-, -, c2, -, -, -, -, -⟩ := r_cells h.cells
  obtain ⟨na, nc, hv⟩ := owned_slice h.nw
  have hrow := h.nw
  rw [hv] at hrow c2
  have HROW := Lib.hid hrow
  clear h hrow hv
  generalize R.now = L at c2 HROW hl ⊢
  go_enter Try.func58, Try.ntmps58
  go_wp2_with fail
  go_loop [5] (fun i => ∃ k : Nat, k ≤ L.length ∧ i = .int .i64 k ∧ Hid (∀ j (hj : j < L.length), j < k → (L[j]'hj).1 ≠ s)) (fun i => L.length - (RowKit.intOf i).toNat)
  case atStart => exact ⟨0, Nat.zero_le _, rfl, Lib.hid fun j _ hj => absurd hj (Nat.not_lt_zero _)⟩
  case round =>
    obtain ⟨k, hk, rfl, HZ⟩ := hrel
    by_cases hlt : k < L.length
    · have s1 : (k : Int) < (L.length : Int) := by omega
      obtain ⟨b, rfl, hcap, q0, q1, -, -⟩ := pr_cell HROW.out hlt
      have HAT := Lib.hid (findR_at L s k hlt HZ.out)
      have HZ2 : Hid ((L[k]'hlt).1 ≠ s → ∀ j (hj : j < L.length), j < k + 1 → (L[j]'hj).1 ≠ s) := Lib.hid fun hne j hj hjk => by
        by_cases e : j = k
        · subst e; exact hne
        · exact HZ.out j hj (by omega)
      generalize (L[k]'hlt) = x at q0 q1 HAT HZ2
      obtain ⟨x1, x2⟩ := x
      simp only at q0 q1 HAT HZ2
      by_cases he : x1 = s
      · subst he
        have HX := Lib.hid (HAT.out rfl)
        go_wp2_with fail
        go_ret
        exact ⟨by rw [HX.out]; rfl, rfl⟩
      · have he1 : (x1.toList == s.toList) = false := beq_eq_false_iff_ne.2 fun e => he (toList_inj e)
        have HX := Lib.hid (HZ2.out he)
        clear he
        go_wp2_with fail
        go_round
        case rel => exact ⟨k + 1, by omega, by go_num, HX⟩
        case measure => simp [RowKit.intOf]; omega
    · have s1 : ¬ (k : Int) < (L.length : Int) := by omega
      have HX := Lib.hid (findR_none L s fun j hj => HZ.out j hj (by omega))
      go_wp2_with fail
      go_ret
      exact ⟨by rw [HX.out]; rfl, rfl⟩

/-! ### burn -/
def rburned (R : RS) : RS := { R with fuse := burnF R.fuse, dead := R.dead || R.fuse == 0 }
theorem rep_own1 {w w' : World} {r : RG} {R R' : RS} (h : RRep w r R) (ht : Turn w w' [r.p]) (h1 : R'.files = R.files) (h2 : R'.now = R.now) (h3 : R'.lasts = R.lasts) (h4 : R'.wait = R.wait)
    (hc : w'.heap[r.p]? = some (.cells #[.int .i64 R'.quota, r.fv, r.nv, r.lv, r.wv, .int .i64 R'.fuse, .bool R'.dead] 90 (0, 0))) : RRep w' r R' := by
  have hb : ∀ b ∈ rblk r, w'.heap[b]? = w.heap[b]? := fun b hm => ht.block b (h.lt b (List.mem_cons_of_mem _ hm)) (by
    intro e
    have : b = r.p := by simpa using e
    exact h.a1 (this ▸ hm))
  have m1 : ∀ b ∈ blkOf r.fv, b ∈ rblk r := fun b hm => by simp [rblk, hm]
  have m2 : ∀ b ∈ blkOf r.wv, b ∈ rblk r := fun b hm => by simp [rblk, hm]
  have m3 : ∀ b ∈ blkOf r.nv, b ∈ rblk r := fun b hm => by simp [rblk, hm]
  have m4 : ∀ b ∈ blkOf r.lv, b ∈ rblk r := fun b hm => by simp [rblk, hm]
  exact ⟨hc, by rw [h1]; exact owned_frame h.fl fun b hm => hb b (m1 b hm), by rw [h2]; exact owned_frame h.nw fun b hm => hb b (m3 b hm), by rw [h3]; exact owned_frame h.ls fun b hm => hb b (m4 b hm), by rw [h4]; exact owned_frame h.wt fun b hm => hb b (m2 b hm), h.a1, h.a2, h.a3⟩
theorem rleft_own {w w' : World} {r : RG} {R' : RS} (h : RRep w' r R') (ht : Turn w w' [r.p]) : RLeft w w' r R' := ⟨r, rfl, h, ht.mono (fun b hb => .inl (by
  have : b = r.p := by simpa using hb
  exact mem_rfoot.2 (.inl this))), fun _ hb => .inl hb⟩
set_option maxHeartbeats 2000000 in
set_option maxRecDepth 100000 in
theorem rburn_any (r : RG) (R : RS) (w : World) (h : RRep w r R) (hf : -1 ≤ R.fuse) (hf2 : R.fuse < 9223372036854775808) :
    Calls Try.prog 59 #[.pointer (some ⟨r.p, 0, none⟩)] w fun e w' => e = .returned (.bool !(R.fuse == 0)) ∧ RRep w' r (rburned R) ∧ Turn w w' [r.p] := by
  have hT : ∀ o v, Turn w (w.setCell ⟨r.p, o, none⟩ v) [r.p] := fun o v => turn_set w r.p o v
  have HR := Lib.hid h
  obtain ⟨-, -, -, -, -, c5, c6, hfr⟩ := r_cells h.cells
  by_cases hz : R.fuse = 0
  · rw [hz] at c5
    have hb := block_setCell (i := 6) h.cells (.bool true)
    have HB := Lib.hid hb
    have HT := Lib.hid (hT 6 (.bool true))
    have HZ := Lib.hid hz
    clear hb hT h hz hf hf2
    go_enter Try.func59, Try.ntmps59
    go_wp2
    go_ret
    refine ⟨by rw [HZ.out]; rfl, rep_own1 HR.out HT.out rfl rfl rfl rfl ?_, HT.out⟩
    rw [HB.out]
    simp [rburned, burnF, HZ.out]
  · by_cases hn : R.fuse < 0
    · have e : R.fuse = -1 := by omega
      rw [e] at c5
      have HE := Lib.hid e
      clear hT h hz hn e hf hf2
      go_enter Try.func59, Try.ntmps59
      go_wp2
      go_ret
      refine ⟨by rw [HE.out]; rfl, rep_own1 HR.out (Turn.refl _ _) rfl rfl rfl rfl ?_, Turn.refl _ _⟩
      rw [HR.out.cells]
      have e2 : burnF (-1) = -1 := by decide
      simp only [rburned, HE.out, e2]
      simp
    · have hz1 : (R.fuse == 0) = false := beq_eq_false_iff_ne.2 hz
      have hw1 : IntKind.i64.wrap (R.fuse - 1) = R.fuse - 1 := IntWalk.i64_in _ (by omega)
      have hn1 : ¬ R.fuse < 0 := hn
      have hb := block_setCell (i := 5) h.cells (.int .i64 (R.fuse - 1))
      have HB := Lib.hid hb
      have HT := Lib.hid (hT 5 (.int .i64 (R.fuse - 1)))
      have HZ := Lib.hid hz
      have HN := Lib.hid hn
      clear hb hT h hz hn
      go_enter Try.func59, Try.ntmps59
      go_wp2
      go_ret
      refine ⟨rfl, rep_own1 HR.out HT.out rfl rfl rfl rfl ?_, HT.out⟩
      rw [HB.out]
      have h1 := HZ.out
      have h2 := HN.out
      have e : burnF R.fuse = R.fuse - 1 := by unfold burnF; rw [if_neg h1]; omega
      simp [rburned, e, hz1]
end Go.Proofs.Ytijdgmbpkfmciaa.Fs

/- The document's file system in plain words, and how the program's is like it. -/
namespace Go.Proofs.Ytijdgmbpkfmciaa.Fs
open Go.RowKit Go.Maps Go.ChangeMaps Go.WideMaps Go.Joins Go.Sort Go.WideShapes

def lts (a b : ByteArray) : Prop := a.data.toList < b.data.toList
theorem less_iff (a b : ByteArray) : Op.bytesLess a.toList b.toList = true ↔ lts a b := by
  rw [bytesLess_eq, decide_eq_true_eq, Lib.toList_data, Lib.toList_data]; rfl
theorem lts_irrefl (a : ByteArray) : ¬ lts a a := by unfold lts; exact List.lt_irrefl _
theorem lts_trans {a b c : ByteArray} (h1 : lts a b) (h2 : lts b c) : lts a c := by unfold lts at *; exact List.lt_trans h1 h2
theorem lts_total {a b : ByteArray} (h1 : ¬ lts a b) (h2 : a ≠ b) : lts b a := by
  unfold lts at *
  have h3 : b.data.toList ≤ a.data.toList := List.not_lt.1 h1
  by_cases h4 : b.data.toList < a.data.toList
  · exact h4
  · exact absurd (ByteArray.ext (Array.toList_inj.1 (List.le_antisymm (List.not_lt.1 h4) h3))) h2

def ins (s : ByteArray) (f : Int) : List Pr := if 0 ≤ f then [(s, f.toNat)] else []
def lput : List Pr → ByteArray → Int → List Pr
  | [], s, f => ins s f
  | x :: t, s, f => if Op.bytesLess x.1.toList s.toList = true then x :: lput t s f else if x.1 = s then ins s f ++ t else ins s f ++ x :: t
theorem lput_end : ∀ (l : List Pr) (s : ByteArray) (f : Int), (∀ j (hj : j < l.length), Op.bytesLess (l[j]'hj).1.toList s.toList = true) → lput l s f = l ++ ins s f
  | [], _, _, _ => rfl
  | x :: t, s, f, h => by
    have h0 : Op.bytesLess x.1.toList s.toList = true := h 0 (by simp)
    show (if Op.bytesLess x.1.toList s.toList = true then _ else _) = _
    rw [if_pos h0, lput_end t s f fun j hj => h (j + 1) (by simpa using hj)]; rfl
theorem lput_eq : ∀ (l : List Pr) (s : ByteArray) (f : Int) (k : Nat) (hk : k < l.length), (∀ j (hj : j < l.length), j < k → Op.bytesLess (l[j]'hj).1.toList s.toList = true) → Op.bytesLess (l[k]'hk).1.toList s.toList = false → (l[k]'hk).1 = s → lput l s f = l.take k ++ ins s f ++ l.drop (k + 1)
  | [], _, _, _, hk, _, _, _ => absurd hk (by simp)
  | x :: t, s, f, 0, _, _, hn, he => by
    have hn' : Op.bytesLess x.1.toList s.toList = false := hn
    have he' : x.1 = s := he
    show (if Op.bytesLess x.1.toList s.toList = true then _ else if x.1 = s then _ else _) = _
    rw [if_neg (by rw [hn']; simp), if_pos he']; simp
  | x :: t, s, f, k + 1, hk, h, hn, he => by
    have h0 := h 0 (by simp) (by omega)
    have h0' : Op.bytesLess x.1.toList s.toList = true := h0
    show (if Op.bytesLess x.1.toList s.toList = true then _ else _) = _
    rw [if_pos h0', lput_eq t s f k (by simpa using hk) (fun j hj hjk => h (j + 1) (by simpa using hj) (by omega)) hn he]
    simp
theorem lput_ne : ∀ (l : List Pr) (s : ByteArray) (f : Int) (k : Nat) (hk : k < l.length), (∀ j (hj : j < l.length), j < k → Op.bytesLess (l[j]'hj).1.toList s.toList = true) → Op.bytesLess (l[k]'hk).1.toList s.toList = false → (l[k]'hk).1 ≠ s → lput l s f = l.take k ++ ins s f ++ l.drop k
  | [], _, _, _, hk, _, _, _ => absurd hk (by simp)
  | x :: t, s, f, 0, _, _, hn, he => by
    have hn' : Op.bytesLess x.1.toList s.toList = false := hn
    have he' : x.1 ≠ s := he
    show (if Op.bytesLess x.1.toList s.toList = true then _ else if x.1 = s then _ else _) = _
    rw [if_neg (by rw [hn']; simp), if_neg he']; simp
  | x :: t, s, f, k + 1, hk, h, hn, he => by
    have h0' : Op.bytesLess x.1.toList s.toList = true := h 0 (by simp) (by omega)
    show (if Op.bytesLess x.1.toList s.toList = true then _ else _) = _
    rw [if_pos h0', lput_ne t s f k (by simpa using hk) (fun j hj hjk => h (j + 1) (by simpa using hj) (by omega)) hn he]
    simp
theorem lput_len : ∀ (l : List Pr) (s : ByteArray) (f : Int), (lput l s f).length ≤ l.length + 1
  | [], s, f => by show (ins s f).length ≤ _; unfold ins; split <;> simp
  | x :: t, s, f => by
    have ih := lput_len t s f
    have hi : (ins s f).length ≤ 1 := by unfold ins; split <;> simp
    show (if _ then _ else if _ then _ else _ : List Pr).length ≤ _
    split
    · simp; omega
    · split <;> simp <;> omega

def Srt (L : List Pr) : Prop := L.Pairwise fun p q => lts p.1 q.1
theorem mem_ins {s : ByteArray} {f : Int} {p : Pr} : p ∈ ins s f ↔ 0 ≤ f ∧ p = (s, f.toNat) := by
  unfold ins; split <;> simp <;> omega
theorem mem_lput : ∀ {l : List Pr} {s : ByteArray} {f : Int}, Srt l → ∀ p : Pr, p ∈ lput l s f ↔ (p ∈ l ∧ p.1 ≠ s) ∨ p ∈ ins s f
  | [], s, f, _, p => by show p ∈ ins s f ↔ _; simp
  | x :: t, s, f, h, p => by
    obtain ⟨h1, h2⟩ := List.pairwise_cons.1 h
    show p ∈ (if _ then x :: lput t s f else if x.1 = s then ins s f ++ t else ins s f ++ x :: t) ↔ _
    by_cases hl : Op.bytesLess x.1.toList s.toList = true
    · rw [if_pos hl, List.mem_cons, mem_lput h2 p]
      have hx : x.1 ≠ s := fun e => lts_irrefl s (by have := (less_iff _ _).1 hl; rwa [e] at this)
      constructor
      · rintro (rfl | ⟨a, b⟩ | a)
        · exact .inl ⟨List.mem_cons_self, hx⟩
        · exact .inl ⟨List.mem_cons_of_mem _ a, b⟩
        · exact .inr a
      · rintro (⟨a, b⟩ | a)
        · rcases List.mem_cons.1 a with rfl | a
          · exact .inl rfl
          · exact .inr (.inl ⟨a, b⟩)
        · exact .inr (.inr a)
    · rw [if_neg hl]
      have hnl : ¬ lts x.1 s := fun e => hl ((less_iff _ _).2 e)
      by_cases he : x.1 = s
      · rw [if_pos he, List.mem_append]
        have ht : ∀ q ∈ t, q.1 ≠ s := fun q hq e => by
          have := h1 q hq
          rw [he, e] at this
          exact lts_irrefl s this
        constructor
        · rintro (a | a)
          · exact .inr a
          · exact .inl ⟨List.mem_cons_of_mem _ a, ht p a⟩
        · rintro (⟨a, b⟩ | a)
          · rcases List.mem_cons.1 a with rfl | a
            · exact absurd he b
            · exact .inr a
          · exact .inl a
      · rw [if_neg he, List.mem_append]
        have hsx : lts s x.1 := lts_total hnl he
        have ht : ∀ q ∈ x :: t, q.1 ≠ s := fun q hq e => by
          rcases List.mem_cons.1 hq with rfl | hq
          · exact he e
          · have := lts_trans hsx (h1 q hq)
            rw [e] at this
            exact lts_irrefl s this
        constructor
        · rintro (a | a)
          · exact .inr a
          · exact .inl ⟨a, ht p a⟩
        · rintro (⟨a, _⟩ | a)
          · exact .inr a
          · exact .inl a
theorem srt_lput : ∀ {l : List Pr} {s : ByteArray} {f : Int}, Srt l → Srt (lput l s f)
  | [], s, f, _ => by show Srt (ins s f); unfold ins Srt; split <;> simp
  | x :: t, s, f, h => by
    obtain ⟨h1, h2⟩ := List.pairwise_cons.1 h
    have insS : ∀ {r : List Pr}, Srt r → (∀ q ∈ r, lts s q.1) → Srt (ins s f ++ r) := fun {r} hr hq => by
      unfold ins
      split
      · exact List.pairwise_cons.2 ⟨fun q hm => hq q hm, hr⟩
      · exact hr
    show Srt (if _ then x :: lput t s f else if x.1 = s then ins s f ++ t else ins s f ++ x :: t)
    by_cases hl : Op.bytesLess x.1.toList s.toList = true
    · rw [if_pos hl]
      refine List.pairwise_cons.2 ⟨fun q hq => ?_, srt_lput h2⟩
      rcases (mem_lput h2 q).1 hq with ⟨a, _⟩ | a
      · exact h1 q a
      · rw [(mem_ins.1 a).2]; exact (less_iff _ _).1 hl
    · rw [if_neg hl]
      have hnl : ¬ lts x.1 s := fun e => hl ((less_iff _ _).2 e)
      by_cases he : x.1 = s
      · rw [if_pos he]
        exact insS h2 fun q hq => he ▸ h1 q hq
      · rw [if_neg he]
        have hsx : lts s x.1 := lts_total hnl he
        refine insS h fun q hq => ?_
        rcases List.mem_cons.1 hq with rfl | hq
        · exact hsx
        · exact lts_trans hsx (h1 q hq)
theorem findR_mem : ∀ {l : List Pr} {s : ByteArray} {i : Nat}, Srt l → (s, i) ∈ l → findR l s = i
  | x :: t, s, i, h, hm => by
    obtain ⟨h1, h2⟩ := List.pairwise_cons.1 h
    show (if x.1 = s then (x.2 : Int) else findR t s) = _
    rcases List.mem_cons.1 hm with e | hm
    · rw [← e]; simp
    · have hx : x.1 ≠ s := fun e => by
        have := h1 _ hm
        rw [e] at this
        exact lts_irrefl s this
      rw [if_neg hx]
      exact findR_mem h2 hm
theorem findR_not {l : List Pr} {s : ByteArray} (h : ∀ p ∈ l, p.1 ≠ s) : findR l s = -1 := findR_none l s fun j hj => h _ (List.getElem_mem hj)

/-- A map and the document's list of names tell the same. -/
structure LikeR (T : (Nat → Option Nat)) (D : Dm) (L : List Pr) : Prop where
  srt : Srt L
  fwd : ∀ nm i, (nm, i) ∈ L → Maps.has D (kl nm) = true ∧ ∃ x, look D nm = x + 1 ∧ T x = some i
  bwd : ∀ nm, Maps.has D (kl nm) = true → ∃ i, (nm, i) ∈ L
theorem LikeR.congr {T : (Nat → Option Nat)} {D D' : Dm} {L : List Pr} (h : LikeR T D L) (hh : ∀ nm : ByteArray, Maps.has D' (kl nm) = Maps.has D (kl nm) ∧ look D' nm = look D nm) : LikeR T D' L :=
  ⟨h.srt, fun nm i hm => by rw [(hh nm).1, (hh nm).2]; exact h.fwd nm i hm, fun nm hn => h.bwd nm (by rw [← (hh nm).1]; exact hn)⟩
theorem LikeR.more {T T2 : (Nat → Option Nat)} {D : Dm} {L : List Pr} (h : LikeR T D L) (hT : ∀ z u, T z = some u → T2 z = some u) : LikeR T2 D L :=
  ⟨h.srt, fun nm i hm => by obtain ⟨a, x, b, c⟩ := h.fwd nm i hm; exact ⟨a, x, b, hT _ _ c⟩, h.bwd⟩
theorem likeR_empty (T : (Nat → Option Nat)) : LikeR T (.map []) [] := ⟨List.Pairwise.nil, (fun _ _ hm => nomatch hm), (fun _ hn => nomatch hn)⟩
theorem LikeR.put {T : (Nat → Option Nat)} {D : Dm} {L : List Pr} (hD : IsMap D) (h : LikeR T D L) (s : ByteArray) {x i : Nat} (hT : T x = some i) : LikeR T (D.put (kl s) (.lit (.int .i64 (x + 1 : Nat)))) (lput L s i) := by
  refine ⟨srt_lput h.srt, fun nm j hm => ?_, fun nm hn => ?_⟩
  · rcases (mem_lput h.srt _).1 hm with ⟨a, b⟩ | a
    · have b' : nm ≠ s := b
      rw [has_put_other (kl_ne b'), look_put_other b']
      exact h.fwd nm j a
    · have e := (mem_ins.1 a).2
      simp only [Prod.mk.injEq, Int.toNat_natCast] at e
      obtain ⟨rfl, rfl⟩ := e
      exact ⟨has_put_kl hD nm _, x, look_put_same hD nm _, hT⟩
  · by_cases e : nm = s
    · subst e
      exact ⟨i, (mem_lput h.srt _).2 (.inr (mem_ins.2 ⟨by omega, by simp⟩))⟩
    · rw [has_put_other (kl_ne e)] at hn
      obtain ⟨j, hj⟩ := h.bwd nm hn
      exact ⟨j, (mem_lput h.srt _).2 (.inl ⟨hj, e⟩)⟩
theorem LikeR.del {T : (Nat → Option Nat)} {D : Dm} {L : List Pr} (h : LikeR T D L) (s : ByteArray) : LikeR T (D.del (kl s)) (lput L s (-1)) := by
  refine ⟨srt_lput h.srt, fun nm j hm => ?_, fun nm hn => ?_⟩
  · rcases (mem_lput h.srt _).1 hm with ⟨a, b⟩ | a
    · have b' : nm ≠ s := b
      rw [has_del_other (kl_ne b'), look_del_other b']
      exact h.fwd nm j a
    · have := (mem_ins.1 a).1; omega
  · by_cases e : nm = s
    · subst e; rw [has_del_same] at hn; cases hn
    · rw [has_del_other (kl_ne e)] at hn
      obtain ⟨j, hj⟩ := h.bwd nm hn
      exact ⟨j, (mem_lput h.srt _).2 (.inl ⟨hj, e⟩)⟩
theorem LikeR.find {T : (Nat → Option Nat)} {D : Dm} {L : List Pr} (h : LikeR T D L) (s : ByteArray) : (look D s = 0 ∧ findR L s = -1) ∨ ∃ x i, look D s = x + 1 ∧ T x = some i ∧ findR L s = (i : Nat) := by
  cases hh : Maps.has D (kl s) with
  | false =>
    refine .inl ⟨look_none hh, findR_not fun p hp e => ?_⟩
    obtain ⟨p1, p2⟩ := p
    have e' : p1 = s := e
    subst e'
    have := (h.fwd _ _ hp).1
    rw [hh] at this; cases this
  | true =>
    obtain ⟨i, hi⟩ := h.bwd s hh
    obtain ⟨_, x, e1, e2⟩ := h.fwd s i hi
    exact .inr ⟨x, i, e1, e2, findR_mem h.srt hi⟩

def noName : ByteArray := ⟨#[]⟩
def applyW (L : List Pr) (c : Wt) : List Pr := lput (if c.2.1 = noName then L else lput L c.2.1 (-1)) c.1 c.2.2
/-- A change and the document's. -/
def ChR (T : (Nat → Option Nat)) (D : Dm) : Chg → Wt → Prop
  | .create nm f, w => ∃ i : Nat, T f = some i ∧ w = (nm, noName, (i : Int))
  | .rename a b, w => a ≠ b ∧ a ≠ noName ∧ ∃ x i : Nat, look D a = x + 1 ∧ T x = some i ∧ w = (b, a, (i : Int))
  | .remove a, w => w = (a, noName, -1)
theorem ChR.more {T T2 : (Nat → Option Nat)} {D : Dm} {c : Chg} {w : Wt} (h : ChR T D c w) (hT : ∀ z u, T z = some u → T2 z = some u) : ChR T2 D c w := by
  cases c with
  | create nm f => obtain ⟨i, a, b⟩ := h; exact ⟨i, hT _ _ a, b⟩
  | rename a b => obtain ⟨h1, h2, x, i, h3, h4, h5⟩ := h; exact ⟨h1, h2, x, i, h3, hT _ _ h4, h5⟩
  | remove a => exact h
theorem LikeR.app {T : (Nat → Option Nat)} {D : Dm} {L : List Pr} (hD : IsMap D) (h : LikeR T D L) {c : Chg} {w : Wt} (hc : ChR T D c w) : LikeR T (app D c) (applyW L w) := by
  cases c with
  | create nm f =>
    obtain ⟨i, a, rfl⟩ := hc
    show LikeR T (D.put _ _) (lput (if noName = noName then L else _) nm i)
    rw [if_pos rfl]
    exact h.put hD nm a
  | rename a b =>
    obtain ⟨hab, ha, x, i, h1, h2, rfl⟩ := hc
    show LikeR T ((D.put (kl b) (.lit (.int .i64 (look D a : Nat)))).del (kl a)) (lput (if a = noName then L else lput L a (-1)) b i)
    rw [if_neg ha, h1]
    have h3 := (h.del a).put (hD.del _) b h2
    refine h3.congr fun nm => ?_
    by_cases e1 : nm = a
    · subst e1
      rw [has_del_same, look_del_same, has_put_other (kl_ne hab), look_put_other hab, has_del_same, look_del_same]
      exact ⟨rfl, rfl⟩
    · rw [has_del_other (kl_ne e1), look_del_other e1]
      by_cases e2 : nm = b
      · subst e2
        rw [has_put_kl hD, has_put_kl (hD.del _), look_put_same hD, look_put_same (hD.del _)]
        exact ⟨rfl, rfl⟩
      · rw [has_put_other (kl_ne e2), has_put_other (kl_ne e2), look_put_other e2, look_put_other e2, has_del_other (kl_ne e1), look_del_other e1]
        exact ⟨rfl, rfl⟩
  | remove a =>
    obtain rfl : w = (a, noName, -1) := hc
    show LikeR T (D.del _) (lput (if noName = noName then L else _) a (-1))
    rw [if_pos rfl]
    exact h.del a
end Go.Proofs.Ytijdgmbpkfmciaa.Fs

/- The document's calls in plain words; each keeps the likeness. -/
namespace Go.Proofs.Ytijdgmbpkfmciaa.Fs
open Go.RowKit Go.Maps Go.ChangeMaps Go.WideMaps Go.Joins Go.Sort Go.WideShapes

def rchange (R : RS) (c : Wt) : RS := { R with now := applyW R.now c, wait := R.wait ++ [c] }
def rofE (R : RS) (s : ByteArray) : Int := if namedE R.dead [s] = 0 then (if findR R.now s < 0 then 61 else 0) else namedE R.dead [s]
def rcreateE (R : RS) (s : ByteArray) : Int := if namedE R.dead [s] = 0 then (if findR R.now s < 0 then burnV R.fuse else 64) else namedE R.dead [s]
def rcreateS (R : RS) (s : ByteArray) : RS :=
  if namedE R.dead [s] = 0 ∧ findR R.now s < 0 then (if R.fuse = 0 then rburned R else rchange { rburned R with files := R.files ++ [(noName, 0)] } (s, noName, (R.files.length : Int))) else R
def rremoveE (R : RS) (s : ByteArray) : Int := if rofE R s = 0 then burnV R.fuse else rofE R s
def rremoveS (R : RS) (s : ByteArray) : RS := if rofE R s = 0 then (if R.fuse = 0 then rburned R else rchange (rburned R) (s, noName, -1)) else R
def rrenameE (R : RS) (a b : ByteArray) : Int := if namedE R.dead [a, b] = 0 then (if findR R.now a < 0 then 61 else burnV R.fuse) else namedE R.dead [a, b]
def rrenameS (R : RS) (a b : ByteArray) : RS :=
  if namedE R.dead [a, b] = 0 then (if findR R.now a < 0 then R else if R.fuse = 0 then rburned R else if a = b then rburned R else rchange (rburned R) (b, a, findR R.now a)) else R
def rfile (R : RS) (s : ByteArray) : Pr := R.files.getD (findR R.now s).toNat (noName, 0)
def rsyncE (R : RS) (s : ByteArray) : Int := if rofE R s = 0 then burnV R.fuse else rofE R s
def rsyncS (R : RS) (s : ByteArray) : RS :=
  if rofE R s = 0 then (if R.fuse = 0 then rburned R else { rburned R with files := R.files.set (findR R.now s).toNat ((rfile R s).1, (rfile R s).1.size) }) else R
def rused (R : RS) : Nat := (R.now.map fun p => (R.files.getD p.2 (noName, 0)).1.size).sum
def rappendE (R : RS) (s : ByteArray) (n : Nat) : Int := if rofE R s = 0 then (if (n : Int) ≤ R.quota - (rused R : Nat) then burnV R.fuse else 60) else rofE R s
def rappendS (R : RS) (s : ByteArray) (b : ByteArray) : RS :=
  if rofE R s = 0 then (if (b.size : Int) ≤ R.quota - (rused R : Nat) then (if R.fuse = 0 then rburned R else { rburned R with files := R.files.set (findR R.now s).toNat ((rfile R s).1 ++ b, (rfile R s).2) }) else R) else R
def rsyncNamesS (R : RS) : RS := if R.dead then R else if R.fuse = 0 then rburned R else { rburned R with lasts := R.now, wait := [] }
def rsyncNamesE (R : RS) : Int := if R.dead then 50 else burnV R.fuse
def rreadL (R : RS) (s : ByteArray) : ByteArray := if rofE R s = 0 then (rfile R s).1 else noName
def rlisted (R : RS) (p : ByteArray) : List (List UInt8) := (R.now.map fun x => x.1.data.toList).filter fun x => !R.dead && Lib.hasPrefix x p.data.toList
def keepR (data : List Int) (i : Nat) (x : Pr) : Nat := if h : i < data.length then (min (max (data[i]'h) 0) ((x.1.size : Int) - x.2)).toNat else 0
def cutP (data : List Int) (i : Nat) (x : Pr) : Pr := (x.1.extract 0 (x.2 + keepR data i x), (x.1.extract 0 (x.2 + keepR data i x)).size)
def cutR (data : List Int) (L : List Pr) (fs : List Pr) : Nat → List Pr
  | 0 => fs
  | k + 1 => let gs := cutR data L fs k; let i := (L.getD k (noName, 0)).2; gs.set i (cutP data k (gs.getD i (noName, 0)))
def rcrashS (R : RS) (names : Int) (data : List Int) : RS :=
  let L := (R.wait.take (min (max names 0) (R.wait.length : Int)).toNat).foldl applyW R.lasts
  { R with now := L, lasts := L, wait := [], fuse := -1, dead := false, files := cutR data L R.files L.length }

/-- The program's file system is like the document's; T: each file's place there. -/
structure Sim (ids : List Nat) (T : (Nat → Option Nat)) (s : St) (R : RS) : Prop where
  q : R.quota = s.quota
  fu : R.fuse = s.fuse
  de : R.dead = s.dead
  nm : LikeR T s.names R.now
  ls : LikeR T s.lasting R.lasts
  len : R.wait.length = s.changes.length
  ch : ∀ (k : Nat) (a : Chg) (b : Wt), s.changes[k]? = some a → R.wait[k]? = some b → ChR T (replay s.lasting (s.changes.take k)) a b
  fl : ∀ x i, T x = some i → ∃ y : Pr, R.files[i]? = some y ∧ y.1.data.toList = (s.files x).1 ∧ y.2 = (s.files x).2
  keys : ∀ x i, T x = some i → x ∈ ids
  inj : ∀ a b i, T a = some i → T b = some i → a = b

theorem sim_of {ids : List Nat} {T : (Nat → Option Nat)} {s : St} {R : RS} (h : Sim ids T s R) (nm : ByteArray) : rofE R nm = ofE s nm := by
  unfold rofE ofE
  rw [h.de]
  rcases h.nm.find nm with ⟨e1, e2⟩ | ⟨x, i, e1, _, e3⟩
  · rw [e1, e2]; rfl
  · rw [e1, e3, if_neg (show ¬ ((i : Nat) : Int) < 0 by omega), if_neg (show ¬ x + 1 = 0 by omega)]
theorem sim_burned {ids : List Nat} {T : (Nat → Option Nat)} {s : St} {R : RS} (h : Sim ids T s R) : Sim ids T (burned s) (rburned R) :=
  ⟨h.q, by show burnF R.fuse = burnF s.fuse; rw [h.fu], by show (R.dead || R.fuse == 0) = (s.dead || s.fuse == 0); rw [h.de, h.fu], h.nm, h.ls, h.len, h.ch, h.fl, h.keys, h.inj⟩
theorem sim_ids {ids ids' : List Nat} {T : (Nat → Option Nat)} {s : St} {R : RS} (h : Sim ids T s R) (hs : ∀ f ∈ ids, f ∈ ids') : Sim ids' T s R :=
  ⟨h.q, h.fu, h.de, h.nm, h.ls, h.len, h.ch, h.fl, fun x i hx => hs x (h.keys x i hx), h.inj⟩
theorem sim_empty (ids : List Nat) (q : Int) : Sim ids (fun _ => none) (newS q) { quota := q, files := [], now := [], lasts := [], wait := [], fuse := -1, dead := false } :=
  ⟨rfl, rfl, rfl, likeR_empty _, likeR_empty _, rfl, fun k a b h => by simp [newS] at h, fun x i h => by simp at h, fun x i h => by simp at h, fun a b i h => by simp at h⟩

/-- A change, done by both. -/
theorem sim_changed {ids : List Nat} {T : (Nat → Option Nat)} {s : St} {R : RS} {n : Nat} {c : Chg} {w : Wt} (h : Sim ids T s R) (hI : Inv s ids n) (hc : ChR T s.names c w) :
    Sim ids T (changed s c) (if R.fuse = 0 then rburned R else rchange (rburned R) w) := by
  unfold changed
  rw [h.fu]
  by_cases hz : s.fuse = 0
  · rw [if_pos hz, if_pos hz]
    have hb := sim_burned h
    exact ⟨h.q, by show burnF R.fuse = 0; rw [h.fu, hz]; rfl, by show (R.dead || R.fuse == 0) = true; rw [h.fu, hz]; simp, h.nm, h.ls, h.len, h.ch, h.fl, h.keys, h.inj⟩
  · rw [if_neg hz, if_neg hz]
    refine ⟨h.q, by show burnF R.fuse = burnF s.fuse; rw [h.fu], by show (R.dead || R.fuse == 0) = s.dead; rw [h.de, h.fu]; simp [hz], h.nm.app hI.tidy.isMap hc, h.ls, by show (R.wait ++ [w]).length = (s.changes ++ [c]).length; simp [h.len], ?_, h.fl, h.keys, h.inj⟩
    intro k a b ha hb
    have ha' : (s.changes ++ [c])[k]? = some a := ha
    have hb' : (R.wait ++ [w])[k]? = some b := hb
    show ChR T (replay s.lasting ((s.changes ++ [c]).take k)) a b
    by_cases hk : k < s.changes.length
    · rw [List.getElem?_append_left hk] at ha'
      rw [List.getElem?_append_left (by rw [h.len]; exact hk)] at hb'
      rw [List.take_append_of_le_length (by omega)]
      exact h.ch k a b ha' hb'
    · have hk2 : k = s.changes.length := by
        have := (List.getElem?_eq_some_iff.1 ha').1
        simp at this; omega
      subst hk2
      rw [List.getElem?_append_right (Nat.le_refl _)] at ha'
      rw [List.getElem?_append_right (by rw [h.len]; exact Nat.le_refl _), h.len] at hb'
      simp at ha' hb'
      subst ha' hb'
      rw [List.take_append_of_le_length (Nat.le_refl _), List.take_length, ← hI.nm]
      exact hc
def addT (T : Nat → Option Nat) (f i : Nat) : Nat → Option Nat := fun z => if z = f then some i else T z
theorem lookup_fresh {T : Nat → Option Nat} {f i : Nat} (hf : T f = none) : ∀ z u, T z = some u → (addT T f i) z = some u := fun z u hz => by
  unfold addT
  by_cases e : z = f
  · rw [e, hf] at hz; cases hz
  · rw [if_neg e]; exact hz
theorem sim_create {ids : List Nat} {T : (Nat → Option Nat)} {s : St} {R : RS} {n : Nat} (h : Sim ids T s R) (hI : Inv s ids n) (nm : ByteArray) {f : Nat} (hf : f ∉ ids) {ids' : List Nat} (hs : ∀ x ∈ ids, x ∈ ids') (hfi : namedE s.dead [nm] = 0 ∧ look s.names nm = 0 → f ∈ ids') :
    rcreateE R nm = createE s nm ∧ ∃ T', Sim ids' T' (createS s nm f) (rcreateS R nm) := by
  have hz : findR R.now nm < 0 ↔ look s.names nm = 0 := by
    rcases h.nm.find nm with ⟨e1, e2⟩ | ⟨x, i, e1, _, e3⟩
    · rw [e1, e2]; simp
    · rw [e1, e3]; constructor <;> intro e <;> omega
  refine ⟨?_, ?_⟩
  · unfold rcreateE createE
    rw [h.de, h.fu]
    by_cases e : look s.names nm = 0
    · rw [if_pos e, if_pos (hz.2 e)]
    · rw [if_neg e, if_neg (fun x => e (hz.1 x))]
  · unfold rcreateS createS
    rw [h.de]
    by_cases hc : namedE s.dead [nm] = 0 ∧ look s.names nm = 0
    · rw [if_pos hc, if_pos ⟨hc.1, hz.2 hc.2⟩]
      have hnf : T f = none := by
        cases hl : T f with
        | none => rfl
        | some i => exact absurd (h.keys f i hl) hf
      have hT := lookup_fresh (i := R.files.length) hnf
      have hff : (addT T f R.files.length) f = some R.files.length := by simp [addT]
      have inv : ∀ z u, (addT T f R.files.length) z = some u → (z = f ∧ u = R.files.length) ∨ (z ≠ f ∧ T z = some u) := fun z u hzu => by
        unfold addT at hzu
        by_cases e : z = f
        · rw [if_pos e] at hzu
          exact .inl ⟨e, by simpa using hzu.symm⟩
        · rw [if_neg e] at hzu
          exact .inr ⟨e, hzu⟩
      have hlt : ∀ z u, T z = some u → u < R.files.length := fun z u hzu => by
        obtain ⟨y, hy, _⟩ := h.fl z u hzu
        exact (List.getElem?_eq_some_iff.1 hy).1
      have h1 : Sim ids' (addT T f R.files.length) (addFile s f) { R with files := R.files ++ [(noName, 0)] } := by
        refine ⟨h.q, h.fu, h.de, h.nm.more hT, h.ls.more hT, h.len, fun k a b ha hb => (h.ch k a b ha hb).more hT, ?_, ?_, ?_⟩
        · intro x i hx
          rcases inv x i hx with ⟨rfl, rfl⟩ | ⟨hne, hx'⟩
          · exact ⟨(noName, 0), by simp, by simp [addFile, noName], by simp [addFile]⟩
          · obtain ⟨y, e1, e2, e3⟩ := h.fl x i hx'
            refine ⟨y, ?_, ?_, ?_⟩
            · show (R.files ++ [(noName, 0)])[i]? = some y
              rw [List.getElem?_append_left (hlt x i hx')]; exact e1
            · simp only [addFile, if_neg hne]; exact e2
            · simp only [addFile, if_neg hne]; exact e3
        · intro x i hx
          rcases inv x i hx with ⟨rfl, _⟩ | ⟨_, hx'⟩
          · exact hfi hc
          · exact hs x (h.keys x i hx')
        · intro a b i ha hb
          rcases inv a i ha with ⟨ea, ei⟩ | ⟨_, ha'⟩
          · rcases inv b i hb with ⟨eb, _⟩ | ⟨_, hb'⟩
            · rw [ea, eb]
            · have := hlt b i hb'; omega
          · rcases inv b i hb with ⟨_, ei⟩ | ⟨_, hb'⟩
            · have := hlt a i ha'; omega
            · exact h.inj a b i ha' hb'
      have hI1 : Inv (addFile s f) ids' n := (inv_add hI f).mono (fun x hx => (List.mem_cons.1 hx).elim (fun e => e ▸ hfi hc) (hs x)) (Nat.le_refl n)
      by_cases hfz : R.fuse = 0
      · rw [if_pos hfz]
        have hfs : s.fuse = 0 := by rw [← h.fu]; exact hfz
        have e : changed (addFile s f) (.create nm f) = { addFile s f with fuse := 0, dead := true } := by
          unfold changed
          rw [if_pos (show (addFile s f).fuse = 0 from hfs)]
        rw [e]
        refine ⟨T, ⟨h.q, ?_, ?_, h.nm, h.ls, h.len, h.ch, fun x i hx => ?_, fun x i hx => hs x (h.keys x i hx), h.inj⟩⟩
        · show burnF R.fuse = 0
          rw [hfz]; rfl
        · show (R.dead || R.fuse == 0) = true
          rw [hfz]; simp
        · have hne : x ≠ f := fun e => by rw [e, hnf] at hx; cases hx
          have h3 := h.fl x i hx
          simp only [addFile, if_neg hne]
          exact h3
      · rw [if_neg hfz]
        have h2 := sim_changed (c := .create nm f) (w := (nm, noName, (R.files.length : Int))) h1 hI1 ⟨_, hff, rfl⟩
        rw [if_neg (show ¬ ({ R with files := R.files ++ [(noName, 0)] } : RS).fuse = 0 from hfz)] at h2
        exact ⟨_, h2⟩
    · rw [if_neg hc, if_neg (fun x => hc ⟨x.1, hz.1 x.2⟩)]
      exact ⟨T, sim_ids h hs⟩
theorem sim_remove {ids : List Nat} {T : (Nat → Option Nat)} {s : St} {R : RS} {n : Nat} (h : Sim ids T s R) (hI : Inv s ids n) (nm : ByteArray) :
    rremoveE R nm = removeE s nm ∧ Sim ids T (removeS s nm) (rremoveS R nm) := by
  have e := sim_of h nm
  refine ⟨by unfold rremoveE removeE; rw [e, h.fu], ?_⟩
  unfold rremoveS removeS
  rw [e]
  by_cases hz : ofE s nm = 0
  · rw [if_pos hz, if_pos hz]
    exact sim_changed h hI rfl
  · rw [if_neg hz, if_neg hz]; exact h
theorem ok_ne {a : ByteArray} (h : okN a = true) : a ≠ noName := fun e => by
  rw [e] at h
  exact absurd (okN_of.1 h).1 (by decide)
theorem sim_rename {ids : List Nat} {T : (Nat → Option Nat)} {s : St} {R : RS} {n : Nat} (h : Sim ids T s R) (hI : Inv s ids n) (a b : ByteArray) :
    rrenameE R a b = renameE s a b ∧ Sim ids T (renameS s a b) (rrenameS R a b) := by
  have hf := h.nm.find a
  unfold rrenameE renameE rrenameS renameS
  rw [h.de]
  by_cases hn : namedE s.dead [a, b] = 0
  · rw [if_pos hn, if_pos hn, if_pos hn, if_pos hn]
    rcases hf with ⟨e1, e2⟩ | ⟨x, i, e1, e2, e3⟩
    · rw [e1, e2]
      exact ⟨rfl, h⟩
    · have c1 : ¬ ((i : Nat) : Int) < 0 := by omega
      have c2 : ¬ x + 1 = 0 := by omega
      rw [e1, e3, if_neg c1, if_neg c2, if_neg c1, if_neg c2, h.fu]
      refine ⟨rfl, ?_⟩
      by_cases hab : a = b
      · rw [if_pos hab, if_pos hab]
        have := sim_burned h
        split <;> exact this
      · rw [if_neg hab, if_neg hab]
        have h2 := sim_changed (c := .rename a b) (w := (b, a, (i : Int))) h hI ⟨hab, ok_ne ((named_ok hn).2 a (by simp)), x, i, e1, e2, rfl⟩
        rw [h.fu] at h2
        exact h2
  · rw [if_neg hn, if_neg hn, if_neg hn, if_neg hn]
    exact ⟨rfl, h⟩
/-- A file that is there, in both. -/
theorem sim_there {ids : List Nat} {T : (Nat → Option Nat)} {s : St} {R : RS} (h : Sim ids T s R) {nm : ByteArray} (he : ofE s nm = 0) :
    ∃ x i, look s.names nm = x + 1 ∧ T x = some i ∧ findR R.now nm = (i : Nat) ∧ i < R.files.length ∧ R.files[i]? = some (rfile R nm) ∧ (rfile R nm).1.data.toList = (s.files x).1 ∧ (rfile R nm).2 = (s.files x).2 := by
  obtain ⟨-, hl, -⟩ := ofE_zero he
  rcases h.nm.find nm with ⟨e1, _⟩ | ⟨x, i, e1, e2, e3⟩
  · exact absurd e1 hl
  · obtain ⟨y, f1, f2, f3⟩ := h.fl x i e2
    have e : rfile R nm = y := by
      unfold rfile
      rw [e3, Int.toNat_natCast, List.getD_eq_getElem?_getD, f1]; rfl
    rw [← e] at f1 f2 f3
    exact ⟨x, i, e1, e2, e3, (List.getElem?_eq_some_iff.1 f1).1, f1, f2, f3⟩
theorem size_list (b : ByteArray) : b.size = b.data.toList.length := by rw [Array.length_toList]; rfl
/-- One file turns, in both. -/
theorem sim_file {ids : List Nat} {T : (Nat → Option Nat)} {s : St} {R : RS} (h : Sim ids T s R) {x i : Nat} (hx : T x = some i) (y : Pr) (v : List UInt8 × Nat) (h1 : y.1.data.toList = v.1) (h2 : y.2 = v.2) :
    Sim ids T (setFile s x v) { R with files := R.files.set i y } := by
  refine ⟨h.q, h.fu, h.de, h.nm, h.ls, h.len, h.ch, fun z j hz => ?_, h.keys, h.inj⟩
  obtain ⟨u, e1, e2, e3⟩ := h.fl z j hz
  by_cases e : z = x
  · subst e
    rw [hx] at hz; cases hz
    refine ⟨y, ?_, ?_, ?_⟩
    · show (R.files.set i y)[i]? = some y
      rw [List.getElem?_set_self (List.getElem?_eq_some_iff.1 e1).1]
    · simp only [setFile, if_true]; exact h1
    · simp only [setFile, if_true]; exact h2
  · have hne : i ≠ j := fun e' => e (h.inj z x i (e' ▸ hz) hx)
    refine ⟨u, ?_, ?_, ?_⟩
    · show (R.files.set i y)[j]? = some u
      rw [List.getElem?_set_ne hne]; exact e1
    · simp only [setFile, if_neg e]; exact e2
    · simp only [setFile, if_neg e]; exact e3
theorem sim_sync {ids : List Nat} {T : (Nat → Option Nat)} {s : St} {R : RS} (h : Sim ids T s R) (nm : ByteArray) :
    rsyncE R nm = syncE s nm ∧ Sim ids T (syncS s nm) (rsyncS R nm) := by
  have e := sim_of h nm
  refine ⟨by unfold rsyncE syncE; rw [e, h.fu], ?_⟩
  unfold rsyncS syncS
  rw [e]
  by_cases hz : ofE s nm = 0
  · rw [if_pos hz, if_pos hz, h.fu]
    obtain ⟨x, i, e1, e2, e3, e4, e5, e6, e7⟩ := sim_there h hz
    by_cases hf : s.fuse = 0
    · rw [if_pos hf, if_pos hf]; exact sim_burned h
    · rw [if_neg hf, if_neg hf, e3, e1, Int.toNat_natCast, Nat.add_sub_cancel]
      exact sim_file (sim_burned h) e2 _ _ e6 (by rw [size_list, e6])
  · rw [if_neg hz, if_neg hz]; exact h
theorem sim_syncNames {ids : List Nat} {T : (Nat → Option Nat)} {s : St} {R : RS} (h : Sim ids T s R) :
    rsyncNamesE R = syncNamesE s ∧ Sim ids T (syncNamesS s) (rsyncNamesS R) := by
  refine ⟨by unfold rsyncNamesE syncNamesE; rw [h.de, h.fu], ?_⟩
  unfold rsyncNamesS syncNamesS
  rw [h.de, h.fu]
  split
  · exact h
  · split
    · exact sim_burned h
    · have hb := sim_burned h
      exact ⟨hb.q, hb.fu, hb.de, hb.nm, hb.nm, rfl, fun k a b ha => by simp at ha, hb.fl, hb.keys, hb.inj⟩
theorem sim_fuse {ids : List Nat} {T : (Nat → Option Nat)} {s : St} {R : RS} (h : Sim ids T s R) (k : Int) : Sim ids T { s with fuse := k } { R with fuse := k } :=
  ⟨h.q, rfl, h.de, h.nm, h.ls, h.len, h.ch, h.fl, h.keys, h.inj⟩
theorem sim_read {ids : List Nat} {T : (Nat → Option Nat)} {s : St} {R : RS} (h : Sim ids T s R) (nm : ByteArray) : (rreadL R nm).data.toList = readL s nm := by
  unfold rreadL readL
  rw [sim_of h nm]
  by_cases hz : ofE s nm = 0
  · rw [if_pos hz, if_pos hz]
    obtain ⟨x, i, e1, e2, e3, e4, e5, e6, e7⟩ := sim_there h hz
    rw [e6, e1]; rfl
  · rw [if_neg hz, if_neg hz]; rfl
theorem likeR_keys {T : (Nat → Option Nat)} {D : Dm} {L : List Pr} (h : LikeR T D L) (kD : CK D) : keysOf D = L.map fun x => x.1.data.toList := by
  obtain ⟨es, he, hr, hk⟩ := kD
  refine keysOf_is ⟨es, he, apart_of_rising hr⟩ (CK.str ⟨es, he, hr, hk⟩) ?_ ?_ fun x => ?_
  · exact List.pairwise_map.2 (h.srt.imp fun {a b} hab => by unfold lts at hab; exact List.le_of_lt hab)
  · exact List.pairwise_map.2 (h.srt.imp fun {a b} hab e => by unfold lts at hab; rw [e] at hab; exact List.lt_irrefl _ hab)
  · constructor
    · intro hx
      obtain ⟨q, hq, rfl⟩ := List.mem_map.1 hx
      exact (h.fwd q.1 q.2 hq).1
    · intro hx
      have hx' : Maps.has D (kl ⟨x.toArray⟩) = true := by rw [show kl ⟨x.toArray⟩ = .string x by simp [kl]]; exact hx
      obtain ⟨i, hi⟩ := h.bwd _ hx'
      exact List.mem_map.2 ⟨_, hi, by simp⟩
theorem sim_listed {ids : List Nat} {T : (Nat → Option Nat)} {s : St} {R : RS} (h : Sim ids T s R) (kD : CK s.names) (p : ByteArray) : rlisted R p = listed s p := by
  unfold rlisted listed
  rw [likeR_keys h.nm kD, h.de]
  rfl
theorem sim_used {ids : List Nat} {T : (Nat → Option Nat)} {s : St} {R : RS} (h : Sim ids T s R) (kD : CK s.names) (fD : Flat s.names) : rused R = used s := by
  have hk := likeR_keys h.nm kD
  have hp : (R.now.map fun x => x.1.data.toList).Perm (strKeys s.names) := by
    rw [← hk]; exact List.mergeSort_perm _ _
  obtain ⟨es, he, hr, hks⟩ := kD
  have hstr := CK.str ⟨es, he, hr, hks⟩
  let f : List UInt8 → Nat := fun nm => (s.files (look s.names ⟨nm.toArray⟩ - 1)).1.length
  have h1 : rused R = ((R.now.map fun x => x.1.data.toList).map f).sum := by
    unfold rused
    rw [List.map_map]
    congr 1
    refine List.map_congr_left fun p hp => ?_
    obtain ⟨_, x, e1, e2⟩ := h.nm.fwd p.1 p.2 hp
    obtain ⟨y, f1, f2, _⟩ := h.fl x p.2 e2
    show (R.files.getD p.2 (noName, 0)).1.size = (s.files (look s.names ⟨p.1.data.toList.toArray⟩ - 1)).1.length
    rw [List.getD_eq_getElem?_getD, f1, Option.getD_some, size_list, f2]
    have e3 : (⟨p.1.data.toList.toArray⟩ : ByteArray) = p.1 := by simp
    rw [e3, e1]; rfl
  have h2 : used s = ((strKeys s.names).map f).sum := by
    unfold used sumE
    rw [he]
    unfold strKeys entsOf
    simp only [Bool.false_eq_true, if_false, List.map_map]
    congr 1
    refine List.map_congr_left fun p hp => ?_
    obtain ⟨es', e1, hs⟩ := hstr
    rw [he] at e1
    cases e1
    obtain ⟨x, hx⟩ := hs p hp
    have hpk : p.1 = kl ⟨x.toArray⟩ := by rw [hx]; simp [kl]
    have hpv : p.2 = .lit (.int .i64 (look s.names ⟨x.toArray⟩ : Nat)) := by
      rw [← fD ⟨x.toArray⟩, ← hpk, he]
      exact (WideAt.atKey_mem _ (hpk ▸ kl_isKey _) (apart_of_rising hr) hp).symm
    show lenAt s p.2 = (s.files (look s.names ⟨(strOf p.1).toArray⟩ - 1)).1.length
    rw [hpv, hx]
    unfold lenAt
    simp [strOf]
  rw [h1, h2]
  exact (hp.map f).sum_nat
theorem sim_append {ids : List Nat} {T : (Nat → Option Nat)} {s : St} {R : RS} (h : Sim ids T s R) (kD : CK s.names) (fD : Flat s.names) (nm : ByteArray) (b : ByteArray) (bs : List UInt8) (hb : b.data.toList = bs) :
    rappendE R nm b.size = appendE s nm bs.length ∧ Sim ids T (appendS s nm bs) (rappendS R nm b) := by
  have e := sim_of h nm
  have hu := sim_used h kD fD
  have hbs : b.size = bs.length := by rw [size_list, hb]
  refine ⟨by unfold rappendE appendE fitsQ; rw [e, h.fu, h.q, hu, hbs], ?_⟩
  unfold rappendS appendS
  rw [e, hu, h.q, hbs, h.fu]
  by_cases hz : ofE s nm = 0
  · rw [if_pos hz, if_pos hz]
    obtain ⟨x, i, e1, e2, e3, e4, e5, e6, e7⟩ := sim_there h hz
    by_cases hq : fitsQ s bs.length
    · rw [if_pos hq, if_pos (show (bs.length : Int) ≤ s.quota - (used s : Nat) from hq)]
      by_cases hf : s.fuse = 0
      · rw [if_pos hf, if_pos hf]; exact sim_burned h
      · rw [if_neg hf, if_neg hf, e3, e1, Int.toNat_natCast, Nat.add_sub_cancel]
        refine sim_file (sim_burned h) e2 _ _ ?_ e7
        show ((rfile R nm).1 ++ b).data.toList = _
        rw [ByteArray.data_append, Array.toList_append, e6, hb]
    · rw [if_neg hq, if_neg (show ¬ (bs.length : Int) ≤ s.quota - (used s : Nat) from hq)]; exact h
  · rw [if_neg hz, if_neg hz]; exact h

def FL (T : (Nat → Option Nat)) (fS : Nat → List UInt8 × Nat) (fR : List Pr) : Prop := ∀ x i, T x = some i → ∃ y : Pr, fR[i]? = some y ∧ y.1.data.toList = (fS x).1 ∧ y.2 = (fS x).2
theorem cut_like {T : (Nat → Option Nat)} {D : Dm} {L : List Pr} (h : LikeR T D L) (kD : CK D) (inj : ∀ a b i, T a = some i → T b = some i → a = b) (data : List Int) (s : St) (fs : List Pr) (hfl : FL T s.files fs) :
    ∀ k, k ≤ L.length → FL T (cutUpto data D (keysOf D) s k).files (cutR data L fs k)
  | 0, _ => hfl
  | k + 1, hk => by
    have ih := cut_like h kD inj data s fs hfl k (by omega)
    have hkk := likeR_keys h kD
    have hkl : k < (keysOf D).length := by rw [hkk]; simp; omega
    obtain ⟨_, x, e1, e2⟩ := h.fwd (L[k]'(by omega)).1 (L[k]'(by omega)).2 (List.getElem_mem _)
    have hlk : look D ⟨((keysOf D)[k]'hkl).toArray⟩ = x + 1 := by
      have : (keysOf D)[k]'hkl = (L[k]'(by omega)).1.data.toList := by simp only [hkk]; simp
      rw [this, show (⟨(L[k]'(by omega)).1.data.toList.toArray⟩ : ByteArray) = (L[k]'(by omega)).1 from by simp]
      exact e1
    rw [cutUpto_next data D (keysOf D) s k x hkl hlk]
    obtain ⟨y, f1, f2, f3⟩ := ih x _ e2
    have hc : cutR data L fs (k + 1) = (cutR data L fs k).set (L[k]'(by omega)).2 (cutP data k y) := by
      show (cutR data L fs k).set (L.getD k (noName, 0)).2 (cutP data k ((cutR data L fs k).getD (L.getD k (noName, 0)).2 (noName, 0))) = _
      have e : L.getD k (noName, 0) = L[k]'(by omega) := by rw [List.getD_eq_getElem?_getD, List.getElem?_eq_getElem (by omega)]; rfl
      rw [e, List.getD_eq_getElem?_getD, f1]; rfl
    rw [hc]
    generalize (cutUpto data D (keysOf D) s k) = s1 at *
    generalize cutR data L fs k = g1 at *
    have hkp : keepR data k y = keepN data k (s1.files x) := by
      unfold keepR keepN
      split
      · rw [size_list, f2, f3]
      · rfl
    intro z j hz
    obtain ⟨u, g1', g2, g3⟩ := ih z j hz
    by_cases e : z = x
    · subst e
      rw [e2] at hz; cases hz
      refine ⟨cutP data k y, ?_, ?_, ?_⟩
      · rw [List.getElem?_set_self (List.getElem?_eq_some_iff.1 f1).1]
      · simp only [setFile, if_true, cutP, cutFile, hkp, f3, ← f2]
        simp
      · simp only [setFile, if_true, cutP, cutFile, hkp, f3, ← f2]
        rw [size_list]; simp
    · have hne : (L[k]'(by omega)).2 ≠ j := fun e' => e (inj z x _ (e' ▸ hz) e2)
      refine ⟨u, ?_, ?_, ?_⟩
      · rw [List.getElem?_set_ne hne]; exact g1'
      · simp only [setFile, if_neg e]; exact g2
      · simp only [setFile, if_neg e]; exact g3
theorem likeR_replay {ids : List Nat} {T : (Nat → Option Nat)} {s : St} {R : RS} {n : Nat} (h : Sim ids T s R) (hI : Inv s ids n) : ∀ k, LikeR T (replay s.lasting (s.changes.take k)) ((R.wait.take k).foldl applyW R.lasts)
  | 0 => by rw [List.take_zero, List.take_zero]; exact h.ls
  | k + 1 => by
    have ih := likeR_replay h hI k
    by_cases hk : k < s.changes.length
    · have hk' : k < R.wait.length := by rw [h.len]; exact hk
      rw [replay_next _ _ _ hk, List.take_add_one, List.getElem?_eq_getElem hk', List.foldl_append]
      exact ih.app (replay_tidy hI.td _).isMap (h.ch k _ _ (List.getElem?_eq_getElem hk) (List.getElem?_eq_getElem hk'))
    · have e1 : s.changes.take (k + 1) = s.changes.take k := by rw [List.take_of_length_le (by omega), List.take_of_length_le (by omega)]
      have e2 : R.wait.take (k + 1) = R.wait.take k := by rw [List.take_of_length_le (by rw [h.len]; omega), List.take_of_length_le (by rw [h.len]; omega)]
      rw [e1, e2]; exact ih
theorem sim_crash {ids : List Nat} {T : (Nat → Option Nat)} {s : St} {R : RS} {n : Nat} (h : Sim ids T s R) (hI : Inv s ids n) (kL : CK s.lasting) (names : Int) (data : List Int) : Sim ids T (crashS s names data) (rcrashS R names data) := by
  unfold crashS rcrashS
  rw [h.len]
  generalize (min (max names 0) (s.changes.length : Int)).toNat = N
  have hl := likeR_replay h hI N
  have kD : CK (replay s.lasting (s.changes.take N)) := kL.replay fun c hc => hI.sm c (List.mem_of_mem_take hc)
  simp only
  generalize replay s.lasting (s.changes.take N) = D at hl kD ⊢
  generalize (R.wait.take N).foldl applyW R.lasts = L at hl ⊢
  have hkl : (keysOf D).length = L.length := by rw [likeR_keys hl kD]; simp
  rw [hkl]
  have hn := cutUpto_names data D (keysOf D) { s with names := D } L.length
  refine ⟨?_, rfl, rfl, ?_, hl, rfl, fun k a b ha => by simp at ha, cut_like hl kD h.inj data { s with names := D } R.files h.fl L.length (Nat.le_refl _), h.keys, h.inj⟩
  · show R.quota = (cutUpto data D (keysOf D) { s with names := D } L.length).quota
    rw [hn.2.2.2]; exact h.q
  · show LikeR T (cutUpto data D (keysOf D) { s with names := D } L.length).names L
    rw [hn.1]; exact hl
theorem sim_copy {ids ids' : List Nat} {T : Nat → Option Nat} {s s' : St} {R : RS} {n : Nat} {Tc : List (Nat × Nat)} (h : Sim ids T s R) (hI : Inv s ids n) (hI' : Inv s' ids' n) (hL : IsMap s'.lasting) (ha : Alike Tc s s') : ∃ T', Sim ids' T' s' R := by
  classical
  let T' : Nat → Option Nat := fun y => if hy : y ∈ ids' ∧ ∃ x i, Tc.lookup x = some y ∧ T x = some i then T hy.2.choose else none
  have key : ∀ y i, T' y = some i ↔ (y ∈ ids' ∧ ∃ x, Tc.lookup x = some y ∧ T x = some i) := fun y i => by
    constructor
    · intro hy
      by_cases hc : y ∈ ids' ∧ ∃ x i, Tc.lookup x = some y ∧ T x = some i
      · have e : T' y = T hc.2.choose := by simp only [T']; rw [dif_pos hc]
        rw [e] at hy
        obtain ⟨j, h1, h2⟩ := hc.2.choose_spec
        exact ⟨hc.1, _, h1, hy⟩
      · have e : T' y = none := by simp only [T']; rw [dif_neg hc]
        rw [e] at hy; cases hy
    · rintro ⟨hy, x, h1, h2⟩
      have hc : y ∈ ids' ∧ ∃ x i, Tc.lookup x = some y ∧ T x = some i := ⟨hy, x, i, h1, h2⟩
      have e : T' y = T hc.2.choose := by simp only [T']; rw [dif_pos hc]
      obtain ⟨j, h3, h4⟩ := hc.2.choose_spec
      rw [e, ha.inj _ x y h3 h1]; exact h2
  have like : ∀ {D D' : Dm} {L : List Pr}, LikeR T D L → Like Tc D D' → IdsD D' ids' → LikeR T' D' L := fun {D D' L} hl hk hid => by
    refine ⟨hl.srt, fun nm i hm => ?_, fun nm hn => hl.bwd nm (by rw [← (hk nm).1]; exact hn)⟩
    obtain ⟨h1, x, h2, h3⟩ := hl.fwd nm i hm
    have h4 := (hk nm).1.trans h1
    obtain ⟨x', y, e1, e2, e3⟩ := (hk nm).2 h4
    obtain rfl : x = x' := by omega
    obtain ⟨f, hf, e4⟩ := hid nm h4
    obtain rfl : y = f := by omega
    exact ⟨h4, y, e2, (key y i).2 ⟨hf, x, e3, h3⟩⟩
  have hid0 : IdsD s'.lasting ids' := by have := hI'.ids 0; rwa [List.take_zero] at this
  refine ⟨T', ?_, ?_, ?_, like h.nm ha.nm hI'.names, like h.ls ha.ls hid0, ?_, ?_, ?_, fun y i hy => ((key y i).1 hy).1, ?_⟩
  · rw [ha.q]; exact h.q
  · rw [ha.fu]; exact h.fu
  · rw [ha.de]; exact h.de
  · rw [ha.ch.1]; exact h.len
  · intro k a b hka hkb
    have hk' : k < s'.changes.length := (List.getElem?_eq_some_iff.1 hka).1
    have hk : k < s.changes.length := by rw [← ha.ch.1]; exact hk'
    have h1 := h.ch k _ b (List.getElem?_eq_getElem hk) hkb
    have h2 := ha.ch.2 k _ a (List.getElem?_eq_getElem hk) hka
    have h3 := like_replay hI hL ha.ls ha.ch k
    have hsc := List.getElem?_eq_getElem hk
    generalize s.changes[k] = c at h1 h2 hsc
    have hid := hI'.ids k
    cases c with
    | create nm f =>
      cases a with
      | create nm2 y =>
        obtain ⟨rfl, h4⟩ := h2
        obtain ⟨i, h5, h6⟩ := h1
        exact ⟨i, (key y i).2 ⟨create_in hI' hka, f, h4, h5⟩, h6⟩
      | rename _ _ => exact h2.elim
      | remove _ => exact h2.elim
    | rename a1 b1 =>
      cases a with
      | create _ _ => exact h2.elim
      | rename a2 b2 =>
        obtain ⟨rfl, rfl⟩ := h2
        obtain ⟨h5, h6, x, i, h7, h8, h9⟩ := h1
        have hh := (h3 a1).1.trans (rename_has hI hsc h5)
        obtain ⟨x', y, e1, e2, e3⟩ := (h3 a1).2 hh
        obtain rfl : x = x' := by omega
        obtain ⟨f, hf, e4⟩ := hid a1 hh
        obtain rfl : y = f := by omega
        exact ⟨h5, h6, y, i, e2, (key y i).2 ⟨hf, x, e3, h8⟩, h9⟩
      | remove _ => exact h2.elim
    | remove a1 =>
      cases a with
      | create _ _ => exact h2.elim
      | rename _ _ => exact h2.elim
      | remove a2 =>
        obtain rfl : a1 = a2 := h2
        exact h1
  · intro y i hy
    obtain ⟨_, x, h1, h2⟩ := (key y i).1 hy
    rw [ha.fl x y h1]
    exact h.fl x i h2
  · intro a b i h1 h2
    obtain ⟨_, x1, e1, e2⟩ := (key a i).1 h1
    obtain ⟨_, x2, e3, e4⟩ := (key b i).1 h2
    obtain rfl := h.inj x1 x2 i e2 e4
    rw [e1] at e3; cases e3; rfl
end Go.Proofs.Ytijdgmbpkfmciaa.Fs
