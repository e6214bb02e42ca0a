/- The document's file system: List, Copy, Crash. -/
import Derived.Test.YtijdgmbpkfmciaaMc
/- The document's file system: List, Copy. -/
namespace Go.Proofs.Ytijdgmbpkfmciaa.Fs
open Go.RowKit Go.Maps Go.ChangeMaps Go.WideMaps Go.Joins Go.Sort

theorem pre_iff (x p : ByteArray) : Lib.hasPrefix x.data.toList p.data.toList = (decide (p.size ≤ x.size) && ((x.extract 0 p.size).toList == p.toList)) := by
  exact (Lib.hasPrefix_raw x p).symm
theorem encStr_of (x : ByteArray) : encStr x.data.toList = .string x := by
  show Value.string ⟨x.data.toList.toArray⟩ = _
  simp
def rkeep (d : Bool) (p : ByteArray) (x : List UInt8) : Bool := !d && Lib.hasPrefix x p.data.toList
def rsel (d : Bool) (p : ByteArray) (N : List Pr) (k : Nat) : List (List UInt8) := ((N.take k).map fun x => x.1.data.toList).filter (rkeep d p)
theorem one_str (x : ByteArray) : ∀ u ∈ [Value.string x], u.oneCell' = true := by
  intro u hu
  have : u = .string x := by simpa using hu
  rw [this]; rfl
set_option maxHeartbeats 4000000 in
set_option maxRecDepth 100000 in
theorem rlist_any (r : RG) (R : RS) (p : ByteArray) (w : World) (h : RRep w r R) (hn : R.now.length ≤ 1000000) (hp : p.size ≤ 9223372036854775807) (hns : ∀ x ∈ R.now, x.1.size ≤ 9223372036854775807) :
    Calls Try.prog 30 #[.pointer (some ⟨r.p, 0, none⟩), .string p] w fun e w' => ∃ v, e = .returned v ∧ w'.ownsRow w.heap.size 9 1 v (rlisted R p).length ((rlisted R p).map encStr) ∧ Below w.heap.size w w' := by
  obtain ⟨-, -, c2, -, -, -, c6, -⟩ := r_cells h.cells
  have hpl := rchange_cells h
  obtain ⟨na, nc, hnv⟩ := owned_slice h.nw
  rw [hnv] at c2
  have HN := Lib.hid (hnv ▸ h.nw : w.ownsRow 0 96 2 (.slice na R.now.length nc) R.now.length (R.now.flatMap prC))
  obtain ⟨i0, hi, hz0, hz1, hz2⟩ := info_parts info9
  have HL : Hid (∀ L : List Pr, L = R.now → rlisted R p = (L.map fun x => x.1.data.toList).filter (rkeep R.dead p)) := Lib.hid fun L hL => by rw [hL]; rfl
  generalize hNL : R.now = N at c2 HN hn hns HL
  have HL2 := Lib.hid (HL.out N rfl)
  clear HL hNL h hnv
  generalize R.dead = D at c6 HL2
  generalize rlisted R p = RL at HL2 ⊢
  go_enter Try.func30, Try.ntmps30
  go_wp2_with fail
  go_loopw [5, 6] (fun ov i wr => ∃ k : Nat, k ≤ N.length ∧ i = .int .i64 k ∧ Hid (wr.ownsRow w.heap.size 9 1 ov (rsel D p N k).length ((rsel D p N k).map encStr)) ∧ Hid (Below w.heap.size w wr)) (fun _ i _ => N.length - (RowKit.intOf i).toNat)
  case atStart => exact ⟨0, Nat.zero_le _, rfl, Lib.hid (World.ownsRow_nil _ _ _ _), Lib.hid (Below.refl _ _)⟩
  case round =>
    obtain ⟨k, hk, rfl, HO, HB⟩ := hrel
    obtain ⟨oa, oc, rfl⟩ := owned_slice HO.out
    have k2 : wr.cell? ⟨r.p, 2, none⟩ = some (.slice na N.length nc) := (HB.out.cell (p := ⟨r.p, 2, none⟩) hpl).trans c2
    have k6 : wr.cell? ⟨r.p, 6, none⟩ = some (.bool D) := (HB.out.cell (p := ⟨r.p, 6, none⟩) hpl).trans c6
    by_cases hlt : k < N.length
    · have s1 : (k : Int) < (N.length : Int) := by omega
      cases D with
      | true =>
        have HE : Hid (RL = []) := Lib.hid (by rw [HL2.out]; exact List.filter_eq_nil_iff.2 fun x _ => by simp [rkeep])
        have HK : Hid (rsel true p N k = []) := Lib.hid (by unfold rsel; exact List.filter_eq_nil_iff.2 fun x _ => by simp [rkeep])
        go_wp2_with fail
        go_ret
        exact ⟨_, rfl, by rw [HE.out, ← HK.out]; exact HO.out, HB.out⟩
      | false =>
        obtain ⟨nb, rfl, hcap, q0, -, -, hbl⟩ := pr_cell HN.out hlt
        have q0' := (HB.out.cell (p := ⟨nb, k * 2, none⟩) hbl).trans q0
        have hxs := hns _ (List.getElem_mem hlt)
        have HTK := Lib.hid (show rsel false p N (k + 1) = rsel false p N k ++ (if rkeep false p (N[k]'hlt).1.data.toList = true then [(N[k]'hlt).1.data.toList] else []) from by
          unfold rsel
          rw [List.take_add_one, List.getElem?_eq_getElem hlt, List.map_append, List.filter_append]
          congr 1
          simp only [Option.toList, List.map_cons, List.map_nil, List.filter_cons, List.filter_nil])
        have hpre := pre_iff (N[k]'hlt).1 p
        clear q0
        generalize (N[k]'hlt).1 = x at q0' hxs HTK hpre
        have hown := HO.out
        have hbs := HB.out.size
        have hlen : (rsel false p N k).length ≤ 1000000 := by unfold rsel; exact Nat.le_trans (List.length_filter_le ..) (by rw [List.length_map, List.length_take]; omega)
        by_cases hsz : p.size ≤ x.size
        · have z1 : (p.size : Int) ≤ (x.size : Int) := by omega
          cases heq : ((x.extract 0 p.size).toList == p.toList) with
          | true =>
            have HX : Hid (rkeep false p x.data.toList = true) := Lib.hid (by unfold rkeep; rw [hpre, heq]; simp [hsz])
            clear hpre
            go_wp2_with (first | (at_builtin; refine wpList_append_own_at _ rfl (.tmp 45) (.tmp 47) 31 rfl w.heap.size 9 i0 (.string ⟨#[]⟩) 1 16 Try.underlying31 hi hz0 hz1 hz2 rfl (by decide) _ _ _ rfl (hown.alloc _) ⟨wr.heap.size, 0, none⟩ 1 1 [.string x] rfl rfl (cell_one_new _ _ _) (one_str x) (by unfold maxLen; omega) (by omega) (by simp; omega) ?_; intro v' w4 hown' hgrow hnil hloc))
            go_roundw
            case measure => simp [RowKit.intOf]; omega
            case rel => exact ⟨k + 1, by omega, by go_num, Lib.hid (by rw [HTK.out, if_pos HX.out, List.length_append, List.map_append, show [x.data.toList].map encStr = [.string x] from by rw [List.map_singleton, encStr_of]]; exact hown'), Lib.hid (below_append HB.out hgrow (own_lo hown))⟩
          | false =>
            have HX : Hid (rkeep false p x.data.toList = false) := Lib.hid (by unfold rkeep; rw [hpre, heq]; simp)
            clear hpre
            go_wp2_with fail
            go_roundw
            case measure => simp [RowKit.intOf]; omega
            case rel => exact ⟨k + 1, by omega, by go_num, Lib.hid (by rw [HTK.out, if_neg (by rw [HX.out]; simp), List.append_nil]; exact hown), HB⟩
        · have z1 : ¬ (p.size : Int) ≤ (x.size : Int) := by omega
          have HX : Hid (rkeep false p x.data.toList = false) := Lib.hid (by unfold rkeep; rw [hpre]; simp [hsz])
          clear hpre
          go_wp2_with fail
          go_roundw
          case measure => simp [RowKit.intOf]; omega
          case rel => exact ⟨k + 1, by omega, by go_num, Lib.hid (by rw [HTK.out, if_neg (by rw [HX.out]; simp), List.append_nil]; exact hown), HB⟩
    · have s1 : ¬ (k : Int) < (N.length : Int) := by omega
      have HE : Hid (RL = rsel D p N k) := Lib.hid (by rw [HL2.out]; unfold rsel; rw [List.take_of_length_le (by omega)])
      go_wp2_with fail
      go_ret
      exact ⟨_, rfl, by rw [HE.out]; exact HO.out, HB.out⟩
end Go.Proofs.Ytijdgmbpkfmciaa.Fs

/- The document's file system: Copy. -/
namespace Go.Proofs.Ytijdgmbpkfmciaa.Fs
open Go.RowKit Go.Maps Go.ChangeMaps Go.WideMaps Go.Joins Go.Sort

theorem grown_same (w : World) (r : Option Nat) : w.grownBy w r := ⟨rfl, rfl, rfl, Nat.le_refl _, fun _ _ _ => rfl⟩
/-- append(v, u...), u nil or not. -/
theorem wpList_append_rows (w : World) {ops : Array Oper} {rest : List Oper} {o : Oper} {a : Act} {Q : Exit → Act → World → Prop} (hgd : o.guard = none) (s x : Operand) (t : TypeId)
    (ho : o.op = .call { callee := .builtin .append, args := #[s, x], argTypes := #[t, t] })
    (base : Nat) (e : TypeId) (i : TypeInfo) (z : Value) (size bytes : Nat) (ht : Try.prog.underlying t = some (.slice e)) (hi : Try.prog.info? e = some i) (hz : i.zero = some z)
    (hsize : i.size = size) (hby : i.bytes = bytes) (hzs : z.cells.size = size) (hsz : 0 < size)
    (v : Value) (n : Nat) (xs : List Value) (hs : a.eval s = v) (hown : w.ownsRow base e size v n xs)
    (u : Value) (m : Nat) (ys : List Value) (hx : a.eval x = u) (hu : w.ownsRow 0 e size u m ys) (h1 : ∀ u ∈ ys, u.oneCell' = true)
    (h63 : n + m ≤ maxLen) (hbytes : (n + m) * bytes ≤ 140737488355328) (hbase : base ≤ w.heap.size)
    (h : ∀ v' w', w'.ownsRow base e size v' (n + m) (xs ++ ys) → w.grownBy w' v.ownBlock → wpList Try.prog ops Q rest (a.put o.dst v') w') :
    wpList Try.prog ops Q (o :: rest) a w := by
  obtain ⟨h0, hu⟩ := hu
  rcases hu with ⟨rfl, rfl⟩ | ⟨g, cap, cur, rfl, _, h3, h4, h5, h6, h7⟩
  · have hy : ys = [] := List.eq_nil_of_length_eq_zero (by simpa using h0)
    subst hy
    exact wpList_append_none w hgd s x t e ho i ht hi hs hown hx (h v w (by simpa using hown) (grown_same _ _))
  · refine wpList_append_own_at w hgd s x t ho base e i z size bytes ht hi hz hsize hby hzs hsz v n xs hs hown ⟨g, 0, none⟩ m cap ys hx h0 (fun j u' hj => ?_) h1 h63 hbytes hbase (fun v' w' a b _ _ => h v' w' a b)
    rw [add_head, World.cell?]
    simp only [h3]
    rw [← h7, List.getElem?_take] at hj
    split at hj
    · simpa using hj
    · cases hj
theorem empty_row (W : World) (e : TypeId) (s H : Nat) (hH : H = W.heap.size) : (W.alloc (.cells #[] e)).ownsRow H e s (.slice (some ⟨H, 0, none⟩) 0 0) 0 [] := by
  subst hH
  exact ⟨by simp, .inr ⟨_, 0, #[], rfl, Nat.le_refl _, (MapKept.heap_alloc W _).1, Nat.le_refl _, Nat.zero_le _, by simp, by simp⟩⟩
structure CSt (w U : World) (cp : Nat) (cs : Array Value) : Prop where
  b : Below w.heap.size w U
  lo : w.heap.size ≤ cp
  hi : cp < U.heap.size
  blk : U.heap[cp]? = some (.cells cs 90 (0, 0))
theorem CSt.next {w U u' : World} {cp e H : Nat} {cs : Array Value} (h : CSt w U cp cs) (hH : H = U.heap.size) (hg : (U.alloc (.cells #[] e)).grownBy u' (some H)) : CSt w u' cp cs ∧ H < u'.heap.size ∧ ∀ b, b < U.heap.size → u'.heap[b]? = U.heap[b]? := by
  have hz := hg.size
  have hz1 : (U.alloc (.cells #[] e)).heap.size = U.heap.size + 1 := by simp
  have hk : ∀ b, b < U.heap.size → u'.heap[b]? = U.heap[b]? := fun b hb => by
    rw [hg.block b (by omega) (by simp; omega), Below.heap_alloc _ _ _ hb]
  have hs := h.b.size
  exact ⟨⟨⟨hg.os.trans h.b.os, hg.tape.trans h.b.tape, hg.output.trans h.b.output, by omega, fun k hk' => (hk k (by omega)).trans (h.b.block k hk')⟩, h.lo, by have := h.hi; omega, (hk cp h.hi).trans h.blk⟩, by omega, hk⟩
theorem CSt.set {w U : World} {cp : Nat} {cs : Array Value} (h : CSt w U cp cs) (i : Nat) (v : Value) : CSt w (U.setCell ⟨cp, i, none⟩ v) cp (cs.setIfInBounds i v) :=
  ⟨h.b.trans ((turn_set U cp i v).below h.b.size fun b hb => by
    have : b = cp := by simpa using hb
    rw [this]; exact h.lo), h.lo, by have := (turn_set U cp i v).size; have := h.hi; omega, block_setCell h.blk v⟩
theorem CSt.cells {w U : World} {cp : Nat} {a0 a1 a2 a3 a4 a5 a6 : Value} (h : CSt w U cp #[a0, a1, a2, a3, a4, a5, a6]) (i : Nat) (hi : i < 7) : ∃ v, U.cell? ⟨cp, i, none⟩ = some v ∧ U.frozen? ⟨cp, i, none⟩ = false := by
  have := r_cells h.blk
  match i, hi with
  | 0, _ => exact ⟨_, this.1, this.2.2.2.2.2.2.2 0⟩
  | 1, _ => exact ⟨_, this.2.1, this.2.2.2.2.2.2.2 1⟩
  | 2, _ => exact ⟨_, this.2.2.1, this.2.2.2.2.2.2.2 2⟩
  | 3, _ => exact ⟨_, this.2.2.2.1, this.2.2.2.2.2.2.2 3⟩
  | 4, _ => exact ⟨_, this.2.2.2.2.1, this.2.2.2.2.2.2.2 4⟩
  | 5, _ => exact ⟨_, this.2.2.2.2.2.1, this.2.2.2.2.2.2.2 5⟩
  | 6, _ => exact ⟨_, this.2.2.2.2.2.2.1, this.2.2.2.2.2.2.2 6⟩

set_option maxHeartbeats 4000000 in
set_option maxRecDepth 100000 in
theorem rcopy_any (r : RG) (R : RS) (w : World) (h : RRep w r R) (hn : R.now.length ≤ 1000000) (hl : R.lasts.length ≤ 1000000) (hw : R.wait.length ≤ 1000000) (hf : R.files.length ≤ 1000000) :
    Calls Try.prog 29 #[.pointer (some ⟨r.p, 0, none⟩)] w fun e w' => ∃ r' : RG, e = .returned (.pointer (some ⟨r'.p, 0, none⟩)) ∧ RRep w' r' R ∧ Below w.heap.size w w' ∧ ∀ b ∈ rfoot r', w.heap.size ≤ b := by
  obtain ⟨c0, c1, c2, c3, c4, c5, c6, -⟩ := r_cells h.cells
  have hpl := rchange_cells h
  obtain ⟨fa, fc, hfv⟩ := owned_slice h.fl
  obtain ⟨na, nc, hnv⟩ := owned_slice h.nw
  obtain ⟨la, lc, hlv⟩ := owned_slice h.ls
  obtain ⟨wa, wc, hwv⟩ := owned_slice h.wt
  rw [hfv] at c1
  rw [hnv] at c2
  rw [hlv] at c3
  rw [hwv] at c4
  have HF := Lib.hid (hfv ▸ h.fl : w.ownsRow 0 105 2 (.slice fa R.files.length fc) R.files.length (R.files.flatMap prC))
  have HN := Lib.hid (hnv ▸ h.nw : w.ownsRow 0 96 2 (.slice na R.now.length nc) R.now.length (R.now.flatMap prC))
  have HLS := Lib.hid (hlv ▸ h.ls : w.ownsRow 0 96 2 (.slice la R.lasts.length lc) R.lasts.length (R.lasts.flatMap prC))
  have HW := Lib.hid (hwv ▸ h.wt : w.ownsRow 0 108 3 (.slice wa R.wait.length wc) R.wait.length (R.wait.flatMap wtC))
  have S0 : Hid (CSt w (w.alloc (.cells #[.int .i64 R.quota, .slice fa R.files.length fc, .slice na R.now.length nc, .slice la R.lasts.length lc, .slice wa R.wait.length wc, .int .i64 R.fuse, .bool R.dead] 90)) w.heap.size #[.int .i64 R.quota, .slice fa R.files.length fc, .slice na R.now.length nc, .slice la R.lasts.length lc, .slice wa R.wait.length wc, .int .i64 R.fuse, .bool R.dead]) :=
    Lib.hid ⟨(Below.refl _ _).alloc (Nat.le_refl _) _, Nat.le_refl _, by simp, (MapKept.heap_alloc w _).1⟩
  have hpne : r.p ≠ w.heap.size := by omega
  have fr : ∀ {U : World} {e : TypeId} {s n : Nat} {v : Value} {xs : List Value} (T : TypeId), Below w.heap.size w U → w.ownsRow 0 e s v n xs → (U.alloc (.cells #[] T)).ownsRow 0 e s v n xs := fun {U e s n v xs} T hb ho =>
    World.ownsRow.alloc (owned_frame ho fun b hm => hb.block b (owned_lt ho b hm)) _
  obtain ⟨i1, hi1, x11, x12, x13⟩ := info_parts info105
  obtain ⟨i2, hi2, x21, x22, x23⟩ := info_parts info96
  obtain ⟨i3, hi3, x31, x32, x33⟩ := info_parts info108
  clear h hfv hnv hlv hwv
  go_enter Try.func29, Try.ntmps29
  go_wp2_with (first
    | (at_builtin; refine wpList_append_rows _ rfl (.tmp 7) (.tmp 11) 86 rfl (w.heap.size + 1) 105 i1 (.agg #[.string ⟨#[]⟩, .int .i64 0]) 2 24 Try.underlying86 hi1 x11 x12 x13 rfl (by decide) (.slice (some ⟨w.heap.size + 1, 0, none⟩) 0 0) 0 [] rfl (empty_row _ 105 2 _ (by simp)) (.slice fa R.files.length fc) R.files.length (R.files.flatMap prC) rfl (fr _ S0.out.b HF.out) (one_prC _) (by unfold maxLen; omega) (by omega) (by simp) ?_; intro v1 w1 ho1 hg1; simp only [Nat.zero_add, List.nil_append] at ho1; obtain ⟨v1a, v1c, rfl⟩ := owned_slice ho1; obtain ⟨S1, z1, k1⟩ := S0.out.next (by simp) hg1; obtain ⟨_, q1, qf1⟩ := S1.cells 1 (by omega); have S1s := Lib.hid (S1.set 1 (.slice v1a R.files.length v1c)); have m1 := ((S1s.out.b.alloc S1s.out.b.size (.cells #[] 96)).cell (p := ⟨r.p, 2, none⟩) hpl).trans c2; have HS1 := Lib.hid S1; have HO1 := Lib.hid ho1; have HK1 := Lib.hid k1; have HZ1 := Lib.hid z1; clear S1 ho1 k1 z1 hg1)
    | (at_builtin; refine wpList_append_rows _ rfl (.tmp 14) (.tmp 18) 87 rfl w1.heap.size 96 i2 (.agg #[.string ⟨#[]⟩, .int .i64 0]) 2 24 Try.underlying87 hi2 x21 x22 x23 rfl (by decide) (.slice (some ⟨w1.heap.size, 0, none⟩) 0 0) 0 [] rfl (empty_row _ 96 2 _ (by simp)) (.slice na R.now.length nc) R.now.length (R.now.flatMap prC) rfl (fr _ S1s.out.b HN.out) (one_prC _) (by unfold maxLen; omega) (by omega) (by simp) ?_; intro v2 w2 ho2 hg2; simp only [Nat.zero_add, List.nil_append] at ho2; obtain ⟨v2a, v2c, rfl⟩ := owned_slice ho2; obtain ⟨S2, z2, k2⟩ := S1s.out.next (by simp) hg2; obtain ⟨_, q2, qf2⟩ := S2.cells 2 (by omega); have S2s := Lib.hid (S2.set 2 (.slice v2a R.now.length v2c)); have m2 := ((S2s.out.b.alloc S2s.out.b.size (.cells #[] 96)).cell (p := ⟨r.p, 3, none⟩) hpl).trans c3; have HS2 := Lib.hid S2; have HO2 := Lib.hid ho2; have HK2 := Lib.hid k2; have HZ2 := Lib.hid z2; clear S2 ho2 k2 z2 hg2)
    | (at_builtin; refine wpList_append_rows _ rfl (.tmp 21) (.tmp 25) 87 rfl w2.heap.size 96 i2 (.agg #[.string ⟨#[]⟩, .int .i64 0]) 2 24 Try.underlying87 hi2 x21 x22 x23 rfl (by decide) (.slice (some ⟨w2.heap.size, 0, none⟩) 0 0) 0 [] rfl (empty_row _ 96 2 _ (by simp)) (.slice la R.lasts.length lc) R.lasts.length (R.lasts.flatMap prC) rfl (fr _ S2s.out.b HLS.out) (one_prC _) (by unfold maxLen; omega) (by omega) (by simp) ?_; intro v3 w3 ho3 hg3; simp only [Nat.zero_add, List.nil_append] at ho3; obtain ⟨v3a, v3c, rfl⟩ := owned_slice ho3; obtain ⟨S3, z3, k3⟩ := S2s.out.next (by simp) hg3; obtain ⟨_, q3, qf3⟩ := S3.cells 3 (by omega); have S3s := Lib.hid (S3.set 3 (.slice v3a R.lasts.length v3c)); have m3 := ((S3s.out.b.alloc S3s.out.b.size (.cells #[] 108)).cell (p := ⟨r.p, 4, none⟩) hpl).trans c4; have HS3 := Lib.hid S3; have HO3 := Lib.hid ho3; have HK3 := Lib.hid k3; have HZ3 := Lib.hid z3; clear S3 ho3 k3 z3 hg3)
    | (at_builtin; refine wpList_append_rows _ rfl (.tmp 28) (.tmp 32) 88 rfl w3.heap.size 108 i3 (.agg #[.string ⟨#[]⟩, .string ⟨#[]⟩, .int .i64 0]) 3 40 Try.underlying88 hi3 x31 x32 x33 rfl (by decide) (.slice (some ⟨w3.heap.size, 0, none⟩) 0 0) 0 [] rfl (empty_row _ 108 3 _ (by simp)) (.slice wa R.wait.length wc) R.wait.length (R.wait.flatMap wtC) rfl (fr _ S3s.out.b HW.out) (one_wtC _) (by unfold maxLen; omega) (by omega) (by simp) ?_; intro v4 w4 ho4 hg4; simp only [Nat.zero_add, List.nil_append] at ho4; obtain ⟨v4a, v4c, rfl⟩ := owned_slice ho4; obtain ⟨S4, z4, k4⟩ := S3s.out.next (by simp) hg4; obtain ⟨_, q4, qf4⟩ := S4.cells 4 (by omega); have S4s := Lib.hid (S4.set 4 (.slice v4a R.wait.length v4c)); have HS4 := Lib.hid S4; have HO4 := Lib.hid ho4; have HK4 := Lib.hid k4; have HZ4 := Lib.hid z4; clear S4 ho4 k4 z4 hg4))
  go_ret
  have t12 : ∀ b, b ≠ w.heap.size → b < w1.heap.size → w2.heap[b]? = w1.heap[b]? := fun b hb hl => (HK2.out b (by simp; omega)).trans ((turn_set w1 w.heap.size 1 _).block b hl (by simpa using hb))
  have t23 : ∀ b, b ≠ w.heap.size → b < w2.heap.size → w3.heap[b]? = w2.heap[b]? := fun b hb hl => (HK3.out b (by simp; omega)).trans ((turn_set w2 w.heap.size 2 _).block b hl (by simpa using hb))
  have t34 : ∀ b, b ≠ w.heap.size → b < w3.heap.size → w4.heap[b]? = w3.heap[b]? := fun b hb hl => (HK4.out b (by simp; omega)).trans ((turn_set w3 w.heap.size 3 _).block b hl (by simpa using hb))
  have t45 : ∀ b, b ≠ w.heap.size → b < w4.heap.size → (w4.setCell ⟨w.heap.size, 4, none⟩ (.slice v4a R.wait.length v4c)).heap[b]? = w4.heap[b]? := fun b hb hl => (turn_set w4 w.heap.size 4 _).block b hl (by simpa using hb)
  have g1 := owned_ge HO1.out
  have g2 := owned_ge HO2.out
  have g3 := owned_ge HO3.out
  have g4 := owned_ge HO4.out
  have l1 := owned_lt (owned_zero HO1.out)
  have l2 := owned_lt (owned_zero HO2.out)
  have l3 := owned_lt (owned_zero HO3.out)
  have l4 := owned_lt (owned_zero HO4.out)
  have z1 := HZ1.out
  have z2 := HZ2.out
  have z3 := HZ3.out
  have z4 := HZ4.out
  refine ⟨{ p := w.heap.size, fv := .slice v1a R.files.length v1c, nv := .slice v2a R.now.length v2c, lv := .slice v3a R.lasts.length v3c, wv := .slice v4a R.wait.length v4c }, rfl, ⟨?_, ?_, ?_, ?_, ?_, ?_, ?_, ?_⟩, S4s.out.b, fun b hb => ?_⟩
  · exact S4s.out.blk
  · exact owned_frame (owned_zero HO1.out) fun b hb => by
      have a := g1 b hb
      have c := l1 b hb
      rw [t45 b (by omega) (by omega), t34 b (by omega) (by omega), t23 b (by omega) (by omega), t12 b (by omega) c]
  · exact owned_frame (owned_zero HO2.out) fun b hb => by
      have a := g2 b hb
      have c := l2 b hb
      rw [t45 b (by omega) (by omega), t34 b (by omega) (by omega), t23 b (by omega) c]
  · exact owned_frame (owned_zero HO3.out) fun b hb => by
      have a := g3 b hb
      have c := l3 b hb
      rw [t45 b (by omega) (by omega), t34 b (by omega) c]
  · exact owned_frame (owned_zero HO4.out) fun b hb => by
      have a := g4 b hb
      have c := l4 b hb
      rw [t45 b (by omega) c]
  · intro hm0
    have hm : w.heap.size ∈ blkOf (.slice v1a R.files.length v1c) ++ (blkOf (.slice v4a R.wait.length v4c) ++ (blkOf (.slice v2a R.now.length v2c) ++ blkOf (.slice v3a R.lasts.length v3c))) := hm0
    rcases List.mem_append.1 hm with e | e
    · have := g1 _ e; omega
    · rcases List.mem_append.1 e with e | e
      · have := g4 _ e; omega
      · rcases List.mem_append.1 e with e | e
        · have := g2 _ e; omega
        · have := g3 _ e; omega
  · intro b hb
    have a := g1 b hb
    have c := l1 b hb
    exact ⟨fun e => by have := g4 b e; omega, fun e => by have := g2 b e; omega, fun e => by have := g3 b e; omega⟩
  · intro b hb
    have a := g4 b hb
    exact ⟨fun e => by have := l2 b e; omega, fun e => by have := l3 b e; omega⟩
  · rcases mem_rfoot.1 hb with e | e | e | e | e
    · exact Nat.le_of_eq e.symm
    · have := g1 b e; omega
    · have := g4 b e; omega
    · have := g2 b e; omega
    · have := g3 b e; omega
end Go.Proofs.Ytijdgmbpkfmciaa.Fs

/- The document's file system: Crash. -/
namespace Go.Proofs.Ytijdgmbpkfmciaa.Fs
open Go.RowKit Go.Maps Go.ChangeMaps Go.WideMaps Go.Joins Go.Sort

def foldW (R : RS) (k : Nat) : List Pr := (R.wait.take k).foldl applyW R.lasts
theorem applyW_len (L : List Pr) (c : Wt) : (applyW L c).length ≤ L.length + 2 := by
  unfold applyW
  split
  · have := lput_len L c.1 c.2.2; omega
  · have h1 := lput_len (lput L c.2.1 (-1)) c.1 c.2.2
    have h2 := lput_len L c.2.1 (-1)
    omega
theorem foldW_next (R : RS) (k : Nat) (h : k < R.wait.length) : foldW R (k + 1) = applyW (foldW R k) (R.wait[k]'h) := by
  unfold foldW
  rw [List.take_add_one, List.getElem?_eq_getElem h, List.foldl_append]; rfl
theorem foldW_len (R : RS) : ∀ k, (foldW R k).length ≤ R.lasts.length + 2 * k
  | 0 => by show (R.lasts).length ≤ _; omega
  | k + 1 => by
    have ih := foldW_len R k
    by_cases h : k < R.wait.length
    · rw [foldW_next R k h]
      have := applyW_len (foldW R k) (R.wait[k]'h)
      omega
    · have e : foldW R (k + 1) = foldW R k := by unfold foldW; rw [List.take_of_length_le (by omega), List.take_of_length_le (by omega)]
      rw [e]; omega
theorem wt_cell {w : World} {c : Nat} {a : Option Addr} {l : List Wt} (h : w.ownsRow 0 108 3 (.slice a l.length c) l.length (l.flatMap wtC)) {k : Nat} (hk : k < l.length) :
    ∃ b, a = some ⟨b, 0, none⟩ ∧ l.length ≤ c ∧ w.cell? ⟨b, k * 3, none⟩ = some (.string (l[k]'hk).1) ∧ w.cell? ⟨b, k * 3 + 1, none⟩ = some (.string (l[k]'hk).2.1) ∧ w.cell? ⟨b, k * 3 + 2, none⟩ = some (.int .i64 (l[k]'hk).2.2) ∧ b < w.heap.size := by
  obtain ⟨b, h1, h2, h3, h4, h5⟩ := owned_cell h (by omega)
  obtain ⟨e1, e2, e3⟩ := wtC_at l k hk
  exact ⟨b, h1, h2, h3 _ _ e1, h3 _ _ e2, h3 _ _ e3, h5⟩
/-- Behind the five stores. -/
theorem rrep_crashed {w w1 w5 : World} {r : RG} {R : RS} {L : List Pr} {v : Value} (h : RRep w r R) (hb : Below w.heap.size w w1) (hv : w1.ownsRow 0 96 2 v L.length (L.flatMap prC)) (hvb : ∀ b ∈ blkOf v, b ∈ blkOf r.lv ∨ w.heap.size ≤ b)
    (ht : Turn w1 w5 [r.p]) (hc : w5.heap[r.p]? = some (.cells #[.int .i64 R.quota, r.fv, v, v, .slice none 0 0, .int .i64 (-1), .bool false] 90 (0, 0))) :
    RRep w5 { r with nv := v, lv := v, wv := .slice none 0 0 } { R with now := L, lasts := L, wait := [], fuse := -1, dead := false } ∧ Turn w w5 (rfoot r) ∧ ∀ b ∈ rfoot { r with nv := v, lv := v, wv := .slice none 0 0 }, b ∈ rfoot r ∨ w.heap.size ≤ b := by
  obtain ⟨p1, p2, p3, p4⟩ := rparts h
  have hp := rchange_cells h
  have hpv : r.p ∉ blkOf v := fun hm => (hvb _ hm).elim p4 (by omega)
  have nF : ∀ {u : Value}, r.p ∉ blkOf u → ∀ b ∈ blkOf u, b ∉ [r.p] := fun {u} hu b hb hm => by
    have : b = r.p := by simpa using hm
    exact hu (this ▸ hb)
  have hT : Turn w w5 [r.p] := (Turn.of_below hb [r.p]).trans ht (fun b hb => .inl hb)
  have hz : ∀ b, b ∉ blkOf (.slice none 0 0) := fun b => by simp [blkOf, Value.ownBlock]
  have hrow := owned_frame hv fun b hb => ht.block b (owned_lt hv b hb) (nF hpv b hb)
  refine ⟨⟨hc, owned_frame h.fl fun b hb => hT.block b (owned_lt h.fl b hb) (nF p1 b hb), hrow, hrow, World.ownsRow_nil _ _ _ _, ?_, ?_, fun b hb => absurd hb (hz b)⟩, hT.mono (fun b hb => .inl (own_mem b hb)), fun b hb => ?_⟩
  · show r.p ∉ blkOf r.fv ++ (blkOf (.slice none 0 0) ++ (blkOf v ++ blkOf v))
    simp only [List.mem_append, not_or]
    exact ⟨p1, hz _, hpv, hpv⟩
  · intro b hb
    have key : b ∉ blkOf v := fun hm => by
      rcases hvb b hm with e | e
      · exact (h.a2 b hb).2.2 e
      · have := owned_lt h.fl b hb; omega
    exact ⟨hz b, key, key⟩
  · rcases mem_rfoot.1 hb with e | e | e | e | e
    · exact .inl (mem_rfoot.2 (.inl e))
    · exact .inl (mem_rfoot.2 (.inr (.inl e)))
    · exact absurd e (hz b)
    · exact (hvb b e).imp (fun e => mem_rfoot.2 (.inr (.inr (.inr (.inr e))))) id
    · exact (hvb b e).imp (fun e => mem_rfoot.2 (.inr (.inr (.inr (.inr e))))) id

theorem cutR_len (data : List Int) (L fs : List Pr) : ∀ k, (cutR data L fs k).length = fs.length
  | 0 => rfl
  | k + 1 => by
    have ih := cutR_len data L fs k
    show (List.set _ _ _).length = _
    rw [List.length_set]; exact ih
theorem cutR_ok (data : List Int) (L fs : List Pr) (h : ∀ y ∈ fs, y.2 ≤ y.1.size ∧ y.1.size ≤ 16777216) : ∀ k, ∀ y ∈ cutR data L fs k, y.2 ≤ y.1.size ∧ y.1.size ≤ 16777216
  | 0 => h
  | k + 1 => by
    have ih := cutR_ok data L fs h k
    intro y hy
    have hy' : y ∈ (cutR data L fs k).set (L.getD k (noName, 0)).2 (cutP data k ((cutR data L fs k).getD (L.getD k (noName, 0)).2 (noName, 0))) := hy
    rcases List.mem_or_eq_of_mem_set hy' with e | e
    · exact ih y e
    · have hb : ((cutR data L fs k).getD (L.getD k (noName, 0)).2 (noName, 0)).1.size ≤ 16777216 := by
        rw [List.getD_eq_getElem?_getD]
        cases hg : (cutR data L fs k)[(L.getD k (noName, 0)).2]? with
        | none => exact Nat.zero_le _
        | some z => exact (ih z (List.mem_of_getElem? hg)).2
      rw [e]
      refine ⟨Nat.le_refl _, ?_⟩
      show (ByteArray.extract _ 0 _).size ≤ _
      rw [ByteArray.size_extract]
      omega
theorem cutR_next (data : List Int) (L fs : List Pr) (k : Nat) (hk : k < L.length) (hi : (L[k]'hk).2 < (cutR data L fs k).length) : cutR data L fs (k + 1) = (cutR data L fs k).set (L[k]'hk).2 (cutP data k ((cutR data L fs k)[(L[k]'hk).2]'hi)) := by
  show (cutR data L fs k).set (L.getD k (noName, 0)).2 (cutP data k ((cutR data L fs k).getD (L.getD k (noName, 0)).2 (noName, 0))) = _
  have e : L.getD k (noName, 0) = L[k]'hk := by rw [List.getD_eq_getElem?_getD, List.getElem?_eq_getElem hk]; rfl
  rw [e, List.getD_eq_getElem?_getD, List.getElem?_eq_getElem hi]; rfl
/-- A file's two cells turn. -/
theorem rrep_set2 {w : World} {r : RG} {R : RS} (h : RRep w r R) {i fb : Nat} {fc : Nat} (hi : i < R.files.length) (hfv : r.fv = .slice (some ⟨fb, 0, none⟩) R.files.length fc) (y : Pr) :
    RRep ((w.setCell ⟨fb, i * 2, none⟩ (.string y.1)).setCell ⟨fb, i * 2 + 1, none⟩ (.int .i64 y.2)) r { R with files := R.files.set i y } ∧ Turn w ((w.setCell ⟨fb, i * 2, none⟩ (.string y.1)).setCell ⟨fb, i * 2 + 1, none⟩ (.int .i64 y.2)) (rfoot r) := by
  obtain ⟨h1, h2⟩ := rrep_set (fb := fb) (fc := fc) h hi hfv (j := 0) (by omega) (.string y.1) (y.1, (R.files[i]'hi).2) rfl
  have hi' : i < (R.files.set i (y.1, (R.files[i]'hi).2)).length := by rw [List.length_set]; exact hi
  obtain ⟨h3, h4⟩ := rrep_set (fb := fb) (fc := fc) h1 (i := i) hi' (by rw [hfv]; simp) (j := 1) (by omega) (.int .i64 y.2) y (by simp [prC])
  have e : (R.files.set i (y.1, (R.files[i]'hi).2)).set i y = R.files.set i y := by rw [List.set_set]
  rw [e] at h3
  exact ⟨h3, h2.trans h4 (fun b hb => .inl hb)⟩

set_option maxHeartbeats 8000000 in
set_option maxRecDepth 100000 in
theorem rcrash_any (r : RG) (R : RS) (names : Int) (dv : Value) (data : List Int) (w : World) (h : RRep w r R) {n : Nat} (hB : RB R n) (hn : n ≤ 100000) (hl : R.lasts.length ≤ n) (hwf : ∀ c ∈ R.wait, -9223372036854775808 ≤ c.2.2 ∧ c.2.2 < 9223372036854775808)
    (hix : ∀ k, ∀ p ∈ foldW R k, p.2 < R.files.length) (hfl : ∀ y ∈ R.files, y.2 ≤ y.1.size ∧ y.1.size ≤ 16777216) (hd : News w dv (data.map intV)) (hdl : data ≠ [] → ∀ b ∈ blkOf dv, b ∉ rfoot r) (hdn : data.length ≤ 9223372036854775807) :
    Calls Try.prog 50 #[.pointer (some ⟨r.p, 0, none⟩), .int .i64 names, dv] w fun e w' => e = .returned (.tuple #[]) ∧ RLeft w w' r (rcrashS R names data) := by
  obtain ⟨c0, c1, c2, c3, c4, c5, c6, cz⟩ := r_cells h.cells
  have b2 := hB.wait
  have b3 := hB.files
  have hpl := rchange_cells h
  obtain ⟨fa, fc, hfv⟩ := owned_slice h.fl
  obtain ⟨na, nc, hnv⟩ := owned_slice h.nw
  obtain ⟨la, lc, hlv⟩ := owned_slice h.ls
  obtain ⟨wa, wc, hwv⟩ := owned_slice h.wt
  rw [hfv] at c1
  rw [hnv] at c2
  rw [hlv] at c3
  rw [hwv] at c4
  have HLS := Lib.hid (hlv ▸ h.ls : w.ownsRow 0 96 2 (.slice la R.lasts.length lc) R.lasts.length (R.lasts.flatMap prC))
  have HW := Lib.hid (hwv ▸ h.wt : w.ownsRow 0 108 3 (.slice wa R.wait.length wc) R.wait.length (R.wait.flatMap wtC))
  have HR := Lib.hid h
  have HFV := Lib.hid hfv
  have HLV := Lib.hid hlv
  obtain ⟨da, dc, hdv⟩ := hd.slice
  rw [List.length_map] at hdv
  subst hdv
  have HD := Lib.hid hd
  have HDL := Lib.hid hdl
  have HIX := Lib.hid hix
  have HFL := Lib.hid hfl
  obtain ⟨N, hN⟩ : ∃ N : Nat, N = (min (max names 0) (R.wait.length : Int)).toNat := ⟨_, rfl⟩
  have hN1 : N ≤ R.wait.length := by omega
  have hN2 : ∀ k : Nat, k ≤ N → k < R.wait.length → (k : Int) < names → k + 1 ≤ N := fun k h1 h2 h3 => by omega
  have hN3 : ∀ k : Nat, k ≤ N → (k < R.wait.length → ¬ (k : Int) < names) → k = N := fun k h1 h2 => by
    by_cases h4 : k < R.wait.length
    · have := h2 h4; omega
    · omega
  have HN := Lib.hid hN
  have HN2 := Lib.hid hN2
  have HN3 := Lib.hid hN3
  have HWF := Lib.hid hwf
  clear h hfv hnv hlv hwv hd hdl hix hfl hN hN2 hN3 hwf hB
  go_enter Try.func50, Try.ntmps50
  go_wp2_with fail
  go_loopw [6, 7] (fun lv i wr => ∃ k : Nat, k ≤ N ∧ i = .int .i64 k ∧ Hid (wr.ownsRow 0 96 2 lv (foldW R k).length ((foldW R k).flatMap prC)) ∧ Hid (∀ b ∈ blkOf lv, b ∈ blkOf r.lv ∨ w.heap.size ≤ b) ∧ Hid (Below w.heap.size w wr)) (fun _ i _ => R.wait.length - (RowKit.intOf i).toNat)
  case atStart => exact ⟨0, Nat.zero_le _, rfl, HLS, Lib.hid (fun b hb => .inl (by rw [HLV.out]; exact hb)), Lib.hid (Below.refl _ _)⟩
  case round =>
    obtain ⟨k, hk, rfl, HO, HOB, HB⟩ := hrel
    have k4 := (HB.out.cell (p := ⟨r.p, 4, none⟩) hpl).trans c4
    obtain ⟨va, vc, rfl⟩ := owned_slice HO.out
    by_cases hgo : k < R.wait.length ∧ (k : Int) < names
    · obtain ⟨g1, g2⟩ := hgo
      have s1 : (k : Int) < (R.wait.length : Int) := by omega
      obtain ⟨wb, rfl, hwc, q0, q1, q2, hwbl⟩ := wt_cell HW.out g1
      have q0' := (HB.out.cell (p := ⟨wb, k * 3, none⟩) hwbl).trans q0
      have q1' := (HB.out.cell (p := ⟨wb, k * 3 + 1, none⟩) hwbl).trans q1
      have q2' := (HB.out.cell (p := ⟨wb, k * 3 + 2, none⟩) hwbl).trans q2
      have hlen := foldW_len R k
      have CA := Lib.hid (rapply_any (foldW R k) (.slice va (foldW R k).length vc) (R.wait[k]'g1) wr HO.out (by omega) (HWF.out _ (List.getElem_mem g1)))
      have HNX := Lib.hid (foldW_next R k g1)
      have hk1 := HN2.out k hk g1 g2
      clear q0 q1 q2
      generalize (R.wait[k]'g1) = c at q0' q1' q2' CA HNX
      obtain ⟨cn, cf, cF⟩ := c
      simp only at q0' q1' q2' CA
      go_wp2_with fail
      refine CA.out.mono ?_
      rintro e w2 ⟨v2, rfl, h1, h2⟩
      have hz := HB.out.size
      have HB2 := Lib.hid (HB.out.trans (h2.mono hz))
      have HO2 := Lib.hid (owned_zero h1)
      have HOB2 : Hid (∀ b ∈ blkOf v2, b ∈ blkOf r.lv ∨ w.heap.size ≤ b) := Lib.hid fun b hb => .inr (Nat.le_trans hz (owned_ge h1 b hb))
      obtain ⟨xa, xc, rfl⟩ := owned_slice h1
      clear h1 h2 CA
      go_wp2_with fail
      go_roundw
      case measure => simp [RowKit.intOf]; omega
      case rel => exact ⟨k + 1, hk1, by go_num, by rw [HNX.out]; exact HO2, HOB2, HB2⟩
    · have hkN := HN3.out k hk (fun h1 => Int.not_lt.1 (fun h2 => hgo ⟨h1, h2⟩))
      subst hkN
      have hlen := foldW_len R k
      have k0 := (HB.out.cell (p := ⟨r.p, 0, none⟩) hpl).trans c0
      have k2 := (HB.out.cell (p := ⟨r.p, 2, none⟩) hpl).trans c2
      have k3 := (HB.out.cell (p := ⟨r.p, 3, none⟩) hpl).trans c3
      have k5 := (HB.out.cell (p := ⟨r.p, 5, none⟩) hpl).trans c5
      have k6 := (HB.out.cell (p := ⟨r.p, 6, none⟩) hpl).trans c6
      have kz := fun o => (HB.out.frozen (p := ⟨r.p, o, none⟩) hpl).trans (cz o)
      have hblk := (HB.out.block r.p hpl).trans HR.out.cells
      have e1 := block_setCell (i := 2) hblk (.slice va (foldW R k).length vc)
      have e2 := block_setCell (i := 3) e1 (.slice va (foldW R k).length vc)
      have e3 := block_setCell (i := 4) e2 (.slice none 0 0)
      have e4 := block_setCell (i := 5) e3 (.int .i64 (-1))
      have e5 := block_setCell (i := 6) e4 (.bool false)
      have ht := (((((turn_set wr r.p 2 (.slice va (foldW R k).length vc)).trans (turn_set _ r.p 3 (.slice va (foldW R k).length vc)) (fun b hb => .inl hb)).trans (turn_set _ r.p 4 (.slice none 0 0)) (fun b hb => .inl hb)).trans (turn_set _ r.p 5 (.int .i64 (-1))) (fun b hb => .inl hb)).trans (turn_set _ r.p 6 (.bool false)) (fun b hb => .inl hb))
      have h5 := rrep_crashed HR.out HB.out HO.out HOB.out ht (by rw [e5]; rfl)
      have H5 := Lib.hid h5
      clear hblk e1 e2 e3 e4 e5 ht h5
      by_cases g1 : k < R.wait.length
      · have s1 : (k : Int) < (R.wait.length : Int) := by omega
        have s2 : ¬ (k : Int) < names := fun e => hgo ⟨g1, e⟩
        clear hgo
        go_wp2_with fail
        generalize (((((wr.setCell ⟨r.p, 2, none⟩ (.slice va (foldW R k).length vc)).setCell ⟨r.p, 3, none⟩ (.slice va (foldW R k).length vc)).setCell ⟨r.p, 4, none⟩ (.slice none 0 0)).setCell ⟨r.p, 5, none⟩ (.int .i64 (-1))).setCell ⟨r.p, 6, none⟩ (.bool false)) = w5 at *
        obtain ⟨g5, t5, s5⟩ := H5.out
        have G5 := Lib.hid g5
        have T5 := Lib.hid t5
        clear g5 t5 k0 k2 k3 k4 k5 k6 kz H5 c0 c1 c2 c3 c4 c5 c6 cz
        go_loopw [8] (fun i wr => ∃ j : Nat, j ≤ (foldW R k).length ∧ i = .int .i64 j ∧ Hid (RRep wr { r with nv := .slice va (foldW R k).length vc, lv := .slice va (foldW R k).length vc, wv := .slice none 0 0 } { R with now := foldW R k, lasts := foldW R k, wait := [], fuse := -1, dead := false, files := cutR data (foldW R k) R.files j }) ∧ Hid (Turn w5 wr (rfoot { r with nv := .slice va (foldW R k).length vc, lv := .slice va (foldW R k).length vc, wv := .slice none 0 0 }))) (fun i _ => (foldW R k).length - (RowKit.intOf i).toNat)
        case atStart => exact ⟨0, Nat.zero_le _, rfl, G5, Lib.hid (Turn.refl _ _)⟩
        case round =>
          obtain ⟨j, hj, rfl, HQ, HT⟩ := hrel
          by_cases hlt : j < (foldW R k).length
          · have t1 : (j : Int) < ((foldW R k).length : Int) := by omega
            have hfsl := cutR_len data (foldW R k) R.files j
            obtain ⟨-, k1, -, -, -, -, -, kz⟩ := r_cells HQ.out.cells
            simp only at k1 kz
            rw [HFV.out] at k1
            obtain ⟨nb, hva, hvcap, -, q1, -, -⟩ := pr_cell (l := foldW R k) (c := vc) (a := va) HQ.out.nw hlt
            subst hva
            have hix := HIX.out k _ (List.getElem_mem hlt)
            have hfl2 : wr.ownsRow 0 105 2 (.slice fa (cutR data (foldW R k) R.files j).length fc) (cutR data (foldW R k) R.files j).length ((cutR data (foldW R k) R.files j).flatMap prC) := by
              have := HQ.out.fl
              simp only at this
              rw [HFV.out] at this
              rw [← hfsl] at this
              exact this
            obtain ⟨fb, hfa, hfcap, f0, f1, fz, hfb⟩ := pr_cell hfl2 (k := ((foldW R k)[j]'hlt).2) (by rw [hfsl]; exact hix)
            subst hfa
            have hok := cutR_ok data (foldW R k) R.files HFL.out j _ (List.getElem_mem (by rw [hfsl]; exact hix))
            have HCN := Lib.hid (cutR_next data (foldW R k) R.files j hlt (by rw [hfsl]; exact hix))
            have HSET := Lib.hid (fun (W : World) (hW : RRep W { r with nv := .slice (some ⟨nb, 0, none⟩) (foldW R k).length vc, lv := .slice (some ⟨nb, 0, none⟩) (foldW R k).length vc, wv := .slice none 0 0 } { R with now := foldW R k, lasts := foldW R k, wait := [], fuse := -1, dead := false, files := cutR data (foldW R k) R.files j }) (y : Pr) => rrep_set2 hW (i := ((foldW R k)[j]'hlt).2) (by show _ < (cutR data (foldW R k) R.files j).length; rw [hfsl]; exact hix) (fb := fb) (fc := fc) (by show r.fv = .slice (some ⟨fb, 0, none⟩) (cutR data (foldW R k) R.files j).length fc; rw [hfsl]; exact HFV.out) y)
            have hpf : ∀ o o', (⟨fb, o, none⟩ : Addr) ≠ ⟨r.p, o', none⟩ := fun o o' e => by
              have e1 : fb = r.p := by injection e
              have := (rparts HQ.out).1
              simp only at this
              rw [HFV.out] at this
              exact this (by rw [e1]; simp [blkOf, Value.ownBlock])
            have hplr := rchange_cells HQ.out
            simp only at hplr
            obtain ⟨x, hx⟩ : ∃ x, x = ((cutR data (foldW R k) R.files j)[((foldW R k)[j]'hlt).2]'(by rw [hfsl]; exact hix)) := ⟨_, rfl⟩
            rw [← hx] at f0 f1 hok HCN
            clear hx
            have HFS := Lib.hid hfsl
            clear hfl2 hfsl
            generalize ((foldW R k)[j]'hlt).2 = ix at q1 f0 f1 HCN HSET hix
            obtain ⟨x1, x2⟩ := x
            simp only at f0 f1 hok
            have j1 : (0 : Int) ≤ (ix : Int) := by omega
            have j2 : (ix : Int) < (R.files.length : Int) := by omega
            go_wp2_with fail
            have n1 := World.new_ne wr _ k1
            have n2 := World.new_ne wr _ q1
            have n3 := World.new_ne wr _ f0
            have n4 := World.new_ne wr _ f1
            go_region_held3 (fun w' => w'.cell? ⟨r.p, 1, none⟩ = some (.slice (some ⟨fb, 0, none⟩) R.files.length fc) ∧ w'.cell? ⟨nb, j * 2 + 1, none⟩ = some (.int .i64 ix) ∧ w'.cell? ⟨fb, ix * 2, none⟩ = some (.string x1) ∧ w'.cell? ⟨fb, ix * 2 + 1, none⟩ = some (.int .i64 x2)) (go_keep) (fail)
            have HQx : Hid (RRep (wr.alloc (.cells #[.string x1, .int .i64 x2] 105)).drew { r with nv := .slice (some ⟨nb, 0, none⟩) (foldW R k).length vc, lv := .slice (some ⟨nb, 0, none⟩) (foldW R k).length vc, wv := .slice none 0 0 } { R with now := foldW R k, lasts := foldW R k, wait := [], fuse := -1, dead := false, files := cutR data (foldW R k) R.files j }) := Lib.hid (HQ.out.below (((Below.refl _ _).alloc (Nat.le_refl _) _).drew))
            have HTx : Hid (Turn w5 (wr.alloc (.cells #[.string x1, .int .i64 x2] 105)).drew (rfoot { r with nv := .slice (some ⟨nb, 0, none⟩) (foldW R k).length vc, lv := .slice (some ⟨nb, 0, none⟩) (foldW R k).length vc, wv := .slice none 0 0 })) := Lib.hid (HT.out.trans (Turn.of_below (((Below.refl _ _).alloc (Nat.le_refl _) _).drew) []) (fun b hb => by cases hb))
            have hxb : (wr.alloc (.cells #[.string x1, .int .i64 x2] 105)).drew.heap[wr.heap.size]? = some (.cells #[.string x1, .int .i64 x2] 105 (0, 0)) := (MapKept.heap_alloc wr _).1
            have m1 := Go.Lib.cell?_alloc_some (W := wr) (.cells #[.string x1, .int .i64 x2] 105) k1
            have m2 := Go.Lib.cell?_alloc_some (W := wr) (.cells #[.string x1, .int .i64 x2] 105) q1
            have mz : ∀ o, (wr.alloc (.cells #[.string x1, .int .i64 x2] 105)).drew.frozen? ⟨fb, o, none⟩ = false := fun o => (World.frozen?_alloc_old wr _ ⟨fb, o, none⟩ (Nat.ne_of_lt hfb)).trans (fz o)
            have m3 := Go.Lib.cell?_alloc_some (W := wr) (.cells #[.string x1, .int .i64 x2] 105) f0
            have m4 := Go.Lib.cell?_alloc_some (W := wr) (.cells #[.string x1, .int .i64 x2] 105) f1
            have m1 : (wr.alloc (.cells #[.string x1, .int .i64 x2] 105)).drew.cell? ⟨r.p, 1, none⟩ = _ := m1
            have m2 : (wr.alloc (.cells #[.string x1, .int .i64 x2] 105)).drew.cell? ⟨nb, j * 2 + 1, none⟩ = _ := m2
            have m3 : (wr.alloc (.cells #[.string x1, .int .i64 x2] 105)).drew.cell? ⟨fb, ix * 2, none⟩ = _ := m3
            have m4 : (wr.alloc (.cells #[.string x1, .int .i64 x2] 105)).drew.cell? ⟨fb, ix * 2 + 1, none⟩ = _ := m4
            have hsx : (wr.alloc (.cells #[.string x1, .int .i64 x2] 105)).drew.heap.size = wr.heap.size + 1 := by simp
            have HB5 := Lib.hid hsx
            clear k1 q1 f0 f1 fz kz hsx
            generalize (wr.alloc (.cells #[.string x1, .int .i64 x2] 105)).drew = wx at *
            obtain ⟨xb, hxbe⟩ : ∃ xb, xb = wr.heap.size := ⟨_, rfl⟩
            have HXB := Lib.hid hxbe
            rw [← hxbe] at hxb n1 n2 n3 n4 ⊢
            clear hxbe
            have x0c : wx.cell? ⟨xb, 0, none⟩ = some (.string x1) := by rw [cell_of_block hxb]; rfl
            have x1c : wx.cell? ⟨xb, 1, none⟩ = some (.int .i64 x2) := by rw [cell_of_block hxb]; rfl
            have xz : ∀ o, wx.frozen? ⟨xb, o, none⟩ = false := fun o => unfrozen_of_block hxb o
            have HXBLK := Lib.hid hxb
            clear hxb
            by_cases hjd : j < data.length
            · have d1 : (j : Int) < (data.length : Int) := by omega
              have hdc : ∃ a, da = some a ∧ wx.cell? (a.add j) = some (.int .i64 (data[j]'hjd)) := by
                have hdne : data ≠ [] := fun e => by rw [e] at hjd; simp at hjd
                have hNw := HD.out.frame (w' := wx) fun hx b hb => by
                  have l1 := HD.out.lt hx b hb
                  have l2 := HDL.out hdne b hb
                  have z5 := T5.out.size
                  rw [HTx.out.block b (by omega) (fun hm => (s5 b hm).elim l2 (by omega)), T5.out.block b l1 l2]
                rcases hNw with ⟨e, e2⟩ | ⟨a, c', e, _, hc⟩
                · exact absurd (by simpa using e2) hdne
                · simp only [Value.slice.injEq] at e
                  exact ⟨a, e.1, hc j _ (by rw [List.getElem?_map, List.getElem?_eq_getElem hjd]; rfl)⟩
              obtain ⟨a, hda, hdc⟩ := hdc
              subst hda
              obtain ⟨K, hK, hKl, hKR⟩ : ∃ K : Nat, min (max (data[j]'hjd) 0) ((x1.size : Int) - (x2 : Int)) = (K : Int) ∧ x2 + K ≤ x1.size ∧ keepR data j (x1, x2) = K := ⟨(min (max (data[j]'hjd) 0) ((x1.size : Int) - (x2 : Int))).toNat, by omega, by omega, by unfold keepR; rw [dif_pos hjd]⟩
              have HKR := Lib.hid hKR
              generalize (data[j]'hjd) = d at hdc hK
              have hw1 : IntKind.i64.wrap ((x1.size : Int) - (x2 : Int)) = (x1.size : Int) - (x2 : Int) := IntWalk.i64_in _ (by omega)
              obtain ⟨nn, hnn⟩ : ∃ nn, nn = x2 + K := ⟨_, rfl⟩
              have hw2 : IntKind.i64.wrap ((x2 : Int) + (K : Int)) = (nn : Int) := by rw [IntWalk.i64_in _ (by omega)]; omega
              have hx2 : (nn : Int) ≤ (x1.size : Int) := by omega
              have hx3 : (0 : Int) ≤ (nn : Int) := by omega
              have HNN := Lib.hid hnn
              clear hKR hnn
              go_wp2_with fail
              go_quiet (fail)
              have HQz := Lib.hid (HQx.out.below (w' := wx.drewN nq) ⟨rfl, rfl, rfl, Nat.le_refl _, fun _ _ => rfl⟩)
              have HTz := Lib.hid (HTx.out.trans (Turn.of_below (w := wx) (w' := wx.drewN nq) ⟨rfl, rfl, rfl, Nat.le_refl _, fun _ _ => rfl⟩ []) (fun b hb => by cases hb))
              have y1c : (wx.drewN nq).cell? ⟨r.p, 1, none⟩ = _ := m1
              have y2c : (wx.drewN nq).cell? ⟨nb, j * 2 + 1, none⟩ = _ := m2
              have y3c : (wx.drewN nq).cell? ⟨fb, ix * 2, none⟩ = _ := m3
              have y4c : (wx.drewN nq).cell? ⟨fb, ix * 2 + 1, none⟩ = _ := m4
              have y5c : (wx.drewN nq).cell? ⟨xb, 0, none⟩ = _ := x0c
              have y6c : (wx.drewN nq).cell? ⟨xb, 1, none⟩ = _ := x1c
              have yzf : ∀ o, (wx.drewN nq).frozen? ⟨fb, o, none⟩ = false := mz
              have yxf : ∀ o, (wx.drewN nq).frozen? ⟨xb, o, none⟩ = false := xz
              have HXBL : Hid ((wx.drewN nq).heap[xb]? = _) := Lib.hid HXBLK.out
              clear m1 m2 m3 m4 x0c x1c mz xz HQx HTx HXBLK hdc hK
              generalize (wx.drewN nq) = wz at *
              go_wp2_with fail
              rw [show min nn x1.size = nn from Nat.min_eq_left (by omega)]
              obtain ⟨y1, hy1⟩ : ∃ y1, y1 = x1.extract 0 nn := ⟨_, rfl⟩
              rw [← hy1]
              have hT2 := (turn_set wz xb 0 (.string y1)).trans (turn_set (wz.setCell ⟨xb, 0, none⟩ (.string y1)) xb 1 (.int .i64 (nn : Nat))) (fun b hb => .inl hb)
              have hxn : ∀ b ∈ rfoot { r with nv := .slice (some ⟨nb, 0, none⟩) (foldW R k).length vc, lv := .slice (some ⟨nb, 0, none⟩) (foldW R k).length vc, wv := .slice none 0 0 }, b ∉ [xb] := fun b hb hm => by
                have e1 : b = xb := by simpa using hm
                have e2 := HQ.out.lt b hb
                have e3 := HXB.out
                omega
              have HQy := Lib.hid (HQz.out.turn hT2 hxn)
              have HTy := Lib.hid (HTz.out.trans (hT2.mono (F' := [xb]) (fun b hb => .inl hb)) (fun b hb => .inr (by
                have e1 : b = xb := by simpa using hb
                have e3 := HXB.out
                have e4 := HT.out.size
                omega)))
              have far : ∀ (q o o' : Nat) (u : Value), xb ≠ q → wz.cell? ⟨q, o, none⟩ = some u → ((wz.setCell ⟨xb, 0, none⟩ (.string y1)).setCell ⟨xb, 1, none⟩ (.int .i64 (nn : Nat))).cell? ⟨q, o, none⟩ = some u := fun q o _ u hq hc => by
                rw [World.cell?_setCell_far _ _ _ _ hq, World.cell?_setCell_far _ _ _ _ hq]; exact hc
              have p1 := far r.p 1 0 _ n1 y1c
              have p2 := far nb _ 0 _ n2 y2c
              have p3 := far fb _ 0 _ n3 y3c
              have p4 := far fb _ 0 _ n4 y4c
              have b0 := block_setCell (i := 0) HXBL.out (.string y1)
              have b1 := block_setCell (i := 1) b0 (.int .i64 (nn : Nat))
              have p5 : ((wz.setCell ⟨xb, 0, none⟩ (.string y1)).setCell ⟨xb, 1, none⟩ (.int .i64 (nn : Nat))).cell? ⟨xb, 0, none⟩ = some (.string y1) := by rw [cell_of_block b1]; rfl
              have p6 : ((wz.setCell ⟨xb, 0, none⟩ (.string y1)).setCell ⟨xb, 1, none⟩ (.int .i64 (nn : Nat))).cell? ⟨xb, 1, none⟩ = some (.int .i64 (nn : Nat)) := by rw [cell_of_block b1]; rfl
              have pz : ∀ o, ((wz.setCell ⟨xb, 0, none⟩ (.string y1)).setCell ⟨xb, 1, none⟩ (.int .i64 (nn : Nat))).frozen? ⟨fb, o, none⟩ = false := fun o => by
                rw [World.frozen?_setCell, World.frozen?_setCell]; exact yzf o
              have HY1 := Lib.hid hy1
              clear far b0 b1 hT2 hxn hy1 y5c y6c yxf y1c y2c y3c y4c yzf
              generalize ((wz.setCell ⟨xb, 0, none⟩ (.string y1)).setCell ⟨xb, 1, none⟩ (.int .i64 (nn : Nat))) = wy at *
              go_region
              all_goals
                have hfin := HSET.out wy HQy.out (y1, nn)
                have HFIN := Lib.hid hfin
                go_wp2_with fail
                go_roundw
                case measure => simp [RowKit.intOf]; omega
                case rel =>
                  refine ⟨j + 1, by omega, by go_num, ?_, ?_⟩
                  · have e : cutR data (foldW R k) R.files (j + 1) = (cutR data (foldW R k) R.files j).set ix (y1, nn) := by
                      rw [HCN.out]
                      congr 1
                      have e2 := HKR.out
                      have e3 := HY1.out
                      rw [e3]
                      unfold cutP
                      simp only [e2]
                      rw [← HNN.out]; simp; omega
                    rw [e]
                    exact Lib.hid (HFIN.out.1.below ((Below.refl _ _).drew))
                  · exact Lib.hid ((HTy.out.trans HFIN.out.2 (fun b hb => .inl hb)).trans (Turn.of_below ((Below.refl _ _).drew) []) (fun b hb => by cases hb))
            · have d1 : ¬ (j : Int) < (data.length : Int) := by omega
              have HKR : Hid (keepR data j (x1, x2) = 0) := Lib.hid (by unfold keepR; rw [dif_neg hjd])
              have hw2 : IntKind.i64.wrap ((x2 : Int) + 0) = (x2 : Int) := by rw [IntWalk.i64_in _ (by omega)]; omega
              have hx2 : (x2 : Int) ≤ (x1.size : Int) := by omega
              go_wp2_with fail
              obtain ⟨y1, hy1⟩ : ∃ y1, y1 = x1.extract 0 x2 := ⟨_, rfl⟩
              rw [← hy1]
              have hT2 := (turn_set wx xb 0 (.string y1)).trans (turn_set (wx.setCell ⟨xb, 0, none⟩ (.string y1)) xb 1 (.int .i64 (x2 : Nat))) (fun b hb => .inl hb)
              have hxn : ∀ b ∈ rfoot { r with nv := .slice (some ⟨nb, 0, none⟩) (foldW R k).length vc, lv := .slice (some ⟨nb, 0, none⟩) (foldW R k).length vc, wv := .slice none 0 0 }, b ∉ [xb] := fun b hb hm => by
                have e1 : b = xb := by simpa using hm
                have e2 := HQ.out.lt b hb
                have e3 := HXB.out
                omega
              have HQy := Lib.hid (HQx.out.turn hT2 hxn)
              have HTy := Lib.hid (HTx.out.trans (hT2.mono (F' := [xb]) (fun b hb => .inl hb)) (fun b hb => .inr (by
                have e1 : b = xb := by simpa using hb
                have e3 := HXB.out
                have e4 := HT.out.size
                omega)))
              have far : ∀ (q o o' : Nat) (u : Value), xb ≠ q → wx.cell? ⟨q, o, none⟩ = some u → ((wx.setCell ⟨xb, 0, none⟩ (.string y1)).setCell ⟨xb, 1, none⟩ (.int .i64 (x2 : Nat))).cell? ⟨q, o, none⟩ = some u := fun q o _ u hq hc => by
                rw [World.cell?_setCell_far _ _ _ _ hq, World.cell?_setCell_far _ _ _ _ hq]; exact hc
              have p1 := far r.p 1 0 _ n1 m1
              have p2 := far nb _ 0 _ n2 m2
              have p3 := far fb _ 0 _ n3 m3
              have p4 := far fb _ 0 _ n4 m4
              have b0 := block_setCell (i := 0) HXBLK.out (.string y1)
              have b1 := block_setCell (i := 1) b0 (.int .i64 (x2 : Nat))
              have p5 : ((wx.setCell ⟨xb, 0, none⟩ (.string y1)).setCell ⟨xb, 1, none⟩ (.int .i64 (x2 : Nat))).cell? ⟨xb, 0, none⟩ = some (.string y1) := by rw [cell_of_block b1]; rfl
              have p6 : ((wx.setCell ⟨xb, 0, none⟩ (.string y1)).setCell ⟨xb, 1, none⟩ (.int .i64 (x2 : Nat))).cell? ⟨xb, 1, none⟩ = some (.int .i64 (x2 : Nat)) := by rw [cell_of_block b1]; rfl
              have pz : ∀ o, ((wx.setCell ⟨xb, 0, none⟩ (.string y1)).setCell ⟨xb, 1, none⟩ (.int .i64 (x2 : Nat))).frozen? ⟨fb, o, none⟩ = false := fun o => by
                rw [World.frozen?_setCell, World.frozen?_setCell]; exact mz o
              have HY1 := Lib.hid hy1
              clear far b0 b1 hT2 hxn hy1 x0c x1c xz m1 m2 m3 m4 mz
              generalize ((wx.setCell ⟨xb, 0, none⟩ (.string y1)).setCell ⟨xb, 1, none⟩ (.int .i64 (x2 : Nat))) = wy at *
              go_region
              all_goals
                have hfin := HSET.out wy HQy.out (y1, x2)
                have HFIN := Lib.hid hfin
                go_wp2_with fail
                go_roundw
                case measure => simp [RowKit.intOf]; omega
                case rel =>
                  refine ⟨j + 1, by omega, by go_num, ?_, ?_⟩
                  · have e : cutR data (foldW R k) R.files (j + 1) = (cutR data (foldW R k) R.files j).set ix (y1, x2) := by
                      rw [HCN.out]
                      congr 1
                      have e2 := HKR.out
                      have e3 := HY1.out
                      rw [e3]
                      unfold cutP
                      simp only [e2]
                      simp; omega
                    rw [e]
                    exact Lib.hid (HFIN.out.1.below ((Below.refl _ _).drew))
                  · exact Lib.hid ((HTy.out.trans HFIN.out.2 (fun b hb => .inl hb)).trans (Turn.of_below ((Below.refl _ _).drew) []) (fun b hb => by cases hb))
          · have t1 : ¬ (j : Int) < ((foldW R k).length : Int) := by omega
            obtain rfl : j = (foldW R k).length := by omega
            have HCR : Hid (rcrashS R names data = { R with now := foldW R k, lasts := foldW R k, wait := [], fuse := -1, dead := false, files := cutR data (foldW R k) R.files (foldW R k).length }) := Lib.hid (by unfold rcrashS; rw [← HN.out]; rfl)
            go_wp2_with fail
            refine bodyPost_end (v := .tuple #[]) (by simp [results, Try.results50]) rfl ?_
            refine ⟨rfl, ?_⟩
            rw [HCR.out]
            exact RLeft.of (r := r) (r1 := { r with nv := .slice va (foldW R k).length vc, lv := .slice va (foldW R k).length vc, wv := .slice none 0 0 }) rfl T5.out s5 ⟨_, rfl, HQ.out, HT.out, fun b hb => .inl hb⟩
      · have s1 : ¬ (k : Int) < (R.wait.length : Int) := by omega
        clear hgo
        go_wp2_with fail
        generalize (((((wr.setCell ⟨r.p, 2, none⟩ (.slice va (foldW R k).length vc)).setCell ⟨r.p, 3, none⟩ (.slice va (foldW R k).length vc)).setCell ⟨r.p, 4, none⟩ (.slice none 0 0)).setCell ⟨r.p, 5, none⟩ (.int .i64 (-1))).setCell ⟨r.p, 6, none⟩ (.bool false)) = w5 at *
        obtain ⟨g5, t5, s5⟩ := H5.out
        have G5 := Lib.hid g5
        have T5 := Lib.hid t5
        clear g5 t5 k0 k2 k3 k4 k5 k6 kz H5 c0 c1 c2 c3 c4 c5 c6 cz
        go_loopw [8] (fun i wr => ∃ j : Nat, j ≤ (foldW R k).length ∧ i = .int .i64 j ∧ Hid (RRep wr { r with nv := .slice va (foldW R k).length vc, lv := .slice va (foldW R k).length vc, wv := .slice none 0 0 } { R with now := foldW R k, lasts := foldW R k, wait := [], fuse := -1, dead := false, files := cutR data (foldW R k) R.files j }) ∧ Hid (Turn w5 wr (rfoot { r with nv := .slice va (foldW R k).length vc, lv := .slice va (foldW R k).length vc, wv := .slice none 0 0 }))) (fun i _ => (foldW R k).length - (RowKit.intOf i).toNat)
        case atStart => exact ⟨0, Nat.zero_le _, rfl, G5, Lib.hid (Turn.refl _ _)⟩
        case round =>
          obtain ⟨j, hj, rfl, HQ, HT⟩ := hrel
          by_cases hlt : j < (foldW R k).length
          · have t1 : (j : Int) < ((foldW R k).length : Int) := by omega
            have hfsl := cutR_len data (foldW R k) R.files j
            obtain ⟨-, k1, -, -, -, -, -, kz⟩ := r_cells HQ.out.cells
            simp only at k1 kz
            rw [HFV.out] at k1
            obtain ⟨nb, hva, hvcap, -, q1, -, -⟩ := pr_cell (l := foldW R k) (c := vc) (a := va) HQ.out.nw hlt
            subst hva
            have hix := HIX.out k _ (List.getElem_mem hlt)
            have hfl2 : wr.ownsRow 0 105 2 (.slice fa (cutR data (foldW R k) R.files j).length fc) (cutR data (foldW R k) R.files j).length ((cutR data (foldW R k) R.files j).flatMap prC) := by
              have := HQ.out.fl
              simp only at this
              rw [HFV.out] at this
              rw [← hfsl] at this
              exact this
            obtain ⟨fb, hfa, hfcap, f0, f1, fz, hfb⟩ := pr_cell hfl2 (k := ((foldW R k)[j]'hlt).2) (by rw [hfsl]; exact hix)
            subst hfa
            have hok := cutR_ok data (foldW R k) R.files HFL.out j _ (List.getElem_mem (by rw [hfsl]; exact hix))
            have HCN := Lib.hid (cutR_next data (foldW R k) R.files j hlt (by rw [hfsl]; exact hix))
            have HSET := Lib.hid (fun (W : World) (hW : RRep W { r with nv := .slice (some ⟨nb, 0, none⟩) (foldW R k).length vc, lv := .slice (some ⟨nb, 0, none⟩) (foldW R k).length vc, wv := .slice none 0 0 } { R with now := foldW R k, lasts := foldW R k, wait := [], fuse := -1, dead := false, files := cutR data (foldW R k) R.files j }) (y : Pr) => rrep_set2 hW (i := ((foldW R k)[j]'hlt).2) (by show _ < (cutR data (foldW R k) R.files j).length; rw [hfsl]; exact hix) (fb := fb) (fc := fc) (by show r.fv = .slice (some ⟨fb, 0, none⟩) (cutR data (foldW R k) R.files j).length fc; rw [hfsl]; exact HFV.out) y)
            have hpf : ∀ o o', (⟨fb, o, none⟩ : Addr) ≠ ⟨r.p, o', none⟩ := fun o o' e => by
              have e1 : fb = r.p := by injection e
              have := (rparts HQ.out).1
              simp only at this
              rw [HFV.out] at this
              exact this (by rw [e1]; simp [blkOf, Value.ownBlock])
            have hplr := rchange_cells HQ.out
            simp only at hplr
            obtain ⟨x, hx⟩ : ∃ x, x = ((cutR data (foldW R k) R.files j)[((foldW R k)[j]'hlt).2]'(by rw [hfsl]; exact hix)) := ⟨_, rfl⟩
            rw [← hx] at f0 f1 hok HCN
            clear hx
            have HFS := Lib.hid hfsl
            clear hfl2 hfsl
            generalize ((foldW R k)[j]'hlt).2 = ix at q1 f0 f1 HCN HSET hix
            obtain ⟨x1, x2⟩ := x
            simp only at f0 f1 hok
            have j1 : (0 : Int) ≤ (ix : Int) := by omega
            have j2 : (ix : Int) < (R.files.length : Int) := by omega
            go_wp2_with fail
            have n1 := World.new_ne wr _ k1
            have n2 := World.new_ne wr _ q1
            have n3 := World.new_ne wr _ f0
            have n4 := World.new_ne wr _ f1
            go_region_held3 (fun w' => w'.cell? ⟨r.p, 1, none⟩ = some (.slice (some ⟨fb, 0, none⟩) R.files.length fc) ∧ w'.cell? ⟨nb, j * 2 + 1, none⟩ = some (.int .i64 ix) ∧ w'.cell? ⟨fb, ix * 2, none⟩ = some (.string x1) ∧ w'.cell? ⟨fb, ix * 2 + 1, none⟩ = some (.int .i64 x2)) (go_keep) (fail)
            have HQx : Hid (RRep (wr.alloc (.cells #[.string x1, .int .i64 x2] 105)).drew { r with nv := .slice (some ⟨nb, 0, none⟩) (foldW R k).length vc, lv := .slice (some ⟨nb, 0, none⟩) (foldW R k).length vc, wv := .slice none 0 0 } { R with now := foldW R k, lasts := foldW R k, wait := [], fuse := -1, dead := false, files := cutR data (foldW R k) R.files j }) := Lib.hid (HQ.out.below (((Below.refl _ _).alloc (Nat.le_refl _) _).drew))
            have HTx : Hid (Turn w5 (wr.alloc (.cells #[.string x1, .int .i64 x2] 105)).drew (rfoot { r with nv := .slice (some ⟨nb, 0, none⟩) (foldW R k).length vc, lv := .slice (some ⟨nb, 0, none⟩) (foldW R k).length vc, wv := .slice none 0 0 })) := Lib.hid (HT.out.trans (Turn.of_below (((Below.refl _ _).alloc (Nat.le_refl _) _).drew) []) (fun b hb => by cases hb))
            have hxb : (wr.alloc (.cells #[.string x1, .int .i64 x2] 105)).drew.heap[wr.heap.size]? = some (.cells #[.string x1, .int .i64 x2] 105 (0, 0)) := (MapKept.heap_alloc wr _).1
            have m1 := Go.Lib.cell?_alloc_some (W := wr) (.cells #[.string x1, .int .i64 x2] 105) k1
            have m2 := Go.Lib.cell?_alloc_some (W := wr) (.cells #[.string x1, .int .i64 x2] 105) q1
            have mz : ∀ o, (wr.alloc (.cells #[.string x1, .int .i64 x2] 105)).drew.frozen? ⟨fb, o, none⟩ = false := fun o => (World.frozen?_alloc_old wr _ ⟨fb, o, none⟩ (Nat.ne_of_lt hfb)).trans (fz o)
            have m3 := Go.Lib.cell?_alloc_some (W := wr) (.cells #[.string x1, .int .i64 x2] 105) f0
            have m4 := Go.Lib.cell?_alloc_some (W := wr) (.cells #[.string x1, .int .i64 x2] 105) f1
            have m1 : (wr.alloc (.cells #[.string x1, .int .i64 x2] 105)).drew.cell? ⟨r.p, 1, none⟩ = _ := m1
            have m2 : (wr.alloc (.cells #[.string x1, .int .i64 x2] 105)).drew.cell? ⟨nb, j * 2 + 1, none⟩ = _ := m2
            have m3 : (wr.alloc (.cells #[.string x1, .int .i64 x2] 105)).drew.cell? ⟨fb, ix * 2, none⟩ = _ := m3
            have m4 : (wr.alloc (.cells #[.string x1, .int .i64 x2] 105)).drew.cell? ⟨fb, ix * 2 + 1, none⟩ = _ := m4
            have hsx : (wr.alloc (.cells #[.string x1, .int .i64 x2] 105)).drew.heap.size = wr.heap.size + 1 := by simp
            have HB5 := Lib.hid hsx
            clear k1 q1 f0 f1 fz kz hsx
            generalize (wr.alloc (.cells #[.string x1, .int .i64 x2] 105)).drew = wx at *
            obtain ⟨xb, hxbe⟩ : ∃ xb, xb = wr.heap.size := ⟨_, rfl⟩
            have HXB := Lib.hid hxbe
            rw [← hxbe] at hxb n1 n2 n3 n4 ⊢
            clear hxbe
            have x0c : wx.cell? ⟨xb, 0, none⟩ = some (.string x1) := by rw [cell_of_block hxb]; rfl
            have x1c : wx.cell? ⟨xb, 1, none⟩ = some (.int .i64 x2) := by rw [cell_of_block hxb]; rfl
            have xz : ∀ o, wx.frozen? ⟨xb, o, none⟩ = false := fun o => unfrozen_of_block hxb o
            have HXBLK := Lib.hid hxb
            clear hxb
            by_cases hjd : j < data.length
            · have d1 : (j : Int) < (data.length : Int) := by omega
              have hdc : ∃ a, da = some a ∧ wx.cell? (a.add j) = some (.int .i64 (data[j]'hjd)) := by
                have hdne : data ≠ [] := fun e => by rw [e] at hjd; simp at hjd
                have hNw := HD.out.frame (w' := wx) fun hx b hb => by
                  have l1 := HD.out.lt hx b hb
                  have l2 := HDL.out hdne b hb
                  have z5 := T5.out.size
                  rw [HTx.out.block b (by omega) (fun hm => (s5 b hm).elim l2 (by omega)), T5.out.block b l1 l2]
                rcases hNw with ⟨e, e2⟩ | ⟨a, c', e, _, hc⟩
                · exact absurd (by simpa using e2) hdne
                · simp only [Value.slice.injEq] at e
                  exact ⟨a, e.1, hc j _ (by rw [List.getElem?_map, List.getElem?_eq_getElem hjd]; rfl)⟩
              obtain ⟨a, hda, hdc⟩ := hdc
              subst hda
              obtain ⟨K, hK, hKl, hKR⟩ : ∃ K : Nat, min (max (data[j]'hjd) 0) ((x1.size : Int) - (x2 : Int)) = (K : Int) ∧ x2 + K ≤ x1.size ∧ keepR data j (x1, x2) = K := ⟨(min (max (data[j]'hjd) 0) ((x1.size : Int) - (x2 : Int))).toNat, by omega, by omega, by unfold keepR; rw [dif_pos hjd]⟩
              have HKR := Lib.hid hKR
              generalize (data[j]'hjd) = d at hdc hK
              have hw1 : IntKind.i64.wrap ((x1.size : Int) - (x2 : Int)) = (x1.size : Int) - (x2 : Int) := IntWalk.i64_in _ (by omega)
              obtain ⟨nn, hnn⟩ : ∃ nn, nn = x2 + K := ⟨_, rfl⟩
              have hw2 : IntKind.i64.wrap ((x2 : Int) + (K : Int)) = (nn : Int) := by rw [IntWalk.i64_in _ (by omega)]; omega
              have hx2 : (nn : Int) ≤ (x1.size : Int) := by omega
              have hx3 : (0 : Int) ≤ (nn : Int) := by omega
              have HNN := Lib.hid hnn
              clear hKR hnn
              go_wp2_with fail
              go_quiet (fail)
              have HQz := Lib.hid (HQx.out.below (w' := wx.drewN nq) ⟨rfl, rfl, rfl, Nat.le_refl _, fun _ _ => rfl⟩)
              have HTz := Lib.hid (HTx.out.trans (Turn.of_below (w := wx) (w' := wx.drewN nq) ⟨rfl, rfl, rfl, Nat.le_refl _, fun _ _ => rfl⟩ []) (fun b hb => by cases hb))
              have y1c : (wx.drewN nq).cell? ⟨r.p, 1, none⟩ = _ := m1
              have y2c : (wx.drewN nq).cell? ⟨nb, j * 2 + 1, none⟩ = _ := m2
              have y3c : (wx.drewN nq).cell? ⟨fb, ix * 2, none⟩ = _ := m3
              have y4c : (wx.drewN nq).cell? ⟨fb, ix * 2 + 1, none⟩ = _ := m4
              have y5c : (wx.drewN nq).cell? ⟨xb, 0, none⟩ = _ := x0c
              have y6c : (wx.drewN nq).cell? ⟨xb, 1, none⟩ = _ := x1c
              have yzf : ∀ o, (wx.drewN nq).frozen? ⟨fb, o, none⟩ = false := mz
              have yxf : ∀ o, (wx.drewN nq).frozen? ⟨xb, o, none⟩ = false := xz
              have HXBL : Hid ((wx.drewN nq).heap[xb]? = _) := Lib.hid HXBLK.out
              clear m1 m2 m3 m4 x0c x1c mz xz HQx HTx HXBLK hdc hK
              generalize (wx.drewN nq) = wz at *
              go_wp2_with fail
              rw [show min nn x1.size = nn from Nat.min_eq_left (by omega)]
              obtain ⟨y1, hy1⟩ : ∃ y1, y1 = x1.extract 0 nn := ⟨_, rfl⟩
              rw [← hy1]
              have hT2 := (turn_set wz xb 0 (.string y1)).trans (turn_set (wz.setCell ⟨xb, 0, none⟩ (.string y1)) xb 1 (.int .i64 (nn : Nat))) (fun b hb => .inl hb)
              have hxn : ∀ b ∈ rfoot { r with nv := .slice (some ⟨nb, 0, none⟩) (foldW R k).length vc, lv := .slice (some ⟨nb, 0, none⟩) (foldW R k).length vc, wv := .slice none 0 0 }, b ∉ [xb] := fun b hb hm => by
                have e1 : b = xb := by simpa using hm
                have e2 := HQ.out.lt b hb
                have e3 := HXB.out
                omega
              have HQy := Lib.hid (HQz.out.turn hT2 hxn)
              have HTy := Lib.hid (HTz.out.trans (hT2.mono (F' := [xb]) (fun b hb => .inl hb)) (fun b hb => .inr (by
                have e1 : b = xb := by simpa using hb
                have e3 := HXB.out
                have e4 := HT.out.size
                omega)))
              have far : ∀ (q o o' : Nat) (u : Value), xb ≠ q → wz.cell? ⟨q, o, none⟩ = some u → ((wz.setCell ⟨xb, 0, none⟩ (.string y1)).setCell ⟨xb, 1, none⟩ (.int .i64 (nn : Nat))).cell? ⟨q, o, none⟩ = some u := fun q o _ u hq hc => by
                rw [World.cell?_setCell_far _ _ _ _ hq, World.cell?_setCell_far _ _ _ _ hq]; exact hc
              have p1 := far r.p 1 0 _ n1 y1c
              have p2 := far nb _ 0 _ n2 y2c
              have p3 := far fb _ 0 _ n3 y3c
              have p4 := far fb _ 0 _ n4 y4c
              have b0 := block_setCell (i := 0) HXBL.out (.string y1)
              have b1 := block_setCell (i := 1) b0 (.int .i64 (nn : Nat))
              have p5 : ((wz.setCell ⟨xb, 0, none⟩ (.string y1)).setCell ⟨xb, 1, none⟩ (.int .i64 (nn : Nat))).cell? ⟨xb, 0, none⟩ = some (.string y1) := by rw [cell_of_block b1]; rfl
              have p6 : ((wz.setCell ⟨xb, 0, none⟩ (.string y1)).setCell ⟨xb, 1, none⟩ (.int .i64 (nn : Nat))).cell? ⟨xb, 1, none⟩ = some (.int .i64 (nn : Nat)) := by rw [cell_of_block b1]; rfl
              have pz : ∀ o, ((wz.setCell ⟨xb, 0, none⟩ (.string y1)).setCell ⟨xb, 1, none⟩ (.int .i64 (nn : Nat))).frozen? ⟨fb, o, none⟩ = false := fun o => by
                rw [World.frozen?_setCell, World.frozen?_setCell]; exact yzf o
              have HY1 := Lib.hid hy1
              clear far b0 b1 hT2 hxn hy1 y5c y6c yxf y1c y2c y3c y4c yzf
              generalize ((wz.setCell ⟨xb, 0, none⟩ (.string y1)).setCell ⟨xb, 1, none⟩ (.int .i64 (nn : Nat))) = wy at *
              go_region
              all_goals
                have hfin := HSET.out wy HQy.out (y1, nn)
                have HFIN := Lib.hid hfin
                go_wp2_with fail
                go_roundw
                case measure => simp [RowKit.intOf]; omega
                case rel =>
                  refine ⟨j + 1, by omega, by go_num, ?_, ?_⟩
                  · have e : cutR data (foldW R k) R.files (j + 1) = (cutR data (foldW R k) R.files j).set ix (y1, nn) := by
                      rw [HCN.out]
                      congr 1
                      have e2 := HKR.out
                      have e3 := HY1.out
                      rw [e3]
                      unfold cutP
                      simp only [e2]
                      rw [← HNN.out]; simp; omega
                    rw [e]
                    exact Lib.hid (HFIN.out.1.below ((Below.refl _ _).drew))
                  · exact Lib.hid ((HTy.out.trans HFIN.out.2 (fun b hb => .inl hb)).trans (Turn.of_below ((Below.refl _ _).drew) []) (fun b hb => by cases hb))
            · have d1 : ¬ (j : Int) < (data.length : Int) := by omega
              have HKR : Hid (keepR data j (x1, x2) = 0) := Lib.hid (by unfold keepR; rw [dif_neg hjd])
              have hw2 : IntKind.i64.wrap ((x2 : Int) + 0) = (x2 : Int) := by rw [IntWalk.i64_in _ (by omega)]; omega
              have hx2 : (x2 : Int) ≤ (x1.size : Int) := by omega
              go_wp2_with fail
              obtain ⟨y1, hy1⟩ : ∃ y1, y1 = x1.extract 0 x2 := ⟨_, rfl⟩
              rw [← hy1]
              have hT2 := (turn_set wx xb 0 (.string y1)).trans (turn_set (wx.setCell ⟨xb, 0, none⟩ (.string y1)) xb 1 (.int .i64 (x2 : Nat))) (fun b hb => .inl hb)
              have hxn : ∀ b ∈ rfoot { r with nv := .slice (some ⟨nb, 0, none⟩) (foldW R k).length vc, lv := .slice (some ⟨nb, 0, none⟩) (foldW R k).length vc, wv := .slice none 0 0 }, b ∉ [xb] := fun b hb hm => by
                have e1 : b = xb := by simpa using hm
                have e2 := HQ.out.lt b hb
                have e3 := HXB.out
                omega
              have HQy := Lib.hid (HQx.out.turn hT2 hxn)
              have HTy := Lib.hid (HTx.out.trans (hT2.mono (F' := [xb]) (fun b hb => .inl hb)) (fun b hb => .inr (by
                have e1 : b = xb := by simpa using hb
                have e3 := HXB.out
                have e4 := HT.out.size
                omega)))
              have far : ∀ (q o o' : Nat) (u : Value), xb ≠ q → wx.cell? ⟨q, o, none⟩ = some u → ((wx.setCell ⟨xb, 0, none⟩ (.string y1)).setCell ⟨xb, 1, none⟩ (.int .i64 (x2 : Nat))).cell? ⟨q, o, none⟩ = some u := fun q o _ u hq hc => by
                rw [World.cell?_setCell_far _ _ _ _ hq, World.cell?_setCell_far _ _ _ _ hq]; exact hc
              have p1 := far r.p 1 0 _ n1 m1
              have p2 := far nb _ 0 _ n2 m2
              have p3 := far fb _ 0 _ n3 m3
              have p4 := far fb _ 0 _ n4 m4
              have b0 := block_setCell (i := 0) HXBLK.out (.string y1)
              have b1 := block_setCell (i := 1) b0 (.int .i64 (x2 : Nat))
              have p5 : ((wx.setCell ⟨xb, 0, none⟩ (.string y1)).setCell ⟨xb, 1, none⟩ (.int .i64 (x2 : Nat))).cell? ⟨xb, 0, none⟩ = some (.string y1) := by rw [cell_of_block b1]; rfl
              have p6 : ((wx.setCell ⟨xb, 0, none⟩ (.string y1)).setCell ⟨xb, 1, none⟩ (.int .i64 (x2 : Nat))).cell? ⟨xb, 1, none⟩ = some (.int .i64 (x2 : Nat)) := by rw [cell_of_block b1]; rfl
              have pz : ∀ o, ((wx.setCell ⟨xb, 0, none⟩ (.string y1)).setCell ⟨xb, 1, none⟩ (.int .i64 (x2 : Nat))).frozen? ⟨fb, o, none⟩ = false := fun o => by
                rw [World.frozen?_setCell, World.frozen?_setCell]; exact mz o
              have HY1 := Lib.hid hy1
              clear far b0 b1 hT2 hxn hy1 x0c x1c xz m1 m2 m3 m4 mz
              generalize ((wx.setCell ⟨xb, 0, none⟩ (.string y1)).setCell ⟨xb, 1, none⟩ (.int .i64 (x2 : Nat))) = wy at *
              go_region
              all_goals
                have hfin := HSET.out wy HQy.out (y1, x2)
                have HFIN := Lib.hid hfin
                go_wp2_with fail
                go_roundw
                case measure => simp [RowKit.intOf]; omega
                case rel =>
                  refine ⟨j + 1, by omega, by go_num, ?_, ?_⟩
                  · have e : cutR data (foldW R k) R.files (j + 1) = (cutR data (foldW R k) R.files j).set ix (y1, x2) := by
                      rw [HCN.out]
                      congr 1
                      have e2 := HKR.out
                      have e3 := HY1.out
                      rw [e3]
                      unfold cutP
                      simp only [e2]
                      simp; omega
                    rw [e]
                    exact Lib.hid (HFIN.out.1.below ((Below.refl _ _).drew))
                  · exact Lib.hid ((HTy.out.trans HFIN.out.2 (fun b hb => .inl hb)).trans (Turn.of_below ((Below.refl _ _).drew) []) (fun b hb => by cases hb))
          · have t1 : ¬ (j : Int) < ((foldW R k).length : Int) := by omega
            obtain rfl : j = (foldW R k).length := by omega
            have HCR : Hid (rcrashS R names data = { R with now := foldW R k, lasts := foldW R k, wait := [], fuse := -1, dead := false, files := cutR data (foldW R k) R.files (foldW R k).length }) := Lib.hid (by unfold rcrashS; rw [← HN.out]; rfl)
            go_wp2_with fail
            refine bodyPost_end (v := .tuple #[]) (by simp [results, Try.results50]) rfl ?_
            refine ⟨rfl, ?_⟩
            rw [HCR.out]
            exact RLeft.of (r := r) (r1 := { r with nv := .slice va (foldW R k).length vc, lv := .slice va (foldW R k).length vc, wv := .slice none 0 0 }) rfl T5.out s5 ⟨_, rfl, HQ.out, HT.out, fun b hb => .inl hb⟩
end Go.Proofs.Ytijdgmbpkfmciaa.Fs
