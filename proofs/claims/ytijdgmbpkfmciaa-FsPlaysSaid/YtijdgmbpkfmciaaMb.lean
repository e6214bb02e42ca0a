/- The document's file system: names put in order, changes done. -/
import Derived.Test.YtijdgmbpkfmciaaMa
import Derived.Deep.AppendLies
import Derived.Deep.RegionLaw
import Derived.Deep.RegionWith
/- The document's file system: put, apply, change. -/
namespace Go.Proofs.Ytijdgmbpkfmciaa.Fs
open Go.RowKit Go.Maps Go.ChangeMaps Go.WideMaps Go.Joins Go.Sort

theorem info96 : (Try.prog.info? 96).map (fun i => (i.zero, i.size, i.bytes)) = some (some (.agg #[.string ⟨#[]⟩, .int .i64 0]), 2, 24) := by kernel_rfl
theorem info105 : (Try.prog.info? 105).map (fun i => (i.zero, i.size, i.bytes)) = some (some (.agg #[.string ⟨#[]⟩, .int .i64 0]), 2, 24) := by kernel_rfl
theorem info108 : (Try.prog.info? 108).map (fun i => (i.zero, i.size, i.bytes)) = some (some (.agg #[.string ⟨#[]⟩, .string ⟨#[]⟩, .int .i64 0]), 3, 40) := by kernel_rfl
theorem cells_new (w : World) (xs : List Value) (t : TypeId) : ∀ j u, xs[j]? = some u → (w.alloc (.cells xs.toArray t)).cell? ((⟨w.heap.size, 0, none⟩ : Addr).add j) = some u := by
  intro j u hj
  have h : (w.alloc (.cells xs.toArray t)).heap[w.heap.size]? = some (.cells xs.toArray t) := (MapKept.heap_alloc w _).1
  rw [add_head, World.cell?]
  simp only [h]
  simpa using hj
theorem one_pr (x : Pr) : ∀ u ∈ [Value.string x.1, .int .i64 x.2], u.oneCell' = true := by
  intro u hu
  simp only [List.mem_cons, List.not_mem_nil, or_false] at hu
  rcases hu with rfl | rfl <;> rfl
theorem drop_prC : ∀ (l : List Pr) (k : Nat), (l.drop k).flatMap prC = (l.flatMap prC).drop (k * 2)
  | [], k => by simp
  | x :: l, 0 => by simp
  | x :: l, k + 1 => by
    have e : (x :: l).flatMap prC = .string x.1 :: .int .i64 x.2 :: l.flatMap prC := rfl
    rw [List.drop_succ_cons, drop_prC l k, e, show (k + 1) * 2 = k * 2 + 1 + 1 from by omega, List.drop_succ_cons, List.drop_succ_cons]
/-- append of nothing. -/
theorem run_append_none (w : World) (t ty e : TypeId) (i : TypeInfo) (ht : Try.prog.underlying t = some (.slice e)) (hi : Try.prog.info? e = some i) {base s n : Nat} {v : Value} {xs : List Value} (h : w.ownsRow base e s v n xs) :
    (Builtin.append_ #[t, t] ty #[v, .slice none 0 0]).run Try.prog w = .ok v w := by
  rcases h.2 with ⟨rfl, _⟩ | ⟨g, cap, cur, rfl, _, h3, h4, h5, h6, h7⟩
  · simp [Builtin.append_, run_underlying ht, sizeOf, typeInfo, hi, Builtin.lenOf, Builtin.firstCells, loadCells, loadCellsFrom]
  · simp [Builtin.append_, run_underlying ht, sizeOf, typeInfo, hi, Builtin.lenOf, Builtin.firstCells, loadCells, h4]
    simp [storeCells, Result.andThen, Sem.run_pure]
theorem own_lo {w : World} {b : Nat} {e : TypeId} {s n : Nat} {v : Value} {xs : List Value} (h : w.ownsRow b e s v n xs) : ∀ k, some k = v.ownBlock → b ≤ k := fun k hk => (World.ownsRow.lt h k hk.symm).1

end Go.Proofs.Ytijdgmbpkfmciaa.Fs

/- The document's file system: put walked. -/
namespace Go.Proofs.Ytijdgmbpkfmciaa.Fs
open Go.RowKit Go.Maps Go.ChangeMaps Go.WideMaps Go.Joins Go.Sort

theorem below_grown1 {w wr w4 : World} {r : Option Nat} (hb : Below w.heap.size w wr) (hg : wr.grownBy w4 r) (hr : ∀ k, some k = r → w.heap.size ≤ k) : Below w.heap.size w w4 := by
  have hz := hb.size
  have hz2 := hg.size
  refine ⟨hg.os.trans hb.os, hg.tape.trans hb.tape, hg.output.trans hb.output, by omega, fun k hk => ?_⟩
  rw [hg.block k (by omega) (fun e => by have := hr k e; omega), hb.block k hk]
theorem below_grown {w wr w4 w5 : World} {o : Obj} {r r2 : Option Nat} (hb : Below w.heap.size w wr) (hg : (wr.alloc o).grownBy w4 r) (hg2 : w4.grownBy w5 r2) (hr : ∀ k, some k = r → w.heap.size ≤ k) (hr2 : ∀ k, some k = r2 → w.heap.size ≤ k) : Below w.heap.size w w5 :=
  below_grown1 (below_append hb hg hr) hg2 hr2
theorem wpList_append_none (w : World) {ops : Array Oper} {rest : List Oper} {o : Oper} {a : Act} {Q : Exit → Act → World → Prop} (hgd : o.guard = none) (s x : Operand) (t e : TypeId)
    (ho : o.op = .call { callee := .builtin .append, args := #[s, x], argTypes := #[t, t] }) (i : TypeInfo) (ht : Try.prog.underlying t = some (.slice e)) (hi : Try.prog.info? e = some i) {base z n : Nat} {v : Value} {xs : List Value} (hs : a.eval s = v) (h : w.ownsRow base e z v n xs)
    (hx : a.eval x = .slice none 0 0) (hK : wpList Try.prog ops Q rest (a.put o.dst v) w) : wpList Try.prog ops Q (o :: rest) a w := by
  refine wpList_plain hgd fun K hK' => ?_
  have hr := run_append_none w t o.type e i ht hi h
  unfold Oper.wp execOp
  simp only [ho, resolve, invoke, builtin, Sem.run_bind, Sem.run_pure, Result.andThen_ok, List.map_toArray, List.map_cons, List.map_nil, hs, hx, hr]
  exact hK' _ _ hK
def PutLeft (w : World) (L : List Pr) (e : Ending) (w' : World) : Prop := ∃ v', e = .returned v' ∧ w'.ownsRow w.heap.size 96 2 v' L.length (L.flatMap prC) ∧ Below w.heap.size w w'

set_option maxHeartbeats 8000000 in
set_option maxRecDepth 100000 in
theorem rput_any (L : List Pr) (v : Value) (s : ByteArray) (f : Int) (w : World) (h : w.ownsRow 0 96 2 v L.length (L.flatMap prC)) (hl : L.length ≤ 1000000) (hf : -9223372036854775808 ≤ f ∧ f < 9223372036854775808) :
    Calls Try.prog 66 #[v, .string s, .int .i64 f] w (PutLeft w (lput L s f)) := by
  obtain ⟨la, lc, rfl⟩ := owned_slice h
  have HL := Lib.hid h
  obtain ⟨i0, hi, hz0, hz1, hz2⟩ := info_parts info96
  clear h
  go_enter Try.func66, Try.ntmps66
  go_wp2_with fail
  go_loopw [7, 8] (fun ov i wr => ∃ (k : Nat), k ≤ L.length ∧ i = .int .i64 k ∧ Hid (wr.ownsRow w.heap.size 96 2 ov k ((L.take k).flatMap prC)) ∧ Hid (Below w.heap.size w wr) ∧ Hid (∀ j (hj : j < L.length), j < k → Op.bytesLess (L[j]'hj).1.toList s.toList = true)) (fun _ i _ => L.length - (RowKit.intOf i).toNat)
  case atStart => exact ⟨0, Nat.zero_le _, rfl, Lib.hid (World.ownsRow_nil _ _ _ _), Lib.hid (Below.refl _ _), Lib.hid fun j _ hj => absurd hj (Nat.not_lt_zero _)⟩
  case round =>
    obtain ⟨k, hk, rfl, HO, HB, HZ⟩ := hrel
    obtain ⟨oa, oc, rfl⟩ := owned_slice HO.out
    have hown := HO.out
    have hbs := HB.out.size
    by_cases hlt : k < L.length
    · have s1 : (k : Int) < (L.length : Int) := by omega
      obtain ⟨b, rfl, hcap, q0, q1, -, hbl⟩ := pr_cell HL.out hlt
      obtain ⟨b', hbe, -, HCELLS, -, -⟩ := owned_cell HL.out (by omega)
      simp only [Option.some.injEq, Addr.mk.injEq, and_true] at hbe
      subst hbe
      have HCE := Lib.hid HCELLS
      have q0' := (HB.out.cell (p := ⟨b, k * 2, none⟩) hbl).trans q0
      have q1' := (HB.out.cell (p := ⟨b, k * 2 + 1, none⟩) hbl).trans q1
      have HTK := Lib.hid (show (L.take (k + 1)).flatMap prC = (L.take k).flatMap prC ++ prC (L[k]'hlt) from by rw [List.take_add_one, List.getElem?_eq_getElem hlt, List.flatMap_append]; simp)
      have HEQ := Lib.hid (lput_eq L s f k hlt HZ.out)
      have HNE := Lib.hid (lput_ne L s f k hlt HZ.out)
      have HZ2 : Hid (Op.bytesLess (L[k]'hlt).1.toList s.toList = true → ∀ j (hj : j < L.length), j < k + 1 → Op.bytesLess (L[j]'hj).1.toList s.toList = true) := Lib.hid fun hne j hj hjk => by
        by_cases e : j = k
        · subst e; exact hne
        · exact HZ.out j hj (by omega)
      clear q0 q1 HCELLS
      generalize (L[k]'hlt) = x at q0' q1' HTK HEQ HNE HZ2
      obtain ⟨x1, x2⟩ := x
      simp only at q0' q1' HTK HEQ HNE HZ2
      by_cases hless : Op.bytesLess x1.toList s.toList = true
      · have HZ3 := Lib.hid (HZ2.out hless)
        go_wp2_with (first | (at_builtin; refine wpList_append_own_at _ rfl (.tmp 22) (.tmp 27) 87 rfl w.heap.size 96 i0 (.agg #[.string ⟨#[]⟩, .int .i64 0]) 2 24 Try.underlying87 hi hz0 hz1 hz2 rfl (by decide) _ _ _ rfl (hown.alloc _) ⟨wr.heap.size, 0, none⟩ 1 1 [.string x1, .int .i64 x2] rfl rfl (cells_new wr [.string x1, .int .i64 x2] 96) (one_pr (x1, x2)) (by unfold maxLen; omega) (by omega) (by simp; omega) ?_; intro v' w4 hown' hgrow hnil hloc))
        go_roundw
        case measure => simp [RowKit.intOf]; omega
        case rel => exact ⟨k + 1, by omega, by go_num, Lib.hid (by rw [HTK.out]; exact hown'), Lib.hid (below_append HB.out hgrow (own_lo hown)), HZ3⟩
      · have hless2 : Op.bytesLess x1.toList s.toList = false := by simpa using hless
        clear hless
        by_cases he : x1 = s
        · have HP := Lib.hid (HEQ.out hless2 he)
          have he1 : (x1.toList == s.toList) = true := by rw [he]; simp
          clear he
          have HLEN := Lib.hid (show ((L.drop (k + 1)).flatMap prC).length = (L.length - (k + 1)) * 2 from by rw [len_prC, List.length_drop])
          have HONE := Lib.hid (one_prC (L.drop (k + 1)))
          have HNEW : Hid (∀ W : World, Below w.heap.size w W → ∀ j u, ((L.drop (k + 1)).flatMap prC)[j]? = some u → W.cell? ((⟨b, (k + 1) * 2, none⟩ : Addr).add j) = some u) := Lib.hid fun W hW j u hj => by
            rw [drop_prC, List.getElem?_drop] at hj
            rw [Addr.add_mid]
            exact (hW.cell (p := ⟨b, (k + 1) * 2 + j, none⟩) hbl).trans (HCE.out _ _ hj)
          have HN0 : Hid (∀ (W : World) (ad : Addr) j u, ([] : List Value)[j]? = some u → W.cell? (ad.add j) = some u) := Lib.hid fun W ad j u hj => by simp at hj
          have HO0 : Hid (∀ u ∈ ([] : List Value), u.oneCell' = true) := Lib.hid fun u hu => by simp at hu
          have HTL := Lib.hid (List.length_take_of_le hk)
          by_cases h0 : 0 ≤ f
          · obtain ⟨fn, rfl⟩ := Int.eq_ofNat_of_zero_le h0
            by_cases hcap2 : lc = k + 1
            · have HCQ := Lib.hid hcap2
              subst hcap2
              go_wp2_with (first | (at_builtin; refine wpList_append_own_at _ rfl (.tmp 48) (.tmp 52) 87 rfl w.heap.size 96 i0 (.agg #[.string ⟨#[]⟩, .int .i64 0]) 2 24 Try.underlying87 hi hz0 hz1 hz2 rfl (by decide) _ _ _ rfl (hown.alloc _) ⟨wr.heap.size, 0, none⟩ 1 1 [.string s, .int .i64 fn] rfl rfl (cells_new wr [.string s, .int .i64 fn] 96) (one_pr (s, fn)) (by unfold maxLen; omega) (by omega) (by simp; omega) ?_; intro v4 w4 hown4 hgrow4 hnil4 hloc4; obtain ⟨xa, xc, rfl⟩ := owned_slice hown4; clear hnil4; have hz4 : w.heap.size ≤ w4.heap.size := (below_append HB.out hgrow4 (own_lo hown)).size) | (at_builtin; refine wpList_append_own_at _ rfl (.tmp 54) (.tmp 57) 87 rfl w.heap.size 96 i0 (.agg #[.string ⟨#[]⟩, .int .i64 0]) 2 24 Try.underlying87 hi hz0 hz1 hz2 rfl (by decide) _ _ _ rfl hown4 _ 0 _ [] rfl rfl (HN0.out _ _) HO0.out (by unfold maxLen; omega) (by omega) (by omega) ?_; intro v5 w5 hown5 hgrow5 hnil5 hloc5))
              go_ret
              refine ⟨v5, rfl, ?_, ?_⟩
              · rw [HP.out]
                rw [List.drop_of_length_le (show L.length ≤ k + 1 by omega)]
                have e : ((L.take k ++ ins s (fn : Nat) ++ []) : List Pr).length = k + 1 + 0 := by simp [ins, HTL.out]
                rw [e, List.flatMap_append, List.flatMap_append, show ins s (fn : Nat) = [(s, fn)] from by simp [ins]]
                simpa [prC] using hown5
              · exact below_grown HB.out hgrow4 hgrow5 (own_lo hown) (own_lo hown4)
            · have hcap3 : ¬ lc = k + 1 := hcap2
              go_wp2_with (first | (at_builtin; refine wpList_append_own_at _ rfl (.tmp 48) (.tmp 52) 87 rfl w.heap.size 96 i0 (.agg #[.string ⟨#[]⟩, .int .i64 0]) 2 24 Try.underlying87 hi hz0 hz1 hz2 rfl (by decide) _ _ _ rfl (hown.alloc _) ⟨wr.heap.size, 0, none⟩ 1 1 [.string s, .int .i64 fn] rfl rfl (cells_new wr [.string s, .int .i64 fn] 96) (one_pr (s, fn)) (by unfold maxLen; omega) (by omega) (by simp; omega) ?_; intro v4 w4 hown4 hgrow4 hnil4 hloc4; obtain ⟨xa, xc, rfl⟩ := owned_slice hown4; clear hnil4; have hz4 : w.heap.size ≤ w4.heap.size := (below_append HB.out hgrow4 (own_lo hown)).size) | (at_builtin; refine wpList_append_own_at _ rfl (.tmp 54) (.tmp 57) 87 rfl w.heap.size 96 i0 (.agg #[.string ⟨#[]⟩, .int .i64 0]) 2 24 Try.underlying87 hi hz0 hz1 hz2 rfl (by decide) _ _ _ rfl hown4 _ (L.length - (k + 1)) _ ((L.drop (k + 1)).flatMap prC) rfl HLEN.out (HNEW.out w4 (below_append HB.out hgrow4 (own_lo hown))) HONE.out (by unfold maxLen; omega) (by omega) (by omega) ?_; intro v5 w5 hown5 hgrow5 hnil5 hloc5))
              go_ret
              refine ⟨v5, rfl, ?_, ?_⟩
              · rw [HP.out]
                have e : ((L.take k ++ ins s (fn : Nat) ++ L.drop (k + 1)) : List Pr).length = k + 1 + (L.length - (k + 1)) := by simp [ins, HTL.out]; omega
                rw [e, List.flatMap_append, List.flatMap_append, show ins s (fn : Nat) = [(s, fn)] from by simp [ins]]
                simpa [prC] using hown5
              · exact below_grown HB.out hgrow4 hgrow5 (own_lo hown) (own_lo hown4)
          · have h0' : f < 0 := by omega
            by_cases hcap2 : lc = k + 1
            · have HCQ := Lib.hid hcap2
              subst hcap2
              go_wp2_with (first | (at_builtin; refine wpList_append_own_at _ rfl (.tmp 54) (.tmp 57) 87 rfl w.heap.size 96 i0 (.agg #[.string ⟨#[]⟩, .int .i64 0]) 2 24 Try.underlying87 hi hz0 hz1 hz2 rfl (by decide) _ _ _ rfl hown _ 0 _ [] rfl rfl (HN0.out _ _) HO0.out (by unfold maxLen; omega) (by omega) (by omega) ?_; intro v5 w5 hown5 hgrow5 hnil5 hloc5))
              go_ret
              refine ⟨v5, rfl, ?_, ?_⟩
              · rw [HP.out]
                rw [List.drop_of_length_le (show L.length ≤ k + 1 by omega)]
                have e : ((L.take k ++ ins s f ++ []) : List Pr).length = k + 0 := by simp [ins, HTL.out, h0]
                rw [e, List.flatMap_append, List.flatMap_append, show ins s f = [] from by simp [ins, h0']]
                simpa [prC] using hown5
              · exact below_grown1 HB.out hgrow5 (own_lo hown)
            · have hcap3 : ¬ lc = k + 1 := hcap2
              go_wp2_with (first | (at_builtin; refine wpList_append_own_at _ rfl (.tmp 54) (.tmp 57) 87 rfl w.heap.size 96 i0 (.agg #[.string ⟨#[]⟩, .int .i64 0]) 2 24 Try.underlying87 hi hz0 hz1 hz2 rfl (by decide) _ _ _ rfl hown _ (L.length - (k + 1)) _ ((L.drop (k + 1)).flatMap prC) rfl HLEN.out (HNEW.out wr HB.out) HONE.out (by unfold maxLen; omega) (by omega) (by omega) ?_; intro v5 w5 hown5 hgrow5 hnil5 hloc5))
              go_ret
              refine ⟨v5, rfl, ?_, ?_⟩
              · rw [HP.out]
                have e : ((L.take k ++ ins s f ++ L.drop (k + 1)) : List Pr).length = k + (L.length - (k + 1)) := by simp [ins, HTL.out, h0]
                rw [e, List.flatMap_append, List.flatMap_append, show ins s f = [] from by simp [ins, h0']]
                simpa [prC] using hown5
              · exact below_grown1 HB.out hgrow5 (own_lo hown)
        · have HP := Lib.hid (HNE.out hless2 he)
          have he1 : (x1.toList == s.toList) = false := beq_eq_false_iff_ne.2 fun e => he (toList_inj e)
          clear he
          have HLEN := Lib.hid (show ((L.drop (k)).flatMap prC).length = (L.length - (k)) * 2 from by rw [len_prC, List.length_drop])
          have HONE := Lib.hid (one_prC (L.drop (k)))
          have HNEW : Hid (∀ W : World, Below w.heap.size w W → ∀ j u, ((L.drop (k)).flatMap prC)[j]? = some u → W.cell? ((⟨b, (k) * 2, none⟩ : Addr).add j) = some u) := Lib.hid fun W hW j u hj => by
            rw [drop_prC, List.getElem?_drop] at hj
            rw [Addr.add_mid]
            exact (hW.cell (p := ⟨b, (k) * 2 + j, none⟩) hbl).trans (HCE.out _ _ hj)
          have HN0 : Hid (∀ (W : World) (ad : Addr) j u, ([] : List Value)[j]? = some u → W.cell? (ad.add j) = some u) := Lib.hid fun W ad j u hj => by simp at hj
          have HO0 : Hid (∀ u ∈ ([] : List Value), u.oneCell' = true) := Lib.hid fun u hu => by simp at hu
          have HTL := Lib.hid (List.length_take_of_le hk)
          by_cases h0 : 0 ≤ f
          · obtain ⟨fn, rfl⟩ := Int.eq_ofNat_of_zero_le h0
            have hcap2 : ¬ lc = k := by omega
            · have hcap3 : ¬ lc = k := hcap2
              go_wp2_with (first | (at_builtin; refine wpList_append_own_at _ rfl (.tmp 48) (.tmp 52) 87 rfl w.heap.size 96 i0 (.agg #[.string ⟨#[]⟩, .int .i64 0]) 2 24 Try.underlying87 hi hz0 hz1 hz2 rfl (by decide) _ _ _ rfl (hown.alloc _) ⟨wr.heap.size, 0, none⟩ 1 1 [.string s, .int .i64 fn] rfl rfl (cells_new wr [.string s, .int .i64 fn] 96) (one_pr (s, fn)) (by unfold maxLen; omega) (by omega) (by simp; omega) ?_; intro v4 w4 hown4 hgrow4 hnil4 hloc4; obtain ⟨xa, xc, rfl⟩ := owned_slice hown4; clear hnil4; have hz4 : w.heap.size ≤ w4.heap.size := (below_append HB.out hgrow4 (own_lo hown)).size) | (at_builtin; refine wpList_append_own_at _ rfl (.tmp 54) (.tmp 57) 87 rfl w.heap.size 96 i0 (.agg #[.string ⟨#[]⟩, .int .i64 0]) 2 24 Try.underlying87 hi hz0 hz1 hz2 rfl (by decide) _ _ _ rfl hown4 _ (L.length - (k)) _ ((L.drop (k)).flatMap prC) rfl HLEN.out (HNEW.out w4 (below_append HB.out hgrow4 (own_lo hown))) HONE.out (by unfold maxLen; omega) (by omega) (by omega) ?_; intro v5 w5 hown5 hgrow5 hnil5 hloc5))
              go_ret
              refine ⟨v5, rfl, ?_, ?_⟩
              · rw [HP.out]
                have e : ((L.take k ++ ins s (fn : Nat) ++ L.drop (k)) : List Pr).length = k + 1 + (L.length - (k)) := by simp [ins, HTL.out]; omega
                rw [e, List.flatMap_append, List.flatMap_append, show ins s (fn : Nat) = [(s, fn)] from by simp [ins]]
                simpa [prC] using hown5
              · exact below_grown HB.out hgrow4 hgrow5 (own_lo hown) (own_lo hown4)
          · have h0' : f < 0 := by omega
            have hcap2 : ¬ lc = k := by omega
            · have hcap3 : ¬ lc = k := hcap2
              go_wp2_with (first | (at_builtin; refine wpList_append_own_at _ rfl (.tmp 54) (.tmp 57) 87 rfl w.heap.size 96 i0 (.agg #[.string ⟨#[]⟩, .int .i64 0]) 2 24 Try.underlying87 hi hz0 hz1 hz2 rfl (by decide) _ _ _ rfl hown _ (L.length - (k)) _ ((L.drop (k)).flatMap prC) rfl HLEN.out (HNEW.out wr HB.out) HONE.out (by unfold maxLen; omega) (by omega) (by omega) ?_; intro v5 w5 hown5 hgrow5 hnil5 hloc5))
              go_ret
              refine ⟨v5, rfl, ?_, ?_⟩
              · rw [HP.out]
                have e : ((L.take k ++ ins s f ++ L.drop (k)) : List Pr).length = k + (L.length - (k)) := by simp [ins, HTL.out, h0]
                rw [e, List.flatMap_append, List.flatMap_append, show ins s f = [] from by simp [ins, h0']]
                simpa [prC] using hown5
              · exact below_grown1 HB.out hgrow5 (own_lo hown)
    · have s1 : ¬ (k : Int) < (L.length : Int) := by omega
      have hkn : k = L.length := by omega
      have HP := Lib.hid (lput_end L s f fun j hj => HZ.out j hj (by omega))
      have HTK := Lib.hid (show L.take k = L from List.take_of_length_le (by omega))
      have HN0 : Hid (∀ (W : World) (ad : Addr) j u, ([] : List Value)[j]? = some u → W.cell? (ad.add j) = some u) := Lib.hid fun W ad j u hj => by simp at hj
      have HO0 : Hid (∀ u ∈ ([] : List Value), u.oneCell' = true) := Lib.hid fun u hu => by simp at hu
      have hge1 : L.length ≤ lc := by
        rcases HL.out.2 with ⟨e1, e2⟩ | ⟨g, cap, cur, e1, _, _, e4, _⟩
        · simp only [Value.slice.injEq] at e1; omega
        · simp only [Value.slice.injEq] at e1; omega
      have hge2 : la = none → L.length = 0 ∧ lc = 0 := fun e => by
        rcases HL.out.2 with ⟨e1, e2⟩ | ⟨g, cap, cur, e1, _, _, e4, _⟩
        · simp only [Value.slice.injEq] at e1; omega
        · simp only [Value.slice.injEq] at e1; rw [e] at e1; exact absurd e1.1 (by simp)
      cases la with
      | none =>
        obtain ⟨hL0, rfl⟩ := hge2 rfl
        have hLn : L = [] := List.eq_nil_of_length_eq_zero hL0
        subst hLn
        obtain rfl : k = 0 := by simpa using hkn
        clear hge2 hkn hL0 hge1
        have hown0 : wr.ownsRow w.heap.size 96 2 (.slice oa 0 oc) 0 [] := hown
        by_cases h0 : 0 ≤ f
        · obtain ⟨fn, rfl⟩ := Int.eq_ofNat_of_zero_le h0
          go_wp2_with (first | (at_builtin; refine wpList_append_own_at _ rfl (.tmp 48) (.tmp 52) 87 rfl w.heap.size 96 i0 (.agg #[.string ⟨#[]⟩, .int .i64 0]) 2 24 Try.underlying87 hi hz0 hz1 hz2 rfl (by decide) _ _ _ rfl (hown0.alloc _) ⟨wr.heap.size, 0, none⟩ 1 1 [.string s, .int .i64 fn] rfl rfl (cells_new wr [.string s, .int .i64 fn] 96) (one_pr (s, fn)) (by unfold maxLen; omega) (by omega) (by simp; omega) ?_; intro v4 w4 hown4 hgrow4 hnil4 hloc4; obtain ⟨xa, xc, rfl⟩ := owned_slice hown4; clear hnil4; have hz4 : w.heap.size ≤ w4.heap.size := (below_append HB.out hgrow4 (own_lo hown0)).size) | (at_builtin; refine wpList_append_none _ rfl (.tmp 54) (.tmp 57) 87 96 rfl i0 Try.underlying87 hi rfl hown4 rfl ?_))
          go_ret
          refine ⟨_, rfl, ?_, ?_⟩
          · rw [HP.out]
            have e : (([] : List Pr) ++ ins s (fn : Nat) : List Pr).length = ([] : List Pr).length + 1 := by simp [ins]
            rw [e, List.flatMap_append, show ins s (fn : Nat) = [(s, fn)] from by simp [ins]]
            simpa [prC] using hown4
          · exact below_append HB.out hgrow4 (own_lo hown0)
        · have h0' : f < 0 := by omega
          go_wp2_with (first | (at_builtin; refine wpList_append_none _ rfl (.tmp 54) (.tmp 57) 87 96 rfl i0 Try.underlying87 hi rfl hown0 rfl ?_))
          go_ret
          refine ⟨_, rfl, ?_, ?_⟩
          · rw [HP.out]
            have e : (([] : List Pr) ++ ins s f : List Pr).length = ([] : List Pr).length := by simp [ins, h0]
            rw [e, List.flatMap_append, show ins s f = [] from by simp [ins, h0']]
            simpa [prC] using hown0
          · exact HB.out
      | some q =>
        clear hge2
        have hLk : L.length ≤ k := by omega
        obtain rfl : k = L.length := hkn
        by_cases hcap2 : lc = L.length
        · obtain rfl : lc = L.length := hcap2
          by_cases h0 : 0 ≤ f
          · obtain ⟨fn, rfl⟩ := Int.eq_ofNat_of_zero_le h0
            go_wp2_with (first | (at_builtin; refine wpList_append_own_at _ rfl (.tmp 48) (.tmp 52) 87 rfl w.heap.size 96 i0 (.agg #[.string ⟨#[]⟩, .int .i64 0]) 2 24 Try.underlying87 hi hz0 hz1 hz2 rfl (by decide) _ _ _ rfl (hown.alloc _) ⟨wr.heap.size, 0, none⟩ 1 1 [.string s, .int .i64 fn] rfl rfl (cells_new wr [.string s, .int .i64 fn] 96) (one_pr (s, fn)) (by unfold maxLen; omega) (by omega) (by simp; omega) ?_; intro v4 w4 hown4 hgrow4 hnil4 hloc4; obtain ⟨xa, xc, rfl⟩ := owned_slice hown4; clear hnil4; have hz4 : w.heap.size ≤ w4.heap.size := (below_append HB.out hgrow4 (own_lo hown)).size) | (at_builtin; refine wpList_append_own_at _ rfl (.tmp 54) (.tmp 57) 87 rfl w.heap.size 96 i0 (.agg #[.string ⟨#[]⟩, .int .i64 0]) 2 24 Try.underlying87 hi hz0 hz1 hz2 rfl (by decide) _ _ _ rfl hown4 _ 0 _ [] rfl rfl (HN0.out _ _) HO0.out (by unfold maxLen; omega) (by omega) (by omega) ?_; intro v5 w5 hown5 hgrow5 hnil5 hloc5))
            go_ret
            refine ⟨v5, rfl, ?_, ?_⟩
            · rw [HP.out]
              have e : (L ++ ins s (fn : Nat) : List Pr).length = L.length + 1 + 0 := by simp [ins]
              rw [e, List.flatMap_append, show ins s (fn : Nat) = [(s, fn)] from by simp [ins]]
              have := HTK.out
              rw [HTK.out] at hown5
              simpa [prC] using hown5
            · exact below_grown HB.out hgrow4 hgrow5 (own_lo hown) (own_lo hown4)
          · have h0' : f < 0 := by omega
            go_wp2_with (first | (at_builtin; refine wpList_append_own_at _ rfl (.tmp 54) (.tmp 57) 87 rfl w.heap.size 96 i0 (.agg #[.string ⟨#[]⟩, .int .i64 0]) 2 24 Try.underlying87 hi hz0 hz1 hz2 rfl (by decide) _ _ _ rfl hown _ 0 _ [] rfl rfl (HN0.out _ _) HO0.out (by unfold maxLen; omega) (by omega) (by omega) ?_; intro v5 w5 hown5 hgrow5 hnil5 hloc5))
            go_ret
            refine ⟨v5, rfl, ?_, ?_⟩
            · rw [HP.out]
              have e : (L ++ ins s f : List Pr).length = L.length + 0 := by simp [ins, h0]
              rw [e, List.flatMap_append, show ins s f = [] from by simp [ins, h0']]
              have := HTK.out
              rw [HTK.out] at hown5
              simpa [prC] using hown5
            · exact below_grown1 HB.out hgrow5 (own_lo hown)
        · have hcap3 : ¬ lc = L.length := hcap2
          by_cases h0 : 0 ≤ f
          · obtain ⟨fn, rfl⟩ := Int.eq_ofNat_of_zero_le h0
            go_wp2_with (first | (at_builtin; refine wpList_append_own_at _ rfl (.tmp 48) (.tmp 52) 87 rfl w.heap.size 96 i0 (.agg #[.string ⟨#[]⟩, .int .i64 0]) 2 24 Try.underlying87 hi hz0 hz1 hz2 rfl (by decide) _ _ _ rfl (hown.alloc _) ⟨wr.heap.size, 0, none⟩ 1 1 [.string s, .int .i64 fn] rfl rfl (cells_new wr [.string s, .int .i64 fn] 96) (one_pr (s, fn)) (by unfold maxLen; omega) (by omega) (by simp; omega) ?_; intro v4 w4 hown4 hgrow4 hnil4 hloc4; obtain ⟨xa, xc, rfl⟩ := owned_slice hown4; clear hnil4; have hz4 : w.heap.size ≤ w4.heap.size := (below_append HB.out hgrow4 (own_lo hown)).size) | (at_builtin; refine wpList_append_own_at _ rfl (.tmp 54) (.tmp 57) 87 rfl w.heap.size 96 i0 (.agg #[.string ⟨#[]⟩, .int .i64 0]) 2 24 Try.underlying87 hi hz0 hz1 hz2 rfl (by decide) _ _ _ rfl hown4 _ 0 _ [] rfl rfl (HN0.out _ _) HO0.out (by unfold maxLen; omega) (by omega) (by omega) ?_; intro v5 w5 hown5 hgrow5 hnil5 hloc5))
            go_ret
            refine ⟨v5, rfl, ?_, ?_⟩
            · rw [HP.out]
              have e : (L ++ ins s (fn : Nat) : List Pr).length = L.length + 1 + 0 := by simp [ins]
              rw [e, List.flatMap_append, show ins s (fn : Nat) = [(s, fn)] from by simp [ins]]
              have := HTK.out
              rw [HTK.out] at hown5
              simpa [prC] using hown5
            · exact below_grown HB.out hgrow4 hgrow5 (own_lo hown) (own_lo hown4)
          · have h0' : f < 0 := by omega
            go_wp2_with (first | (at_builtin; refine wpList_append_own_at _ rfl (.tmp 54) (.tmp 57) 87 rfl w.heap.size 96 i0 (.agg #[.string ⟨#[]⟩, .int .i64 0]) 2 24 Try.underlying87 hi hz0 hz1 hz2 rfl (by decide) _ _ _ rfl hown _ 0 _ [] rfl rfl (HN0.out _ _) HO0.out (by unfold maxLen; omega) (by omega) (by omega) ?_; intro v5 w5 hown5 hgrow5 hnil5 hloc5))
            go_ret
            refine ⟨v5, rfl, ?_, ?_⟩
            · rw [HP.out]
              have e : (L ++ ins s f : List Pr).length = L.length + 0 := by simp [ins, h0]
              rw [e, List.flatMap_append, show ins s f = [] from by simp [ins, h0']]
              have := HTK.out
              rw [HTK.out] at hown5
              simpa [prC] using hown5
            · exact below_grown1 HB.out hgrow5 (own_lo hown)
end Go.Proofs.Ytijdgmbpkfmciaa.Fs

/- The document's file system: apply, change. -/
namespace Go.Proofs.Ytijdgmbpkfmciaa.Fs
open Go.RowKit Go.Maps Go.ChangeMaps Go.WideMaps Go.Joins Go.Sort

theorem owned_lower {w : World} {b b' : Nat} {e : TypeId} {s n : Nat} {v : Value} {xs : List Value} (h : w.ownsRow b e s v n xs) (hb : b' ≤ b) : w.ownsRow b' e s v n xs := by
  obtain ⟨h0, hrow⟩ := h
  refine ⟨h0, ?_⟩
  rcases hrow with hrow | ⟨g', cap, cur, r1, r2, r3⟩
  · exact .inl hrow
  · exact .inr ⟨g', cap, cur, r1, Nat.le_trans hb r2, r3⟩
theorem PutLeft.of {w w1 : World} {L : List Pr} {e : Ending} {w' : World} (hb : Below w.heap.size w w1) (h : PutLeft w1 L e w') : PutLeft w L e w' := by
  obtain ⟨v', rfl, h1, h2⟩ := h
  exact ⟨v', rfl, owned_lower h1 hb.size, hb.trans (h2.mono hb.size)⟩
set_option maxHeartbeats 2000000 in
set_option maxRecDepth 100000 in
theorem rapply_any (L : List Pr) (v : Value) (c : Wt) (w : World) (h : w.ownsRow 0 96 2 v L.length (L.flatMap prC)) (hl : L.length ≤ 999999) (hf : -9223372036854775808 ≤ c.2.2 ∧ c.2.2 < 9223372036854775808) :
    Calls Try.prog 61 #[v, .agg #[.string c.1, .string c.2.1, .int .i64 c.2.2]] w (PutLeft w (applyW L c)) := by
  obtain ⟨n, fr, F⟩ := c
  simp only at hf ⊢
  obtain ⟨la, lc, rfl⟩ := owned_slice h
  have hx : (w.alloc (.cells #[.string n, .string fr, .int .i64 F] 108)).ownsRow 0 96 2 (.slice la L.length lc) L.length (L.flatMap prC) := h.alloc _
  by_cases hfr : fr = noName
  · subst hfr
    have e : applyW L (n, noName, F) = lput L n F := by unfold applyW; simp
    have CP := Lib.hid (rput_any L _ n F _ hx (by omega) hf)
    have HE := Lib.hid e
    clear h hx e
    unfold noName
    go_enter Try.func61, Try.ntmps61
    go_wp2_with fail
    refine CP.out.mono ?_
    rintro e w' ⟨v', rfl, h1, h2⟩
    obtain ⟨xa, xc, rfl⟩ := owned_slice h1
    go_wp2_with fail
    go_ret
    rw [show applyW L (n, ⟨#[]⟩, F) = lput L n F from HE.out]
    exact PutLeft.of ((Below.refl w.heap.size w).alloc (Nat.le_refl _) (.cells #[.string n, .string ⟨#[]⟩, .int .i64 F] 108)) ⟨_, rfl, h1, h2⟩
  · have e : applyW L (n, fr, F) = lput (lput L fr (-1)) n F := by unfold applyW; simp [hfr]
    have CP := Lib.hid (rput_any L _ fr (-1) _ hx (by omega) (by omega))
    have HE := Lib.hid e
    have hfr1 : ¬ fr.toList = [] := fun e => hfr (toList_inj (by rw [e, Lib.toList_data]; rfl))
    have hfr2 : (fr.toList == []) = false := beq_eq_false_iff_ne.2 hfr1
    have hfr3 : fr.toList.isEmpty = false := by simpa using hfr1
    clear h hx e hfr
    go_enter Try.func61, Try.ntmps61
    go_wp2_with fail
    refine CP.out.mono ?_
    rintro e w1 ⟨v1, rfl, h1, h2⟩
    have c0 : w1.cell? ⟨w.heap.size, 0, none⟩ = some (.string n) := (h2.cell (p := ⟨w.heap.size, 0, none⟩) (by simp)).trans (by simp [go_sem])
    have c2 : w1.cell? ⟨w.heap.size, 2, none⟩ = some (.int .i64 F) := (h2.cell (p := ⟨w.heap.size, 2, none⟩) (by simp)).trans (by simp [go_sem])
    have CP2 := Lib.hid (rput_any (lput L fr (-1)) v1 n F w1 (owned_zero h1) (Nat.le_trans (lput_len L fr (-1)) (by omega)) hf)
    have H2 := Lib.hid h2
    clear CP h2
    obtain ⟨xa, xc, rfl⟩ := owned_slice h1
    clear h1
    go_wp2_with fail
    refine CP2.out.mono ?_
    rintro e w2 ⟨v2, rfl, h3, h4⟩
    obtain ⟨ya, yc, rfl⟩ := owned_slice h3
    go_wp2_with fail
    go_ret
    rw [HE.out]
    have h5 := ((Below.refl w.heap.size w).alloc (Nat.le_refl _) (.cells #[.string n, .string fr, .int .i64 F] 108))
    exact PutLeft.of (h5.trans (H2.out.mono h5.size)) ⟨_, rfl, h3, h4⟩

/-! ### change -/
theorem rchange_cells {w : World} {r : RG} {R : RS} (h : RRep w r R) : r.p < w.heap.size := (Array.getElem?_eq_some_iff.1 h.cells).1
theorem turn_grow {w wA w4 : World} {p i : Nat} {v v' : Value} (hb : Below w.heap.size w wA) (hg : wA.grownBy w4 v.ownBlock) : Turn w (w4.setCell ⟨p, i, none⟩ v') (p :: blkOf v) := by
  have mb : ∀ b, some b = v.ownBlock ↔ b ∈ blkOf v := fun b => by unfold blkOf; cases v.ownBlock <;> simp [eq_comm]
  have z1 := hb.size
  have z2 := hg.size
  have z3 := (turn_set w4 p i v').size
  refine ⟨?_, ?_, ?_, by omega, fun k hk hF => ?_⟩
  · rw [(turn_set w4 p i v').os, hg.os, hb.os]
  · rw [(turn_set w4 p i v').tape, hg.tape, hb.tape]
  · rw [(turn_set w4 p i v').output, hg.output, hb.output]
  · simp only [List.mem_cons, not_or] at hF
    rw [(turn_set w4 p i v').block k (by omega) (by simpa using hF.1), hg.block k (by omega) (fun e => hF.2 ((mb k).1 e)), hb.block k hk]
theorem set_owned {w4 : World} {p i : Nat} {u : Value} {e : TypeId} {s n : Nat} {v : Value} {xs : List Value} (h : w4.ownsRow 0 e s v n xs) (hp : p ∉ blkOf v) : (w4.setCell ⟨p, i, none⟩ u).ownsRow 0 e s v n xs :=
  owned_frame h fun b hb => (turn_set w4 p i u).block b (owned_lt h b hb) (by
    intro hm
    have : b = p := by simpa using hm
    exact hp (this ▸ hb))
theorem rparts {r : RG} {R : RS} {w : World} (h : RRep w r R) : r.p ∉ blkOf r.fv ∧ r.p ∉ blkOf r.wv ∧ r.p ∉ blkOf r.nv ∧ r.p ∉ blkOf r.lv := by
  have := h.a1
  simpa [rblk] using this
/-- The names turn to a new list. -/
theorem rrep_now {w w2 : World} {r : RG} {R : RS} (h : RRep w r R) (hb : Below w.heap.size w w2) {v : Value} {L : List Pr} (hv : w2.ownsRow w.heap.size 96 2 v L.length (L.flatMap prC)) :
    RRep (w2.setCell ⟨r.p, 2, none⟩ v) { r with nv := v } { R with now := L } ∧ Turn w (w2.setCell ⟨r.p, 2, none⟩ v) (rfoot r) ∧ ∀ b ∈ rfoot { r with nv := v }, b ∈ rfoot r ∨ w.heap.size ≤ b := by
  have hp := rchange_cells h
  obtain ⟨p1, p2, p3, p4⟩ := rparts h
  have hnew := owned_ge hv
  have hpv : r.p ∉ blkOf v := fun hm => by have := hnew _ hm; omega
  have hT : Turn w (w2.setCell ⟨r.p, 2, none⟩ v) [r.p] := (Turn.of_below hb [r.p]).trans (turn_set w2 r.p 2 v) (fun b hb => .inl hb)
  have nF : ∀ {u : Value}, r.p ∉ blkOf u → ∀ b ∈ blkOf u, b ∉ [r.p] := fun {u} hu b hb hm => by
    have : b = r.p := by simpa using hm
    exact hu (this ▸ hb)
  have lf := owned_lt h.fl
  have lw := owned_lt h.wt
  refine ⟨⟨?_, owned_frame h.fl fun b hb => hT.block b (lf b hb) (nF p1 b hb), set_owned (owned_zero hv) hpv, owned_frame h.ls fun b hb => hT.block b (owned_lt h.ls b hb) (nF p4 b hb), owned_frame h.wt fun b hb => hT.block b (lw b hb) (nF p2 b hb), ?_, ?_, ?_⟩, hT.mono (fun b hb => .inl (by
      have : b = r.p := by simpa using hb
      exact mem_rfoot.2 (.inl this))), fun b hb => ?_⟩
  · have hc := (hb.block r.p hp).trans h.cells
    rw [block_setCell hc]; rfl
  · show r.p ∉ blkOf r.fv ++ (blkOf r.wv ++ (blkOf v ++ blkOf r.lv))
    simp [p1, p2, p4, hpv]
  · exact fun b hb => ⟨(h.a2 b hb).1, fun hm => by have := hnew b hm; have := lf b hb; omega, (h.a2 b hb).2.2⟩
  · exact fun b hb => ⟨fun hm => by have := hnew b hm; have := lw b hb; omega, (h.a3 b hb).2⟩
  · rcases mem_rfoot.1 hb with e | e | e | e | e
    · exact .inl (mem_rfoot.2 (.inl e))
    · exact .inl (mem_rfoot.2 (.inr (.inl e)))
    · exact .inl (mem_rfoot.2 (.inr (.inr (.inl e))))
    · exact .inr (hnew b e)
    · exact .inl (mem_rfoot.2 (.inr (.inr (.inr (.inr e)))))
/-- The changes' row takes one more. -/
theorem rrep_wait {w wA w4 : World} {r : RG} {R : RS} (h : RRep w r R) (hb : Below w.heap.size w wA) {v' : Value} {c : Wt} (hrow : w4.ownsRow 0 108 3 v' (R.wait.length + 1) (R.wait.flatMap wtC ++ wtC c)) (hg : wA.grownBy w4 r.wv.ownBlock) (hloc : ∀ b ∈ blkOf v', b ∈ blkOf r.wv ∨ w.heap.size ≤ b) :
    RRep (w4.setCell ⟨r.p, 4, none⟩ v') { r with wv := v' } { R with wait := R.wait ++ [c] } ∧ Turn w (w4.setCell ⟨r.p, 4, none⟩ v') (rfoot r) ∧ ∀ b ∈ rfoot { r with wv := v' }, b ∈ rfoot r ∨ w.heap.size ≤ b := by
  have hp := rchange_cells h
  obtain ⟨p1, p2, p3, p4⟩ := rparts h
  have hpv : r.p ∉ blkOf v' := fun hm => (hloc _ hm).elim p2 (by omega)
  have hT := turn_grow (p := r.p) (i := 4) (v' := v') hb hg
  have lf := owned_lt h.fl
  have ln := owned_lt h.nw
  have ll := owned_lt h.ls
  have nF : ∀ {u : Value}, r.p ∉ blkOf u → (∀ b ∈ blkOf u, b ∉ blkOf r.wv) → ∀ b ∈ blkOf u, b ∉ r.p :: blkOf r.wv := fun {u} hu hw b hb hm => by
    rcases List.mem_cons.1 hm with e | e
    · exact hu (e ▸ hb)
    · exact hw b hb e
  have mb : ∀ b, some b = r.wv.ownBlock ↔ b ∈ blkOf r.wv := fun b => by unfold blkOf; cases r.wv.ownBlock <;> simp [eq_comm]
  refine ⟨⟨?_, owned_frame h.fl fun b hb => hT.block b (lf b hb) (nF p1 (fun b hb => (h.a2 b hb).1) b hb), owned_frame h.nw fun b hb => hT.block b (ln b hb) (nF p3 (fun b hb hm => (h.a3 b hm).1 hb) b hb), owned_frame h.ls fun b hb => hT.block b (ll b hb) (nF p4 (fun b hb hm => (h.a3 b hm).2 hb) b hb), ?_, ?_, ?_, ?_⟩, hT.mono (fun b hb => .inl ?_), fun b hb => ?_⟩
  · have hz := hb.size
    have hc := ((hg.block r.p (by omega) (fun e => p2 ((mb _).1 e))).trans (hb.block r.p hp)).trans h.cells
    rw [block_setCell hc]; rfl
  · have := set_owned (p := r.p) (i := 4) (u := v') hrow hpv
    simpa [wtC] using this
  · show r.p ∉ blkOf r.fv ++ (blkOf v' ++ (blkOf r.nv ++ blkOf r.lv))
    simp [p1, p3, p4, hpv]
  · refine fun b hb => ⟨fun hm => ?_, (h.a2 b hb).2.1, (h.a2 b hb).2.2⟩
    rcases hloc b hm with e | e
    · exact (h.a2 b hb).1 e
    · have := lf b hb; omega
  · refine fun b hb => ⟨fun hm => ?_, fun hm => ?_⟩
    · rcases hloc b hb with e | e
      · exact (h.a3 b e).1 hm
      · have := ln b hm; omega
    · rcases hloc b hb with e | e
      · exact (h.a3 b e).2 hm
      · have := ll b hm; omega
  · rcases List.mem_cons.1 hb with e | e
    · exact mem_rfoot.2 (.inl e)
    · exact mem_rfoot.2 (.inr (.inr (.inl e)))
  · rcases mem_rfoot.1 hb with e | e | e | e | e
    · exact .inl (mem_rfoot.2 (.inl e))
    · exact .inl (mem_rfoot.2 (.inr (.inl e)))
    · exact (hloc b e).imp (fun e => mem_rfoot.2 (.inr (.inr (.inl e)))) id
    · exact .inl (mem_rfoot.2 (.inr (.inr (.inr (.inl e)))))
    · exact .inl (mem_rfoot.2 (.inr (.inr (.inr (.inr e)))))
/-- The files' row takes one more. -/
theorem rrep_file {w wA w4 : World} {r : RG} {R : RS} (h : RRep w r R) (hb : Below w.heap.size w wA) {v' : Value} {c : Pr} (hrow : w4.ownsRow 0 105 2 v' (R.files.length + 1) (R.files.flatMap prC ++ prC c)) (hg : wA.grownBy w4 r.fv.ownBlock) (hloc : ∀ b ∈ blkOf v', b ∈ blkOf r.fv ∨ w.heap.size ≤ b) :
    RRep (w4.setCell ⟨r.p, 1, none⟩ v') { r with fv := v' } { R with files := R.files ++ [c] } ∧ Turn w (w4.setCell ⟨r.p, 1, none⟩ v') (rfoot r) ∧ ∀ b ∈ rfoot { r with fv := v' }, b ∈ rfoot r ∨ w.heap.size ≤ b := by
  have hp := rchange_cells h
  obtain ⟨p1, p2, p3, p4⟩ := rparts h
  have hpv : r.p ∉ blkOf v' := fun hm => (hloc _ hm).elim p1 (by omega)
  have hT := turn_grow (p := r.p) (i := 1) (v' := v') hb hg
  have lw := owned_lt h.wt
  have ln := owned_lt h.nw
  have ll := owned_lt h.ls
  have nF : ∀ {u : Value}, r.p ∉ blkOf u → (∀ b ∈ blkOf u, b ∉ blkOf r.fv) → ∀ b ∈ blkOf u, b ∉ r.p :: blkOf r.fv := fun {u} hu hw b hb hm => by
    rcases List.mem_cons.1 hm with e | e
    · exact hu (e ▸ hb)
    · exact hw b hb e
  have mb : ∀ b, some b = r.fv.ownBlock ↔ b ∈ blkOf r.fv := fun b => by unfold blkOf; cases r.fv.ownBlock <;> simp [eq_comm]
  refine ⟨⟨?_, ?_, owned_frame h.nw fun b hb => hT.block b (ln b hb) (nF p3 (fun b hb hm => (h.a2 b hm).2.1 hb) b hb), owned_frame h.ls fun b hb => hT.block b (ll b hb) (nF p4 (fun b hb hm => (h.a2 b hm).2.2 hb) b hb), owned_frame h.wt fun b hb => hT.block b (lw b hb) (nF p2 (fun b hb hm => (h.a2 b hm).1 hb) b hb), ?_, ?_, h.a3⟩, hT.mono (fun b hb => .inl ?_), fun b hb => ?_⟩
  · have hz := hb.size
    have hc := ((hg.block r.p (by omega) (fun e => p1 ((mb _).1 e))).trans (hb.block r.p hp)).trans h.cells
    rw [block_setCell hc]; rfl
  · have := set_owned (p := r.p) (i := 1) (u := v') hrow hpv
    simpa [prC] using this
  · show r.p ∉ blkOf v' ++ (blkOf r.wv ++ (blkOf r.nv ++ blkOf r.lv))
    simp [p2, p3, p4, hpv]
  · refine fun b hb => ⟨fun hm => ?_, fun hm => ?_, fun hm => ?_⟩
    · rcases hloc b hb with e | e
      · exact (h.a2 b e).1 hm
      · have := lw b hm; omega
    · rcases hloc b hb with e | e
      · exact (h.a2 b e).2.1 hm
      · have := ln b hm; omega
    · rcases hloc b hb with e | e
      · exact (h.a2 b e).2.2 hm
      · have := ll b hm; omega
  · rcases List.mem_cons.1 hb with e | e
    · exact mem_rfoot.2 (.inl e)
    · exact mem_rfoot.2 (.inr (.inl e))
  · rcases mem_rfoot.1 hb with e | e | e | e | e
    · exact .inl (mem_rfoot.2 (.inl e))
    · exact (hloc b e).imp (fun e => mem_rfoot.2 (.inr (.inl e))) id
    · exact .inl (mem_rfoot.2 (.inr (.inr (.inl e))))
    · exact .inl (mem_rfoot.2 (.inr (.inr (.inr (.inl e)))))
    · exact .inl (mem_rfoot.2 (.inr (.inr (.inr (.inr e)))))
set_option maxHeartbeats 8000000 in
set_option maxRecDepth 100000 in
theorem rchange_any (r : RG) (R : RS) (c : Wt) (w : World) (h : RRep w r R) (hl : R.now.length ≤ 999999) (hwl : R.wait.length ≤ 1000000) (hf : -9223372036854775808 ≤ c.2.2 ∧ c.2.2 < 9223372036854775808) :
    Calls Try.prog 60 #[.pointer (some ⟨r.p, 0, none⟩), .agg #[.string c.1, .string c.2.1, .int .i64 c.2.2]] w fun e w' => e = .returned (.tuple #[]) ∧ RLeft w w' r (rchange R c) := by
  obtain ⟨n, fr, F⟩ := c
  simp only at hf ⊢
  have hp := rchange_cells h
  obtain ⟨c0, c1, c2, c3, c4, c5, c6, hfz⟩ := r_cells (w := w.alloc (.cells #[.string n, .string fr, .int .i64 F] 108)) ((Below.heap_alloc w _ r.p hp).trans h.cells)
  obtain ⟨na, nc, hnv⟩ := owned_slice h.nw
  obtain ⟨wa, wc, hwv⟩ := owned_slice h.wt
  rw [hnv] at c2
  rw [hwv] at c4
  have HR := Lib.hid h
  have b0 : (w.alloc (.cells #[.string n, .string fr, .int .i64 F] 108)).cell? ⟨w.heap.size, 0, none⟩ = some (.string n) := by simp [go_sem]
  have b1 : (w.alloc (.cells #[.string n, .string fr, .int .i64 F] 108)).cell? ⟨w.heap.size, 1, none⟩ = some (.string fr) := by simp [go_sem]
  have b2 : (w.alloc (.cells #[.string n, .string fr, .int .i64 F] 108)).cell? ⟨w.heap.size, 2, none⟩ = some (.int .i64 F) := by simp [go_sem]
  have hn0 : (w.alloc (.cells #[.string n, .string fr, .int .i64 F] 108)).drew.ownsRow 0 96 2 (.slice na R.now.length nc) R.now.length (R.now.flatMap prC) := World.ownsRow.alloc (hnv ▸ HR.out.nw) _
  have CA := Lib.hid (fun W hW => rapply_any R.now (.slice na R.now.length nc) (n, fr, F) W hW hl hf)
  have HN0 := Lib.hid hn0
  clear h hn0
  go_enter Try.func60, Try.ntmps60
  go_wp2_with fail
  go_region_with ((go_at_call 61; refine (CA.out (w.alloc (.cells #[.string n, .string fr, .int .i64 F] 108)).drew HN0.out).mono ?_; rintro e w2 ⟨v', rfl, h1, h2⟩; obtain ⟨xa, xc, rfl⟩ := owned_slice h1; have k2 := (h2.cell (p := ⟨r.p, 2, none⟩) (by simp; omega)).trans c2; have z2 := (h2.frozen (p := ⟨r.p, 2, none⟩) (by simp; omega)).trans (hfz 2)))
  all_goals
    have h4 := rrep_now HR.out ((((Below.refl w.heap.size w).alloc (Nat.le_refl _) (.cells #[.string n, .string fr, .int .i64 F] 108)).drew).trans (h2.mono (by simp))) (owned_lower h1 (by simp))
    obtain ⟨h5, h6, h7⟩ := h4
    have hne : w.heap.size ≠ r.p := by omega
    have h2s := h2.size
    have hk : ∀ j u, (w.alloc (.cells #[.string n, .string fr, .int .i64 F] 108)).cell? ⟨w.heap.size, j, none⟩ = some u → (w2.setCell ⟨r.p, 2, none⟩ (.slice xa (applyW R.now (n, fr, F)).length xc)).cell? ⟨w.heap.size, j, none⟩ = some u := fun j u hu => by
      have e1 := (turn_set w2 r.p 2 (.slice xa (applyW R.now (n, fr, F)).length xc)).block w.heap.size (by simp at h2s; omega) (by simpa using hne)
      exact (World.cell?_of_block (a := ⟨w.heap.size, j, none⟩) e1).trans ((h2.cell (p := ⟨w.heap.size, j, none⟩) (by simp)).trans hu)
    have d0 := hk 0 _ b0
    have d1 := hk 1 _ b1
    have d2 := hk 2 _ b2
    obtain ⟨e0, e1, e2, e3, e4, e5, e6, ez⟩ := r_cells h5.cells
    simp only at e0 e1 e2 e3 e4 e5 e6 ez
    rw [hwv] at e4
    have e4 := e4
    have hrow : (w2.setCell ⟨r.p, 2, none⟩ (.slice xa (applyW R.now (n, fr, F)).length xc)).ownsRow 0 108 3 (.slice wa R.wait.length wc) R.wait.length (R.wait.flatMap wtC) := hwv ▸ h5.wt
    have hpw : ∀ b, some b = (Value.slice wa R.wait.length wc).ownBlock → b ≠ r.p := fun b hb e => by
      have := (rparts HR.out).2.1
      rw [hwv] at this
      apply this
      unfold blkOf
      rw [← hb, e]; simp
    have hpl := rchange_cells h5
    simp only at hpl
    have H5 := Lib.hid h5
    have H6 := Lib.hid h6
    have H7 := Lib.hid h7
    have hz6 := h6.size
    clear h1 h2 k2 z2 h5 h6 h7 hk e0 e1 e2 e3 e5 e6 c0 c1 c2 c3 c4 c5 c6 hfz b0 b1 b2 h2s HN0 CA
    generalize (w2.setCell ⟨r.p, 2, none⟩ (.slice xa (applyW R.now (n, fr, F)).length xc)) = w3 at *
    obtain ⟨i0, hi, hz0, hz1, hz2⟩ := info_parts info108
    have hA := Lib.hid (World.ownsRow.alloc hrow (.cells #[.string n, .string fr, .int .i64 F] 108))
    have hN : Hid (∀ j u, [Value.string n, .string fr, .int .i64 F][j]? = some u → (w3.alloc (.cells #[.string n, .string fr, .int .i64 F] 108)).cell? ((⟨w3.heap.size, 0, none⟩ : Addr).add j) = some u) := Lib.hid (cells_new w3 _ 108)
    clear hrow
    go_wp2_with fail
    go_region_law ((refine step_append_lies _ (by rfl) (.tmp 17) (.tmp 19) 88 (by rfl) 0 108 i0 (.agg #[.string ⟨#[]⟩, .string ⟨#[]⟩, .int .i64 0]) 3 40 Try.underlying88 hi hz0 hz1 hz2 (by rfl) (by decide) (.slice wa R.wait.length wc) R.wait.length (R.wait.flatMap wtC) (by rfl) hA.out ⟨w3.heap.size, 0, none⟩ 1 1 [.string n, .string fr, .int .i64 F] (by rfl) (by rfl) hN.out (by simp [Value.oneCell']) (by decide) (by unfold maxLen; omega) (by omega) (Nat.zero_le _) (w3.heap.size + 1) (by simp) ?_; intro g cap w4 hown hgrow hat hlt2; have k4 : w4.cell? ⟨r.p, 4, none⟩ = some (.slice wa R.wait.length wc) := (hgrow.cell_far ⟨r.p, 4, none⟩ (by simp; omega) (fun e => hpw r.p e rfl)).trans (Go.Lib.cell?_alloc_some _ e4); have z4 : w4.frozen? ⟨r.p, 4, none⟩ = false := (hgrow.frozen_far ⟨r.p, 4, none⟩ (by simp; omega) (fun e => hpw r.p e rfl)).trans ((World.frozen?_alloc_old w3 _ ⟨r.p, 4, none⟩ (Nat.ne_of_lt hpl)).trans (ez 4))))
    all_goals
      have hloc : ∀ b ∈ blkOf (.slice (some ⟨g, 0, none⟩) (R.wait.length + 1) cap), b ∈ blkOf r.wv ∨ w3.heap.size ≤ b := fun b hb => by
        have e : b = g := by simpa [blkOf, Value.ownBlock] using hb
        subst e
        rcases hat with e | e
        · refine .inl ?_
          rw [hwv]
          unfold blkOf
          rw [e]; simp
        · right; omega
      have h8 := rrep_wait (c := (n, fr, F)) H5.out ((((Below.refl w3.heap.size w3).alloc (Nat.le_refl _) (.cells #[.string n, .string fr, .int .i64 F] 108)).drew)) hown (by rw [hwv]; exact hgrow) hloc
      have H8 := Lib.hid h8
      clear h8 hloc hown hgrow hat
      go_wp2
      refine bodyPost_end (v := .tuple #[]) (by simp [results, Try.results60]) rfl ?_
      obtain ⟨h9, h10, h11⟩ := H8.out
      exact ⟨rfl, RLeft.of (r1 := { r with nv := .slice xa (applyW R.now (n, fr, F)).length xc }) rfl H6.out H7.out ⟨{ r with nv := .slice xa (applyW R.now (n, fr, F)).length xc, wv := .slice (some ⟨g, 0, none⟩) (R.wait.length + 1) cap }, rfl, h9, h10, h11⟩⟩
end Go.Proofs.Ytijdgmbpkfmciaa.Fs
