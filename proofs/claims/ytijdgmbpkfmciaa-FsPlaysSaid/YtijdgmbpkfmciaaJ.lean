/- The file system: List. -/
import Derived.Test.YtijdgmbpkfmciaaI
namespace Go.Proofs.Ytijdgmbpkfmciaa.Fs
open Go.RowKit Go.Maps Go.ChangeMaps Go.WideMaps Go.Joins Go.Sort

/-- What 'List' tells. -/
def keepP (s : St) (p : ByteArray) (x : List UInt8) : Bool := !s.dead && Lib.hasPrefix x p.data.toList
def listed (s : St) (p : ByteArray) : List (List UInt8) := (keysOf s.names).filter (keepP s p)
theorem info9 : (Try.prog.info? 9).map (fun i => (i.zero, i.size, i.bytes)) = some (some (.string ⟨#[]⟩), 1, 16) := by kernel_rfl

theorem row_cells {w : World} {b : Nat} {v : Value} {L : List (List UInt8)} (h : w.ownsRow b 9 1 v L.length (L.map encStr)) :
    (v = .slice none 0 0 ∧ L = []) ∨ ∃ g c, v = .slice (some ⟨g, 0, none⟩) L.length c ∧ L.length ≤ c ∧ b ≤ g ∧ g < w.heap.size ∧ ∀ j (hj : j < L.length), w.cell? ⟨g, j, none⟩ = some (encStr (L[j]'hj)) := by
  obtain ⟨h0, h⟩ := h
  rcases h with ⟨h1, h2⟩ | ⟨g, cap, cur, h1, h2, h3, h4, h5, h6, h7⟩
  · exact .inl ⟨h1, List.eq_nil_of_length_eq_zero h2⟩
  · refine .inr ⟨g, cap, h1, h4, h2, (Array.getElem?_eq_some_iff.1 h3).1, fun j hj => ?_⟩
    have e : (L.map encStr)[j]? = some (encStr (L[j]'hj)) := by rw [List.getElem?_map, List.getElem?_eq_getElem hj]; rfl
    rw [← h7, List.getElem?_take] at e
    rw [World.cell?]
    simp only [h3]
    split at e
    · simpa using e
    · cases e
theorem oneCell_str (x : List UInt8) : ∀ u ∈ [encStr x], u.oneCell' = true := by
  intro u hu
  have : u = encStr x := by simpa using hu
  subst this
  rfl
theorem row_of_owns {w : World} {b : Nat} {e : TypeId} {a : Option Addr} {n c : Nat} {xs : List Value} (h : w.ownsRow b e 1 (.slice a n c) n xs) : xs.length = n ∧ n ≤ c ∧ Row w e (.slice a n n) xs ∧ ∀ k ∈ blkOf (.slice a n n), b ≤ k := by
  obtain ⟨h0, h⟩ := h
  have h0' : xs.length = n := by omega
  rcases h with ⟨h1, h2⟩ | ⟨g, cap, cur, h1, h2, h3, h4, h5, h6, h7⟩
  · cases h1
    refine ⟨h0', Nat.le_refl _, .inl ⟨rfl, List.eq_nil_of_length_eq_zero h0'⟩, fun k hk => by simp [blkOf, Value.ownBlock] at hk⟩
  · cases h1
    refine ⟨h0', h4, .inr ⟨g, n, cur, by rw [h0'], h3, by omega, by omega, by omega, .inr h0'.symm, by rw [h0']; simpa using h7⟩, fun k hk => ?_⟩
    have : k = g := by simpa [blkOf, Value.ownBlock] using hk
    omega

theorem own_ge {w : World} {b e n : Nat} {v : Value} {xs : List Value} (h : w.ownsRow b e 1 v n xs) : ∀ k, some k = v.ownBlock → b ≤ k := by
  intro k hk
  rcases h.2 with ⟨h1, _⟩ | ⟨g, cap, cur, h1, h2, _⟩
  · rw [h1] at hk; simp [Value.ownBlock] at hk
  · rw [h1] at hk
    have : k = g := by simpa [Value.ownBlock] using hk
    omega
theorem below_append {w1 wr w4 : World} {o : Obj} {r : Option Nat} (hb : Below w1.heap.size w1 wr) (hg : (wr.alloc o).grownBy w4 r) (hr : ∀ k, some k = r → w1.heap.size ≤ k) : Below w1.heap.size w1 w4 := by
  have hz := hb.size
  have hz2 := hg.size
  have hz3 : (wr.alloc o).heap.size = wr.heap.size + 1 := by simp
  refine ⟨hg.os.trans hb.os, hg.tape.trans hb.tape, hg.output.trans hb.output, by omega, fun k hk => ?_⟩
  rw [hg.block k (by omega) (fun e => by have := hr k e; omega), Below.heap_alloc _ _ _ (by omega), hb.block k hk]

set_option maxHeartbeats 2000000 in
set_option maxRecDepth 100000 in
theorem list_any (g : Gh) (s : St) (p : ByteArray) (w : World) (h : Rep w g s) (hsz : Maps.size s.names ≤ 1000000000) (hL : (keysOf s.names).length ≤ 1000000000) :
    Calls Try.prog 13 #[.pointer (some ⟨g.p, 0, none⟩), .string p] w fun e w' => ∃ v, e = .returned v ∧ Row w' 9 v ((listed s p).map encStr) ∧ (∀ b ∈ blkOf v, w.heap.size ≤ b) ∧ Below w.heap.size w w' := by
  obtain ⟨-, -, -, -, -, h5, -⟩ := fs_cells h.cells
  have hlt := h.lt g.p (mem_foot.2 (.inl rfl))
  have CS := Lib.hid (sorted_any g s w h hsz)
  clear h
  unfold listed
  generalize hd : keepP s p = P
  have HP := Lib.hid hd
  clear hd
  generalize keysOf s.names = L at CS hL ⊢
  obtain ⟨i0, hi, hz0, hz1, hz2⟩ := info_parts info9
  go_enter Try.func13, Try.ntmps13
  go_wp2_with (first | (go_at_call 37; refine CS.out.mono ?_; rintro e w1 ⟨v, rfl, hrow, hb⟩; have hrc := row_cells hrow; obtain ⟨va, vl, vc, rfl⟩ := slice_of_row (ownsRow_zero hrow); obtain rfl : vl = L.length := by (rcases hrc with ⟨e, e2⟩ | ⟨_, _, e, _⟩; (rw [e2]; cases e; rfl); (cases e; rfl))))
  have h51 : w1.cell? ⟨g.p, 5, none⟩ = some (.bool s.dead) := (hb.cell (p := ⟨g.p, 5, none⟩) hlt).trans h5
  have hz1' := hb.size
  have hlt1 : g.p < w1.heap.size := by omega
  clear CS h5
  have HRC := Lib.hid hrc
  clear hrc hrow
  go_loopw [5, 11] (fun a i wr => ∃ k : Nat, k ≤ L.length ∧ i = .int .i64 k ∧ wr.ownsRow w1.heap.size 9 1 a ((L.take k).filter P).length (((L.take k).filter P).map encStr) ∧ Below w1.heap.size w1 wr) (fun _ i _ => L.length - (RowKit.intOf i).toNat)
  case atStart => exact ⟨0, Nat.zero_le _, rfl, World.ownsRow_nil _ _ _ _, Below.refl _ _⟩
  case round =>
    obtain ⟨k, hk, rfl, hown, hbr⟩ := hrel
    by_cases hlt2 : k < L.length
    · have g1 : (k : Int) < (L.length : Int) := by omega
      rcases HRC.out with ⟨-, e⟩ | ⟨gb, c, e, hcc, hbb, hgs, hcs⟩
      · rw [e] at hlt2; exact absurd hlt2 (by simp)
      cases e
      have hcell : wr.cell? ⟨gb, k, none⟩ = some (encStr (L[k]'hlt2)) := (hbr.cell (p := ⟨gb, k, none⟩) hgs).trans (hcs k hlt2)
      have hdr : wr.cell? ⟨g.p, 5, none⟩ = some (.bool s.dead) := (hbr.cell (p := ⟨g.p, 5, none⟩) hlt1).trans h51
      have htake : (L.take (k + 1)).filter P = (L.take k).filter P ++ (if P (L[k]'hlt2) then [L[k]'hlt2] else []) := by
        rw [List.take_add_one, List.filter_append, List.getElem?_eq_getElem hlt2]
        congr 1
        simp only [Option.toList, List.filter_cons, List.filter_nil]
      clear hcs
      generalize L[k]'hlt2 = x at hcell htake
      have HT := Lib.hid htake
      clear htake
      have hlen : ((L.take k).filter P).length ≤ k := Nat.le_trans (List.length_filter_le ..) (by rw [List.length_take]; omega)
      have cP := Try.strings_HasPrefix ⟨x.toArray⟩ p
      rw [show (⟨x.toArray⟩ : ByteArray).data.toList = x from rfl] at cP
      rw [show encStr x = .string ⟨x.toArray⟩ from rfl] at hcell
      obtain ⟨D, hD⟩ : ∃ D, D = s.dead := ⟨_, rfl⟩
      rw [← hD] at hdr
      have hpx : P x = (!D && Lib.hasPrefix x p.data.toList) := by rw [← HP.out, hD]; rfl
      clear hD
      generalize Lib.hasPrefix x p.data.toList = hp at cP hpx
      have hzr := hbr.size
      cases D with
      | true =>
        have HX : Hid (P x = false) := Lib.hid (by rw [hpx]; rfl)
        clear hpx
        go_wp2_with fail
        go_roundw
        case rel => exact ⟨k + 1, by omega, by go_num, by rw [HT.out, HX.out]; simpa using hown, hbr⟩
        case measure => simp [RowKit.intOf]; omega
      | false =>
        cases hp with
        | false =>
          have HX : Hid (P x = false) := Lib.hid (by rw [hpx]; rfl)
          clear hpx
          go_wp2_with (first | (go_at_call 39; refine (cP _).mono ?_; rintro e w' ⟨rfl, he⟩; obtain rfl := he.symm))
          go_roundw
          case rel => exact ⟨k + 1, by omega, by go_num, by rw [HT.out, HX.out]; simpa using hown, hbr⟩
          case measure => simp [RowKit.intOf]; omega
        | true =>
          have HX : Hid (P x = true) := Lib.hid (by rw [hpx]; rfl)
          clear hpx
          go_wp2_with (first | (go_at_call 39; refine (cP _).mono ?_; rintro e w' ⟨rfl, he⟩; obtain rfl := he.symm) | (at_builtin; refine wpList_append_own_at _ rfl (.tmp 25) (.tmp 27) 31 rfl w1.heap.size 9 i0 (.string ⟨#[]⟩) 1 16 Try.underlying31 hi hz0 hz1 hz2 rfl (by decide) _ _ _ rfl (hown.alloc _) ⟨wr.heap.size, 0, none⟩ 1 1 [encStr x] rfl rfl (cell_one_new _ _ _) (oneCell_str x) (by unfold maxLen; omega) (by omega) (by simp; omega) ?_; intro v' w4 hown' hgrow hnil hloc))
          go_roundw
          case rel => exact ⟨k + 1, by omega, by go_num, by rw [HT.out, HX.out, if_pos rfl, List.length_append, List.map_append]; exact hown', below_append hbr hgrow (own_ge hown)⟩
          case measure => simp [RowKit.intOf]; omega
    · have g1 : ¬ (k : Int) < (L.length : Int) := by omega
      rw [List.take_of_length_le (by omega)] at hown
      obtain ⟨ua, ul, uc, rfl⟩ := slice_of_row (ownsRow_zero hown)
      obtain rfl : ul = (L.filter P).length := by
        rcases hown.2 with ⟨e, e2⟩ | ⟨_, _, _, e, _⟩
        · rw [e2]; cases e; rfl
        · cases e; rfl
      obtain ⟨-, r1, r2, r3⟩ := row_of_owns hown
      have CC := Lib.hid (clipS_any ua (L.filter P).length uc wr r1)
      go_wp2_with (first | (go_at_call 40; refine CC.out.mono ?_; rintro e w' ⟨rfl, he⟩; obtain rfl := he.symm))
      go_ret
      have hzr := hbr.size
      exact ⟨_, rfl, r2, fun b hb' => Nat.le_trans hz1' (r3 b hb'), hb.trans (hbr.mono hz1')⟩
end Go.Proofs.Ytijdgmbpkfmciaa.Fs
