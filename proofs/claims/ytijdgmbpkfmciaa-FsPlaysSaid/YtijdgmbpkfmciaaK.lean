/- The file system: Read. -/
import Derived.Test.YtijdgmbpkfmciaaJ
import Derived.Lib.SliceRun
namespace Go.Proofs.Ytijdgmbpkfmciaa.Fs
open Go.RowKit Go.Maps Go.ChangeMaps Go.WideMaps Go.Joins Go.Sort

theorem info5 : (Try.prog.info? 5).map (fun i => (i.zero, i.size, i.bytes)) = some (some (.int .u8 0), 1, 1) := by kernel_rfl

theorem add_head (b j : Nat) : (⟨b, 0, none⟩ : Addr).add j = ⟨b, j, none⟩ := by
  unfold Addr.add
  by_cases h : j = 0
  · subst h; simp
  · simp [h]
theorem row_news {w w' : World} {b cap : Nat} {xs : List Value} (h : Row w 5 (.slice (some ⟨b, 0, none⟩) xs.length cap) xs) (hb : w'.heap[b]? = w.heap[b]?) : ∀ j u, xs[j]? = some u → w'.cell? ((⟨b, 0, none⟩ : Addr).add j) = some u := by
  intro j u hj
  rcases h with ⟨h, _⟩ | ⟨b', cap', cur, h1, h2, h3, h4, h5, h6, h7⟩
  · cases h
  · cases h1
    have e : w'.heap[b]? = some (.cells cur 5 (0, 0)) := hb.trans h2
    rw [← h7, List.getElem?_take] at hj
    split at hj
    · rw [add_head, World.cell?]
      simp only [e]
      simpa using hj
    · cases hj

set_option maxHeartbeats 1000000 in
set_option maxRecDepth 100000 in
theorem clone_any (v : Value) (xs : List Value) (w : World) (h : Row w 5 v xs) (h1 : ∀ u ∈ xs, u.oneCell' = true) (hn : xs.length ≤ 1000000000) (hlt : ∀ b ∈ blkOf v, b < w.heap.size) :
    Calls Try.prog 41 #[v] w fun e w' => ∃ v', e = .returned v' ∧ w'.ownsRow w.heap.size 5 1 v' xs.length xs ∧ Below w.heap.size w w' := by
  have hR := h
  rcases h with ⟨rfl, rfl⟩ | ⟨b, cap, cur, rfl, -⟩
  · clear hR
    have hq := fun w => Go.Lib.run_eql_slice_nil (P := Try.prog) w 27 5 none 0 0 0 0 Try.underlying27
    go_enter Try.func41, Try.ntmps41
    go_wp2
    go_ret
    exact ⟨_, rfl, World.ownsRow_nil _ _ _ _, Below.refl _ _⟩
  · obtain ⟨i0, hi, hz0, hz1, hz2⟩ := info_parts info5
    have hblt := hlt b (by simp [blkOf, Value.ownBlock])
    have hnew := row_news (w' := w.alloc (.cells #[] 5)) hR (Below.heap_alloc _ _ _ hblt)
    have HN := Lib.hid hnew
    have hown : (w.alloc (.cells #[] 5)).ownsRow w.heap.size 5 1 (.slice (some ⟨w.heap.size, 0, none⟩) 0 0) 0 [] :=
      ⟨rfl, .inr ⟨w.heap.size, 0, #[], rfl, Nat.le_refl _, (MapKept.heap_alloc w _).1, Nat.le_refl _, Nat.zero_le _, rfl, rfl⟩⟩
    have hq := fun w => Go.Lib.run_eql_slice_nil (P := Try.prog) w 27 5 (some ⟨b, 0, none⟩) xs.length cap 0 0 Try.underlying27
    clear hnew hR hlt
    go_enter Try.func41, Try.ntmps41
    go_wp2_with (first | (at_builtin; refine wpList_append_own_at _ rfl (.tmp 5) (.tmp 6) 27 rfl w.heap.size 5 i0 (.int .u8 0) 1 1 Try.underlying27 hi hz0 hz1 hz2 rfl (by decide) _ _ _ rfl hown ⟨b, 0, none⟩ xs.length cap xs rfl (by simp) HN.out h1 (by unfold maxLen; omega) (by omega) (by simp) ?_; intro v' w4 hown' hgrow hnil hloc))
    go_ret
    refine ⟨v', rfl, by simpa using hown', ?_⟩
    exact below_append (Below.refl _ _) hgrow (fun k hk => by
      change some k = (Value.slice (some ⟨w.heap.size, 0, none⟩) 0 0).ownBlock at hk
      have : k = w.heap.size := by simpa [Value.ownBlock] using hk
      omega)

theorem owned_len {w : World} {b e n l c : Nat} {a : Option Addr} {xs : List Value} (h : w.ownsRow b e 1 (.slice a l c) n xs) : n = l := by
  rcases h.2 with ⟨e, e2⟩ | ⟨_, _, _, e, _⟩
  · rw [e2]; cases e; rfl
  · cases e; rfl
theorem oneCell_bytes (l : List UInt8) : ∀ u ∈ l.map byteV, u.oneCell' = true := by
  intro u hu
  obtain ⟨x, _, rfl⟩ := List.mem_map.1 hu
  rfl

/-- What 'Read' tells. -/
def readL (s : St) (nm : ByteArray) : List UInt8 := if ofE s nm = 0 then (s.files (look s.names nm - 1)).1 else []

set_option maxHeartbeats 1000000 in
set_option maxRecDepth 100000 in
theorem read_any (g : Gh) (s : St) (nm : ByteArray) (w : World) (h : Rep w g s) (hI : Ids s g) (hs : nm.size ≤ maxLen) (hlen : ∀ f, (s.files f).1.length ≤ 1000000000) :
    Calls Try.prog 14 #[.pointer (some ⟨g.p, 0, none⟩), .string nm] w fun e w' => ∃ v, e = .returned (.tuple #[v, .int .i64 (ofE s nm)]) ∧ Row w' 5 v ((readL s nm).map byteV) ∧ (∀ b ∈ blkOf v, w.heap.size ≤ b) ∧ Below w.heap.size w w' := by
  have cO := of_any g s nm w h hs
  have hA := h.alloc (.cells #[.string nm] 9)
  have hB : Below w.heap.size w (w.alloc (.cells #[.string nm] 9)) := (Below.refl _ _).alloc (Nat.le_refl _) _
  unfold readL
  by_cases hE : ofE s nm = 0
  · rw [if_pos hE]
    obtain ⟨-, k1, k2⟩ := ofE_zero hE
    rw [hE, k2] at cO
    rcases IdsD.look hI nm with hI | ⟨f, hfi, hI⟩
    · exact absurd hI k1
    rw [hI, show ptrV (f + 1) = .pointer (some ⟨f, 0, none⟩) from rfl] at cO
    rw [hI, Nat.add_sub_cancel, hE]
    obtain ⟨hfc, hfr⟩ := hA.fl f hfi
    obtain ⟨f0, -, -⟩ := file_cells hfc
    have hlf := hlen f
    have cC := clone_any (g.bv f) _ _ hfr (oneCell_bytes _) (by rw [List.length_map]; exact hlf) (fun b hb => hA.lt b (mem_foot.2 (.inr (.inr (.inr (.inr (.inr ⟨f, hfi, hb⟩)))))))
    have CC := Lib.hid cC
    have hsl := row_slice hfr
    obtain ⟨va, vc, hv⟩ := hsl
    rw [hv] at f0 CC
    generalize (s.files f).1.map byteV = xs at CC f0
    clear cC h hA hI hfc hfr hv hE k1 k2
    go_enter Try.func14, Try.ntmps14
    go_wp2_with (first | (go_at_call 34; refine cO.mono ?_; rintro e w' ⟨rfl, rfl⟩) | (go_at_call 41; refine CC.out.mono ?_; rintro e w2 ⟨v', rfl, hown, hb⟩; obtain ⟨ua, ul, uc, rfl⟩ := slice_of_row (ownsRow_zero hown); obtain rfl := owned_len hown; obtain ⟨-, r1, r2, r3⟩ := row_of_owns hown; have CL := Lib.hid (clipB_any ua _ uc w2 r1)) | (go_at_call 38; refine CL.out.mono ?_; rintro e w' ⟨rfl, he⟩; obtain rfl := he.symm))
    go_ret2
    exact ⟨_, rfl, r2, fun b hb' => Nat.le_trans (by simp) (r3 b hb'), hB.trans (hb.mono (by simp))⟩
  · rw [if_neg hE]
    have hE1 : (ofE s nm == 0) = false := beq_eq_false_iff_ne.2 hE
    generalize ofE s nm = E at cO hE hE1 ⊢
    generalize ofF s nm = F at cO
    clear h hA
    go_enter Try.func14, Try.ntmps14
    go_wp2_with (first | (go_at_call 34; refine cO.mono ?_; rintro e w' ⟨rfl, rfl⟩))
    go_ret2
    exact ⟨_, rfl, .inl ⟨rfl, rfl⟩, fun b hb => by simp [blkOf, Value.ownBlock] at hb, hB⟩
end Go.Proofs.Ytijdgmbpkfmciaa.Fs
