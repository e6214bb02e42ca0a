/- The file system: Append. -/
import Derived.Test.YtijdgmbpkfmciaaO
namespace Go.Proofs.Ytijdgmbpkfmciaa.Fs
open Go.RowKit Go.Maps Go.ChangeMaps Go.WideMaps Go.Joins Go.Sort

def fitsQ (s : St) (n : Nat) : Prop := (n : Int) ≤ s.quota - (used s : Nat)
instance (s : St) (n : Nat) : Decidable (fitsQ s n) := by unfold fitsQ; exact inferInstance
def appendE (s : St) (nm : ByteArray) (n : Nat) : Int := if ofE s nm = 0 then (if fitsQ s n then burnV s.fuse else 60) else ofE s nm
def appendS (s : St) (nm : ByteArray) (bs : List UInt8) : St :=
  if ofE s nm = 0 then (if fitsQ s bs.length then (if s.fuse = 0 then burned s else setFile (burned s) (look s.names nm - 1) ((s.files (look s.names nm - 1)).1 ++ bs, (s.files (look s.names nm - 1)).2)) else s) else s

set_option maxHeartbeats 2000000 in
set_option maxRecDepth 100000 in
theorem append_any (g : Gh) (s : St) (nm : ByteArray) (v : Value) (bs : List UInt8) (w : World) (h : Rep w g s) (hI : Ids s g) (hf : -1 ≤ s.fuse) (hf2 : s.fuse < 9223372036854775808) (hs : nm.size ≤ maxLen)
    (hq0 : 0 ≤ s.quota) (hq1 : s.quota ≤ 16777216) (hu : used s ≤ 4611686018427387904) (hlen : ∀ f, (s.files f).1.length ≤ 1000000000) (hbs : bs.length ≤ 9223372036854775807)
    (hv : News w v (bs.map byteV)) (hvl : bs ≠ [] → ∀ b ∈ blkOf v, b < w.heap.size ∧ b ∉ foot g) :
    Calls Try.prog 11 #[.pointer (some ⟨g.p, 0, none⟩), .string nm, v] w fun e w' => e = .returned (.int .i64 (appendE s nm bs.length)) ∧ Left w w' g g.ids (appendS s nm bs) := by
  have cO := of_any g s nm w h hs
  have hA := h.alloc (.cells #[.string nm] 9)
  have HL := Lib.hid (fun ids s' w1 w' g1 (hp : g1.p = g.p) (ht : Turn w w1 (foot g)) hb => Left.of (w := w) (w1 := w1) (w' := w') (g := g) (ids := ids) (s' := s') (g1 := g1) hp ht hb)
  have HS := Lib.hid ((hA.left (Turn.alloc w _ _)))
  have HA := Lib.hid hA
  obtain ⟨va0, vc0, hv0⟩ := hv.slice
  rw [List.length_map] at hv0
  have hvA : News (w.alloc (.cells #[.string nm] 9)) v (bs.map byteV) := hv.frame fun hx b hb => Below.heap_alloc _ _ _ (hvl (fun e => hx (by rw [e]; rfl)) b hb).1
  unfold appendE appendS
  by_cases hE : ofE s nm = 0
  · rw [if_pos hE, if_pos hE]
    obtain ⟨-, k1, k2⟩ := ofE_zero hE
    rw [hE, k2] at cO
    rcases IdsD.look hI nm with hI' | ⟨f, hfi, hI'⟩
    · exact absurd hI' k1
    rw [hI', show ptrV (f + 1) = .pointer (some ⟨f, 0, none⟩) from rfl] at cO
    rw [hI', Nat.add_sub_cancel]
    -- what Used tells in whatever world behind
    have cU : ∀ w', Below (w.alloc (.cells #[.string nm] 9)).heap.size (w.alloc (.cells #[.string nm] 9)) w' → Calls Try.prog 16 #[.pointer (some ⟨g.p, 0, none⟩)] w' fun e w'' => e = .returned (.int .i64 (used s : Nat)) ∧ Below (w.alloc (.cells #[.string nm] 9)).heap.size (w.alloc (.cells #[.string nm] 9)) w'' := by
      intro w' hb
      have hR' : Rep w' g s := hA.frame (fun b hm => hb.block b (hA.lt b hm)) hb.size
      exact (used_any g s w' hR' hI hu).mono fun _ _ hh => ⟨hh.1, hb.trans (hh.2.mono hb.size)⟩
    obtain ⟨q0, -, -, -, -, -, -⟩ := fs_cells hA.cells
    have hvl' : bs ≠ [] → ∀ b ∈ blkOf (.slice va0 bs.length vc0), b < (w.alloc (.cells #[.string nm] 9)).heap.size ∧ b ∉ foot g := fun hx b hb => by
      have := hvl hx b (hv0 ▸ hb)
      exact ⟨by simp; omega, this.2⟩
    have hlp := hA.lt g.p (mem_foot.2 (.inl rfl))
    have HT := Lib.hid (Turn.alloc w (.cells #[.string nm] 9) (foot g))
    have HV := Lib.hid hvA
    rw [hv0]
    generalize hw1 : w.alloc (.cells #[.string nm] 9) = w1 at *
    have hbd : Below w1.heap.size w1 w1.drew := (Below.refl _ _).drew
    by_cases hq : fitsQ s bs.length
    · rw [if_pos hq, if_pos hq]
      have hq2 : decide (s.quota - (used s : Nat) < (bs.length : Int)) = false := decide_eq_false (by unfold fitsQ at hq; omega)
      have hw2 : IntKind.i64.wrap (s.quota - (used s : Nat)) = s.quota - (used s : Nat) := IntWalk.i64_in _ (by omega)
      have hlf := hlen f
      have hbs' : bs.length ≤ 16777216 := by unfold fitsQ at hq; omega
      have hfi' := hfi
      clear h hA hI hv hvA hw1 hE k1 k2 hI'
      by_cases hz : s.fuse = 0
      · rw [if_pos hz]
        have hbz : burnV s.fuse = 50 := by simp [burnV, hz]
        rw [hbz]
        go_enter Try.func11, Try.ntmps11
        go_wp2_with (first | (go_at_call 34; refine cO.mono ?_; rintro e w' ⟨rfl, he⟩; obtain rfl := he.symm))
        go_region_held3 (fun w' => w'.cell? ⟨g.p, 0, none⟩ = some (.int .i64 s.quota) ∧ Below w1.heap.size w1 w') (first | exact ⟨q0, hbd⟩ | exact ⟨(hbu.cell (p := ⟨g.p, 0, none⟩) hlp).trans q0, hbu⟩) (first | (go_at_call 16; refine (cU _ (by first | assumption | (rename_i hh; exact hh.2))).mono ?_; rintro e wu ⟨rfl, hbu⟩))
        have hRu : Rep wu g s := HA.out.frame (fun b hm => hbu.block b (HA.out.lt b hm)) hbu.size
        have cB := burn_any g.p _ _ _ _ s.fuse s.dead wu hRu.cells hf hf2
        rw [hbz] at cB
        have HRu := Lib.hid hRu
        have CB := Lib.hid cB
        clear hRu cB hbz
        go_wp2_with (first | (go_at_call 35; refine CB.out.mono ?_; rintro e w2 ⟨rfl, ht, hc⟩))
        go_ret
        refine ⟨rfl, HL.out _ _ w1 _ g rfl HT.out (fun b hb => .inl hb) (Left.of (g1 := g) (w1 := wu) rfl (Turn.of_below hbu _) (fun b hb => .inl hb) (left_burn HRu.out ht hc))⟩
      · rw [if_neg hz]
        have hbz : burnV s.fuse = 0 := by simp [burnV, hz]
        rw [hbz]
        go_enter Try.func11, Try.ntmps11
        go_wp2_with (first | (go_at_call 34; refine cO.mono ?_; rintro e w' ⟨rfl, he⟩; obtain rfl := he.symm))
        go_region_held3 (fun w' => w'.cell? ⟨g.p, 0, none⟩ = some (.int .i64 s.quota) ∧ Below w1.heap.size w1 w') (first | exact ⟨q0, hbd⟩ | exact ⟨(hbu.cell (p := ⟨g.p, 0, none⟩) hlp).trans q0, hbu⟩) (first | (go_at_call 16; refine (cU _ (by first | assumption | (rename_i hh; exact hh.2))).mono ?_; rintro e wu ⟨rfl, hbu⟩))
        have hRu : Rep wu g s := HA.out.frame (fun b hm => hbu.block b (HA.out.lt b hm)) hbu.size
        have cB := burn_any g.p _ _ _ _ s.fuse s.dead wu hRu.cells hf hf2
        rw [hbz] at cB
        have HRu := Lib.hid hRu
        have CB := Lib.hid cB
        clear hRu cB hbz
        go_wp2_with fail
        refine CB.out.mono ?_
        rintro e w2 ⟨rfl, ht, hc⟩
        have hb2 := rep_burn HRu.out ht hc
        obtain ⟨hfc, hfr⟩ := hb2.fl f hfi
        obtain ⟨f0, f1, ff⟩ := file_cells hfc
        have HB2 := Lib.hid hb2
        have HFC := Lib.hid hfc
        have hV1 : News w1 (.slice va0 bs.length vc0) (bs.map byteV) := hv0 ▸ HV.out
        have hrv : News w2 (.slice va0 bs.length vc0) (bs.map byteV) := hV1.frame (fun hx b hb => have hx' := (fun e => hx (by rw [e]; rfl)); (ht.block b (Nat.lt_of_lt_of_le (hvl' hx' b hb).1 hbu.size) (fun hm => (hvl' hx' b hb).2 (mem_foot.2 (.inl (by simpa using hm))))).trans (hbu.block b (hvl' hx' b hb).1))
        clear hb2 hfc hc hV1
        obtain ⟨va, vc, hvs⟩ := row_slice hfr
        rw [List.length_map, show (burned s).files f = s.files f from rfl] at hvs
        rw [hvs] at f0
        have HVS := Lib.hid hvs
        rw [hvs] at hfr
        clear hvs
        have hflt2 : f < w2.heap.size := HB2.out.lt f (mem_foot.2 (.inr (.inr (.inr (.inr (.inl hfi))))))
        have hfo : ∀ b, some b = (Value.slice va (s.files f).1.length vc).ownBlock → b ∈ blkOf (g.bv f) := fun b hb => by
          unfold blkOf
          rw [HVS.out, ← hb]
          simp
        have hfo2 : ∀ b, some b = (Value.slice va (s.files f).1.length vc).ownBlock → b ≠ f := fun b hb e => (((apart_iff g).1 HA.out.apart).2.2.2.1 f hfi b (hfo b hb)).2 (by rw [e]; exact hfi)
        go_wp2_with (first
          | (at_builtin; refine wpList_append_row _ rfl (.tmp 38) (.tmp 39) rfl _ _ rfl hfr _ (bs.map byteV) rfl hrv (oneCell_bytes _) (by simp only [List.length_map]; show (s.files f).1.length + _ ≤ _; omega) ?_; intro v' w3 hr' hg' hloc'; obtain ⟨va', vc', rfl⟩ := row_slice hr'; have k3 : w3.heap[f]? = w2.heap[f]? := hg'.block f hflt2 (fun e => hfo2 f e rfl); have c3 := (World.cell?_of_block (a := ⟨f, 0, none⟩) k3).trans f0; have z3 := fun o => (World.frozen?_of_block (a := ⟨f, o, none⟩) k3).trans (ff o); have K3 := Lib.hid k3; clear k3))
        go_ret
        refine ⟨rfl, HL.out _ _ w1 _ g rfl HT.out (fun b hb => .inl hb) (Left.of (g1 := g) (w1 := wu) rfl (Turn.of_below hbu _) (fun b hb => .inl hb) (Left.of (g1 := g) (w1 := w2) rfl (ht.mono fun b hb => .inl (one_foot b hb)) (fun b hb => .inl hb) ?_))⟩
        have el : (List.map byteV ((burned s).files f).1 ++ List.map byteV bs).length = ((burned s).files f).1.length + bs.length := by simp
        rw [el] at hr' hloc'
        generalize (Value.slice va' (((burned s).files f).1.length + bs.length) vc') = V at hr' hloc' ⊢
        have hVb : ∀ b ∈ blkOf V, b ∈ blkOf (g.bv f) ∨ b = w2.heap.size := fun b hb => by
          have hb' : some b = V.ownBlock := by unfold blkOf at hb; cases hV : V.ownBlock with
            | none => rw [hV] at hb; simp at hb
            | some k => rw [hV] at hb; simp at hb; rw [hb]
          rcases hloc' with e | e
          · exact .inl (hfo b (hb'.trans e))
          · exact .inr (by rw [e] at hb'; simpa using hb')
        have hVf : ∀ b ∈ blkOf V, b ≠ f := fun b hb e => by
          rcases hVb b hb with h1 | h1
          · exact (((apart_iff g).1 HA.out.apart).2.2.2.1 f hfi b h1).2 (by rw [e]; exact hfi)
          · omega
        have hT2 : Turn w2 (w3.setCell ⟨f, 0, none⟩ V) (f :: blkOf (g.bv f)) := by
          have hin : ∀ b ∈ [f], b ∈ f :: blkOf (g.bv f) := fun b hb => List.mem_cons.2 (.inl (by simpa using hb))
          have hg2 : w2.grownBy w3 (Value.slice va (s.files f).1.length vc).ownBlock := hg'
          refine ((Turn.of_grown hg2).mono (F' := f :: blkOf (g.bv f)) fun b hb => .inl ?_).trans (turn_set w3 f 0 V) (fun b hb => .inl (hin b hb))
          exact List.mem_cons_of_mem _ (hfo b (Option.mem_def.1 (Option.mem_toList.1 hb)).symm)
        have hfin := Rep.newfile (v := V) (x := ((s.files f).1 ++ bs, (s.files f).2)) HB2.out hfi hT2 (fun b hb => (List.mem_cons.1 hb).imp id .inl) (by rw [block_setCell (K3.out.trans HFC.out)]; rfl)
          (by
            rw [List.map_append]
            exact hr'.frame fun b hb => set_other w3 0 V (hVf b hb)) (fun b hb => (hVb b hb).imp id fun e => by omega)
        exact ⟨setGh g f V, rfl, rfl, hfin.1, hT2.mono fun b hb => .inl (by
          rcases List.mem_cons.1 hb with e | e
          · exact mem_foot.2 (.inr (.inr (.inr (.inr (.inl (by rw [e]; exact hfi))))))
          · exact mem_foot.2 (.inr (.inr (.inr (.inr (.inr ⟨f, hfi, e⟩)))))), hfin.2⟩
    · rw [if_neg hq, if_neg hq]
      have hq2 : s.quota - (used s : Nat) < (bs.length : Int) := by unfold fitsQ at hq; omega
      have hw2 : IntKind.i64.wrap (s.quota - (used s : Nat)) = s.quota - (used s : Nat) := IntWalk.i64_in _ (by omega)
      clear h hA hI hv hvA hw1 hE k1 k2 hI'
      go_enter Try.func11, Try.ntmps11
      go_wp2_with (first | (go_at_call 34; refine cO.mono ?_; rintro e w' ⟨rfl, he⟩; obtain rfl := he.symm))
      go_region_held3 (fun w' => w'.cell? ⟨g.p, 0, none⟩ = some (.int .i64 s.quota) ∧ Below w1.heap.size w1 w') (first | exact ⟨q0, hbd⟩ | exact ⟨(hbu.cell (p := ⟨g.p, 0, none⟩) hlp).trans q0, hbu⟩) (first | (go_at_call 16; refine (cU _ (by first | assumption | (rename_i hh; exact hh.2))).mono ?_; rintro e wu ⟨rfl, hbu⟩))
      go_wp2
      go_ret
      exact ⟨rfl, HL.out _ _ w1 _ g rfl HT.out (fun b hb => .inl hb) ((HA.out.frame (fun b hm => hbu.block b (HA.out.lt b hm)) hbu.size).left (Turn.of_below hbu _))⟩
  · rw [if_neg hE, if_neg hE]
    have hE1 : (ofE s nm == 0) = false := beq_eq_false_iff_ne.2 hE
    generalize ofE s nm = E at cO hE hE1 ⊢
    generalize ofF s nm = F at cO
    clear h hA hI hv hvA
    go_enter Try.func11, Try.ntmps11
    go_wp2_with (first | (go_at_call 34; refine cO.mono ?_; rintro e w' ⟨rfl, rfl⟩))
    go_ret
    exact ⟨rfl, HS.out⟩
end Go.Proofs.Ytijdgmbpkfmciaa.Fs
