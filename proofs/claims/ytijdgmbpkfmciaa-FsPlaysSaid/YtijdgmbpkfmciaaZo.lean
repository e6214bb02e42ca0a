/- The file system: Copy walked (its loops are open). -/
import Derived.Test.YtijdgmbpkfmciaaZp
namespace Go.Proofs.Ytijdgmbpkfmciaa.Fs
open Go.RowKit Go.Maps Go.ChangeMaps Go.WideMaps Go.Joins Go.Sort

theorem Cp.more {w0 w w' : World} {g : Gh} {s : St} {g' : Gh} {s' : St} {tb t : Nat} {T : List (Nat × Nat)} (h : Cp w0 w g s g' s' tb t T) (hb : Below w.heap.size w w') : Cp w0 w' g s g' s' tb t T :=
  h.head (Turn.of_below hb []) (fun b hb' => by cases hb') (h.rep'.frame (fun b hb' => hb.block b (h.rep'.lt b hb')) hb.size) (fun b hb' => .inl hb') rfl rfl

theorem below_of_none {w w' : World} (h : w.grownBy w' none) : Below w.heap.size w w' := ⟨h.os, h.tape, h.output, h.size, fun k hk => h.block k hk (by simp)⟩
theorem ranges_turn {w w' : World} {b r n : Nat} {D : Dm} {left : Lit → Bool} {cnt : Nat} {F : List Nat} (h : w.ranges Try.prog 9 ptrR b r n D left cnt) (ht : Turn w w' F) (h1 : b ∉ F) (h2 : r ∉ F) : w'.ranges Try.prog 9 ptrR b r n D left cnt := by
  have l1 := h.owns.lt
  have l2 := h.lt
  obtain ⟨es, clock, since, seen, c0, hb, Fi, hs, hD, hr, rest⟩ := h
  exact ⟨es, clock, since, seen, c0, (ht.block b l1 h1).trans hb, Fi, hs, hD, (ht.block r l2 h2).trans hr, rest⟩
def cpGh (w : World) (ids : List Nat) (bv : Nat → Value) : Gh := { cpG w with ids := ids, bv := bv }
def cpSt (s : St) (nm ls : Dm) (fl : Nat → List UInt8 × Nat) : St := { cpS s with names := nm, lasting := ls, files := fl }
theorem cpGh_of {w : World} {ids : List Nat} {bv : Nat → Value} {g2 : Gh} (h1 : g2.p = (cpGh w ids bv).p) (h2 : g2.m = (cpGh w ids bv).m) (h3 : g2.l = (cpGh w ids bv).l) (h4 : g2.cv = (cpGh w ids bv).cv) : g2 = cpGh w g2.ids g2.bv := by
  cases g2
  simp only [cpGh, cpG] at *
  subst h1 h2 h3 h4
  rfl

theorem as68 (v : Value) (w : World) : (Instr.typeAssert (.iface 68 v) 73 68 true).run Try.prog w = .ok (.tuple #[v, .bool true]) w := by kernel_rfl
theorem as80 (v : Value) (w : World) : (Instr.typeAssert (.iface 80 v) 73 68 true).run Try.prog w = .ok (.tuple #[.agg #[.string ⟨#[]⟩, .pointer none], .bool false]) w := by kernel_rfl
theorem as82 (v : Value) (w : World) : (Instr.typeAssert (.iface 82 v) 73 68 true).run Try.prog w = .ok (.tuple #[.agg #[.string ⟨#[]⟩, .pointer none], .bool false]) w := by kernel_rfl
attribute [local go_sem] as68 as80 as82
def cpGv (w : World) (v : Value) (ids : List Nat) (bv : Nat → Value) : Gh := { cpG w with cv := v, ids := ids, bv := bv }
theorem cpGv_of {w : World} {v : Value} {ids : List Nat} {bv : Nat → Value} {g2 : Gh} (h1 : g2.p = (cpGv w v ids bv).p) (h2 : g2.m = (cpGv w v ids bv).m) (h3 : g2.l = (cpGv w v ids bv).l) (h4 : g2.cv = (cpGv w v ids bv).cv) : g2 = cpGv w v g2.ids g2.bv := by
  cases g2
  simp only [cpGv, cpG] at *
  subst h1 h2 h3 h4
  rfl
def cpSc (s : St) (nm ls : Dm) (cs : List Chg) (fl : Nat → List UInt8 × Nat) : St := { cpS s with names := nm, lasting := ls, changes := cs, files := fl }
set_option maxHeartbeats 4000000 in
set_option maxRecDepth 100000 in
theorem copy_any (g : Gh) (s : St) (w : World) (h : Rep w g s) (n : Nat) (hI : Inv s g.ids n) (hn : n ≤ 1000000) :
    Calls Try.prog 25 #[.pointer (some ⟨g.p, 0, none⟩)] w (Copied w g s) := by
  obtain ⟨k0, k1, k2, k3, k4, k5, kz⟩ := fs_cells h.cells
  have hmm := @run_makeMap Try.prog
  have HR := Lib.hid h
  have HI := Lib.hid hI
  obtain ⟨ca, cl, hcv⟩ : ∃ a c, g.cv = .slice a s.changes.length c := by
    obtain ⟨a, l, c, e⟩ := slice_of_owns h.ch
    have := h.ch
    rw [e] at this ⊢
    obtain rfl := owned_len this
    exact ⟨a, c, rfl⟩
  rw [hcv] at k3
  have HCP := Lib.hid (cp_start h)
  have hgl := h.lt g.p (mem_foot.2 (.inl rfl))
  have q1 : (cp5 w s).cell? ⟨g.p, 1, none⟩ = some (.map (some g.m)) := (HCP.out.old.cell (p := ⟨g.p, 1, none⟩) hgl).trans k1
  have hnm : (cp5 w s).ownsMap Try.prog 9 ptrR g.m (Maps.size s.names) s.names := owns_frame h.nm (HCP.out.old.block g.m (h.lt g.m (mem_foot.2 (.inr (.inl rfl)))))
  have hsz := cp5_size w s
  unfold cp5 at q1 hnm hsz
  have HSZ := Lib.hid hsz
  clear h hI hsz
  go_enter Try.func25, Try.ntmps25
  go_wp2_with (first | (at_range; refine wpList_range_own _ rfl _ 58 rfl 9 63 law Try.underlying58 ptrR g.m _ s.names rfl hnm ?_; intro wr0 hrg0 hg0 hs0))
  go_frame
  rw [HSZ.out] at hrg0 ⊢
  have hCP0 := HCP.out.more (below_of_none hg0)
  have HC0 := Lib.hid hCP0
  have HRG0 := Lib.hid hrg0
  clear hmm hrg0 hg0 hs0 hCP0 q1 hnm
  go_loopw [] (fun wr => ∃ (left : Lit → Bool) (cnt : Nat) (ids : List Nat) (bv : Nat → Value) (nm : Dm) (fl : Nat → List UInt8 × Nat) (T : List (Nat × Nat)),
    Hid (wr.ranges Try.prog 9 ptrR g.m (w.heap.size + 1 + 1 + 1 + 1 + 1) (Maps.size s.names) s.names left cnt) ∧ Hid (Cp w wr g s (cpGh w ids bv) (cpSt s nm (.map []) fl) (w.heap.size + 1 + 1) (w.heap.size + 1) T) ∧ Hid (Half s.names nm left T ∧ IsMap nm ∧ Maps.size nm + cnt ≤ Maps.size s.names ∧ OkF fl ∧ (w.heap.size + 1 + 1 + 1 + 1 + 1) ∉ foot (cpGh w ids bv))) (fun wr => wr.rangeLeft g.m (w.heap.size + 1 + 1 + 1 + 1 + 1))
  case atStart => 
    refine ⟨_, _, [], _, .map [], _, [], HRG0, HC0, Lib.hid ⟨half_start _ _, ?_, ?_, fun f => ⟨Nat.le_refl _, Nat.zero_le _⟩, ?_⟩⟩
    · first | exact isMap_nil | exact ⟨_, rfl⟩
    · simp [Maps.size]
    · simp [foot, head, fps, cpGh, cpG, blkOf, Value.ownBlock]
      omega
  case round =>
    obtain ⟨left, cnt, ids, bv, nm, fl, T, HRG, HC, HH⟩ := hrel
    have hrg := HRG.out
    go_wp2_with (first | (at_next; refine wpList_next_ranges _ rfl _ rfl 9 law ptrR Value.string ptrV (fun key kl hk => by obtain ⟨x, e, _⟩ := string_of_keyOf Try.underlying9 hk; exact ⟨x, e⟩) (fun v y hv => by obtain ⟨k, e, _⟩ := ptrR_inv hv; exact ⟨k, e⟩) g.m _ _ s.names left cnt rfl hrg ?_ ?_))
    · intro _ hl0
      have HF := Lib.hid (half_end HH.out.1 hl0)
      have q2 : wr.cell? ⟨g.p, 2, none⟩ = some (.map (some g.l)) := (HC.out.old.cell (p := ⟨g.p, 2, none⟩) (HR.out.lt g.p (mem_foot.2 (.inl rfl)))).trans k2
      have hls : wr.ownsMap Try.prog 9 ptrR g.l (Maps.size s.lasting) s.lasting := owns_frame HR.out.ls (HC.out.old.block g.l (HR.out.lt g.l (mem_foot.2 (.inr (.inr (.inl rfl))))))
      go_wp2_with (first | (at_range; refine wpList_range_own _ rfl _ 58 rfl 9 63 law Try.underlying58 ptrR g.l _ s.lasting rfl hls ?_; intro wr1 hrg1 hg1 hs1))
      go_frame
      obtain ⟨r2, hr2⟩ : ∃ r2, wr.heap.size = r2 := ⟨_, rfl⟩
      rw [hr2] at hrg1 ⊢
      have hr5 : w.heap.size + 1 + 1 + 1 + 1 + 1 < r2 := by have := HRG.out.lt; omega
      have hrf : r2 ∉ foot (cpGh w ids bv) := fun hm => by have := HC.out.rep'.lt r2 hm; omega
      have HCL := Lib.hid (HC.out.more (below_of_none hg1))
      have HRGL := Lib.hid hrg1
      have HRF := Lib.hid hrf
      have HFL := Lib.hid HH.out.2.2.2.1
      have HHN := Lib.hid HH.out.1
      clear hrg hrg1 hg1 hs1 q2 hls hrf HH HRG HC HRG0 HC0 hr2
      go_loopw [] (fun wr => ∃ (leftb : Lit → Bool) (cntb : Nat) (idsb : List Nat) (bvb : Nat → Value) (ls : Dm) (flb : Nat → List UInt8 × Nat) (Tb : List (Nat × Nat)),
        Hid (wr.ranges Try.prog 9 ptrR g.l r2 (Maps.size s.lasting) s.lasting leftb cntb) ∧ Hid (Cp w wr g s (cpGh w idsb bvb) (cpSt s nm ls flb) (w.heap.size + 1 + 1) (w.heap.size + 1) Tb) ∧ Hid (Half s.lasting ls leftb Tb ∧ IsMap ls ∧ Maps.size ls + cntb ≤ Maps.size s.lasting ∧ OkF flb ∧ r2 ∉ foot (cpGh w idsb bvb) ∧ Half s.names nm left Tb)) (fun wr => wr.rangeLeft g.l r2)
      case atStart =>
        exact ⟨_, _, ids, bv, .map [], fl, T, HRGL, HCL, Lib.hid ⟨half_start _ _, ⟨_, rfl⟩, by simp [Maps.size], HFL.out, HRF.out, HHN.out⟩⟩
      case round =>
        obtain ⟨leftb, cntb, idsb, bvb, ls, flb, Tb, HRG, HC, HH⟩ := hrel
        have hrgb := HRG.out
        have hidl : IdsD s.lasting g.ids := by have := HI.out.ids 0; rwa [List.take_zero] at this
        go_wp2_with (first | (at_next; refine wpList_next_ranges _ rfl _ rfl 9 law ptrR Value.string ptrV (fun key kl hk => by obtain ⟨x, e, _⟩ := string_of_keyOf Try.underlying9 hk; exact ⟨x, e⟩) (fun v y hv => by obtain ⟨k, e, _⟩ := ptrR_inv hv; exact ⟨k, e⟩) g.l _ _ s.lasting leftb cntb rfl hrgb ?_ ?_))
        · intro _ hlb0
          have HFB := Lib.hid (half_end HH.out.1 hlb0)
          have q3 : wr.cell? ⟨g.p, 3, none⟩ = some (.slice ca s.changes.length cl) := (HC.out.old.cell (p := ⟨g.p, 3, none⟩) (HR.out.lt g.p (mem_foot.2 (.inl rfl)))).trans k3
          have HCB : Hid (Cp w wr g s (cpGv w (.slice none 0 0) idsb bvb) (cpSc s nm ls [] flb) (w.heap.size + 1 + 1) (w.heap.size + 1) Tb) := Lib.hid HC.out
          have HOB := Lib.hid HH.out.2.2.2.1
          have HNB := Lib.hid HH.out.2.2.2.2.2
          have HLB := Lib.hid hlb0
          clear hrgb hlb0
          go_wp2_with fail
          clear q3
          go_loopw [61] (fun a wr => ∃ (k : Nat) (v : Value) (cs : List Chg) (idsc : List Nat) (bvc : Nat → Value) (flc : Nat → List UInt8 × Nat) (Tc : List (Nat × Nat)), k ≤ s.changes.length ∧ a = .int .i64 k ∧
            Hid (Cp w wr g s (cpGv w v idsc bvc) (cpSc s nm ls cs flc) (w.heap.size + 1 + 1) (w.heap.size + 1) Tc) ∧ Hid (TwL Tc (s.changes.take k) cs ∧ OkF flc ∧ Half s.names nm left Tc ∧ Half s.lasting ls leftb Tc)) (fun a _ => s.changes.length - (RowKit.intOf a).toNat)
          case atStart => exact ⟨0, _, [], idsb, bvb, flb, Tb, Nat.zero_le _, rfl, HCB, Lib.hid ⟨⟨rfl, fun i a b h => by simp at h⟩, HOB.out, HNB.out, HH.out.1⟩⟩
          case round =>
            obtain ⟨k, v, cs, idsc, bvc, flc, Tc, hk, rfl, HC3, HH3⟩ := hrel
            by_cases hlt : k < s.changes.length
            · have s1 : (k : Int) < (s.changes.length : Int) := by omega
              have hch : wr.ownsRow 0 73 1 (.slice ca s.changes.length cl) s.changes.length (s.changes.map chgV) := by
                have h1 := HR.out.ch
                rw [hcv] at h1
                exact ownsRow_frame h1 fun b hb => HC3.out.old.block b (HR.out.lt b (mem_foot.2 (.inr (.inr (.inr (.inl (by rw [hcv]; exact hb)))))))
              obtain ⟨cb, rfl, hcc⟩ := chg_cell hch hlt
              obtain ⟨va, vl, vc, rfl⟩ := slice_of_row HC3.out.rep'.ch
              obtain rfl : cs.length = vl := owned_len HC3.out.rep'.ch
              have hcsl : cs.length ≤ 1000000 := by have h1 := HH3.out.1.1; have h2 := HI.out.cl; rw [List.length_take] at h1; omega
              have hkb : k < 1000000 := by have := HI.out.cl; omega
              have hsc : s.changes[k]? = some (s.changes[k]'hlt) := List.getElem?_eq_getElem hlt
              have HTK := Lib.hid (show s.changes.take (k + 1) = s.changes.take k ++ [s.changes[k]'hlt] from by rw [List.take_add_one, hsc]; rfl)
              have HSC := Lib.hid hsc
              clear hsc hch
              generalize s.changes[k]'hlt = c0 at hcc HTK HSC
              have hpz : w.heap.size < wr.heap.size := by have := HC3.out.rep'.lt w.heap.size (mem_foot.2 (.inl rfl)); exact this
              have htz : w.heap.size + 1 < wr.heap.size := by obtain ⟨_, _, h1, _⟩ := HC3.out.map; exact (Array.getElem?_eq_some_iff.1 h1).1
              have hpc : ∀ b, some b = (Value.slice va cs.length vc).ownBlock → b ≠ w.heap.size := by
                intro b hb e
                have hd := (List.nodup_append.1 HC3.out.rep'.apart).1
                unfold Fs.head at hd
                simp only [List.nodup_cons, List.mem_cons, not_or] at hd
                refine hd.1.2.2 ?_
                show w.heap.size ∈ blkOf (.slice va cs.length vc)
                unfold blkOf
                rw [← hb, e]
                simp
              obtain ⟨i0, hi, hz0, hz1, hz2⟩ := info_parts info73
              cases c0 with
              | create nm2 f =>
                have hfi := create_in HI.out HSC.out
                rw [show chgV (.create nm2 f) = .iface 68 (.agg #[.string nm2, .pointer (some ⟨f, 0, none⟩)]) from rfl] at hcc
                have hc1 := (HC3.out.more (w' := (wr.alloc (.cells #[.string nm2, .pointer (some ⟨f, 0, none⟩)] 68)).drew) (((Below.refl _ _).alloc (Nat.le_refl _) _).drew))
                have CT := Lib.hid (twin_cp w _ g s _ _ _ _ _ hc1 f hfi (by have := (HI.out.fl f).2; omega))
                have a0 : (wr.alloc (.cells #[.string nm2, .pointer (some ⟨f, 0, none⟩)] 68)).cell? ⟨wr.heap.size, 0, none⟩ = some (.string nm2) := by simp [go_sem]
                have a1 : (wr.alloc (.cells #[.string nm2, .pointer (some ⟨f, 0, none⟩)] 68)).cell? ⟨wr.heap.size, 1, none⟩ = some (.pointer (some ⟨f, 0, none⟩)) := by simp [go_sem]
                have HC1 := Lib.hid hc1
                clear hc1
                go_wp2_with fail
                go_region_held_law (fun w' => w'.cell? ⟨wr.heap.size, 0, none⟩ = some (.string nm2) ∧ w'.cell? ⟨wr.heap.size, 1, none⟩ = some (.pointer (some ⟨f, 0, none⟩))) (first | exact ⟨a0, a1⟩ | exact ⟨b0, b1⟩) ((go_at_call 42; refine CT.out.mono ?_; rintro e w2 ⟨y, g2, fl2, T2, rfl, hcp2, hly, hT2, hgp, hgm, hgl, hgc, hid2, hfl2, hbd2, htu2, hsub2⟩; have hb2 := htu2.block wr.heap.size (by simp) (by simp; omega); have b0 := (World.cell?_of_block (a := ⟨wr.heap.size, 0, none⟩) hb2).trans a0; have b1 := (World.cell?_of_block (a := ⟨wr.heap.size, 1, none⟩) hb2).trans a1; clear hb2))
                have hg2 := cpGv_of hgp hgm hgl hgc
                rw [hg2] at hcp2
                have hz2w : w.heap.size < w2.heap.size := by have := htu2.size; simp at this; omega
                have k3c : w2.cell? ⟨w.heap.size, 3, none⟩ = some (.slice va cs.length vc) := (fs_cells hcp2.rep'.cells).2.2.2.1
                have kfr : ∀ o, w2.frozen? ⟨w.heap.size, o, none⟩ = false := (fs_cells hcp2.rep'.cells).2.2.2.2.2.2
                have hrow2 : w2.ownsRow 0 73 1 (.slice va cs.length vc) cs.length (cs.map chgV) := hcp2.rep'.ch
                have HCP2 := Lib.hid hcp2
                have HT2 := Lib.hid hT2
                have HLY := Lib.hid hly
                have HBD := Lib.hid hbd2
                clear hcp2 hT2 hly hbd2 hgp hgm hgl hgc hid2 hfl2 htu2 hsub2 hg2 b0 b1 a0 a1 hcc
                go_wp2_with (first | (at_builtin; refine wpList_append_own_at _ rfl (.tmp 80) (.tmp 82) 59 rfl 0 73 i0 .nilIface 1 16 Try.underlying59 hi hz0 hz1 hz2 rfl (by decide) (.slice va cs.length vc) cs.length (cs.map chgV) rfl (hrow2.alloc _) ⟨w2.heap.size, 0, none⟩ 1 1 [chgV (.create nm2 y)] rfl rfl (cell_one_new _ _ _) (oneCell_chg _) (by unfold maxLen; omega) (by omega) (Nat.zero_le _) ?_; intro v' w4 hown' hgrow hnil hloc; obtain ⟨xa, xl, xc, rfl⟩ := slice_of_row hown'; have kf4 := frozen_grown hgrow hz2w hpc kfr; have kc4 := cell_grown hgrow hz2w hpc k3c; clear hnil))
                go_roundw
                case measure => simp [RowKit.intOf]; omega
                case rel => exact ⟨k + 1, .slice xa xl xc, cs ++ [Chg.create nm2 y], g2.ids, g2.bv, fl2, T2, by omega, by go_num, Lib.hid (show Cp w (w4.setCell ⟨w.heap.size, 3, none⟩ (.slice xa xl xc)) g s (cpGv w (.slice xa xl xc) g2.ids g2.bv) (cpSc s nm ls (cs ++ [Chg.create nm2 y]) fl2) (w.heap.size + 1 + 1) (w.heap.size + 1) T2 from HCP2.out.putChg (.create nm2 y) hown' hgrow hloc), Lib.hid ⟨by rw [HTK.out]; exact HH3.out.1.snoc HT2.out ⟨rfl, HLY.out⟩, HBD.out 16777216 HH3.out.2.1 HI.out.fl, half_more HH3.out.2.2.1 HT2.out, half_more HH3.out.2.2.2 HT2.out⟩⟩
              | rename a b =>
                rw [show chgV (.rename a b) = .iface 80 (.agg #[.string a, .string b]) from rfl] at hcc
                have hcp2 := HC3.out.more (w' := (wr.alloc (.cells #[.string ⟨#[]⟩, .pointer none] 68))) ((Below.refl _ _).alloc (Nat.le_refl _) _)
                have hz2w : w.heap.size < (wr.alloc (.cells #[.string ⟨#[]⟩, .pointer none] 68)).heap.size := by simp; omega
                have k3c : (wr.alloc (.cells #[.string ⟨#[]⟩, .pointer none] 68)).cell? ⟨w.heap.size, 3, none⟩ = some (.slice va cs.length vc) := (fs_cells hcp2.rep'.cells).2.2.2.1
                have kfr : ∀ o, (wr.alloc (.cells #[.string ⟨#[]⟩, .pointer none] 68)).frozen? ⟨w.heap.size, o, none⟩ = false := (fs_cells hcp2.rep'.cells).2.2.2.2.2.2
                have hrow2 : (wr.alloc (.cells #[.string ⟨#[]⟩, .pointer none] 68)).ownsRow 0 73 1 (.slice va cs.length vc) cs.length (cs.map chgV) := hcp2.rep'.ch
                have hco := cell_one_new (wr.alloc (.cells #[.string ⟨#[]⟩, .pointer none] 68)) (chgV (.rename a b)) 73
                rw [show (wr.alloc (.cells #[.string ⟨#[]⟩, .pointer none] 68)).heap.size = wr.heap.size + 1 from by simp] at hco
                have HCO := Lib.hid hco
                clear hco
                have HCP2 := Lib.hid hcp2
                clear hcp2
                go_wp2_with (first | (at_builtin; refine wpList_append_own_at _ rfl (.tmp 80) (.tmp 82) 59 rfl 0 73 i0 .nilIface 1 16 Try.underlying59 hi hz0 hz1 hz2 rfl (by decide) (.slice va cs.length vc) cs.length (cs.map chgV) rfl (hrow2.alloc _) ⟨wr.heap.size + 1, 0, none⟩ 1 1 [chgV (.rename a b)] rfl rfl HCO.out (oneCell_chg _) (by unfold maxLen; omega) (by omega) (Nat.zero_le _) ?_; intro v' w4 hown' hgrow hnil hloc; obtain ⟨xa, xl, xc, rfl⟩ := slice_of_row hown'; have kf4 := frozen_grown hgrow hz2w hpc kfr; have kc4 := cell_grown hgrow hz2w hpc k3c; clear hnil))
                go_roundw
                case measure => simp [RowKit.intOf]; omega
                case rel => exact ⟨k + 1, .slice xa xl xc, cs ++ [Chg.rename a b], idsc, bvc, flc, Tc, by omega, by go_num, Lib.hid (show Cp w (w4.setCell ⟨w.heap.size, 3, none⟩ (.slice xa xl xc)) g s (cpGv w (.slice xa xl xc) idsc bvc) (cpSc s nm ls (cs ++ [Chg.rename a b]) flc) (w.heap.size + 1 + 1) (w.heap.size + 1) Tc from HCP2.out.putChg (.rename a b) hown' hgrow hloc), Lib.hid ⟨by rw [HTK.out]; exact HH3.out.1.snoc (fun _ _ h => h) ⟨rfl, rfl⟩, HH3.out.2.1, HH3.out.2.2.1, HH3.out.2.2.2⟩⟩
              | remove a =>
                rw [show chgV (.remove a) = .iface 82 (.agg #[.string a]) from rfl] at hcc
                have hcp2 := HC3.out.more (w' := (wr.alloc (.cells #[.string ⟨#[]⟩, .pointer none] 68))) ((Below.refl _ _).alloc (Nat.le_refl _) _)
                have hz2w : w.heap.size < (wr.alloc (.cells #[.string ⟨#[]⟩, .pointer none] 68)).heap.size := by simp; omega
                have k3c : (wr.alloc (.cells #[.string ⟨#[]⟩, .pointer none] 68)).cell? ⟨w.heap.size, 3, none⟩ = some (.slice va cs.length vc) := (fs_cells hcp2.rep'.cells).2.2.2.1
                have kfr : ∀ o, (wr.alloc (.cells #[.string ⟨#[]⟩, .pointer none] 68)).frozen? ⟨w.heap.size, o, none⟩ = false := (fs_cells hcp2.rep'.cells).2.2.2.2.2.2
                have hrow2 : (wr.alloc (.cells #[.string ⟨#[]⟩, .pointer none] 68)).ownsRow 0 73 1 (.slice va cs.length vc) cs.length (cs.map chgV) := hcp2.rep'.ch
                have hco := cell_one_new (wr.alloc (.cells #[.string ⟨#[]⟩, .pointer none] 68)) (chgV (.remove a)) 73
                rw [show (wr.alloc (.cells #[.string ⟨#[]⟩, .pointer none] 68)).heap.size = wr.heap.size + 1 from by simp] at hco
                have HCO := Lib.hid hco
                clear hco
                have HCP2 := Lib.hid hcp2
                clear hcp2
                go_wp2_with (first | (at_builtin; refine wpList_append_own_at _ rfl (.tmp 80) (.tmp 82) 59 rfl 0 73 i0 .nilIface 1 16 Try.underlying59 hi hz0 hz1 hz2 rfl (by decide) (.slice va cs.length vc) cs.length (cs.map chgV) rfl (hrow2.alloc _) ⟨wr.heap.size + 1, 0, none⟩ 1 1 [chgV (.remove a)] rfl rfl HCO.out (oneCell_chg _) (by unfold maxLen; omega) (by omega) (Nat.zero_le _) ?_; intro v' w4 hown' hgrow hnil hloc; obtain ⟨xa, xl, xc, rfl⟩ := slice_of_row hown'; have kf4 := frozen_grown hgrow hz2w hpc kfr; have kc4 := cell_grown hgrow hz2w hpc k3c; clear hnil))
                go_roundw
                case measure => simp [RowKit.intOf]; omega
                case rel => exact ⟨k + 1, .slice xa xl xc, cs ++ [Chg.remove a], idsc, bvc, flc, Tc, by omega, by go_num, Lib.hid (show Cp w (w4.setCell ⟨w.heap.size, 3, none⟩ (.slice xa xl xc)) g s (cpGv w (.slice xa xl xc) idsc bvc) (cpSc s nm ls (cs ++ [Chg.remove a]) flc) (w.heap.size + 1 + 1) (w.heap.size + 1) Tc from HCP2.out.putChg (.remove a) hown' hgrow hloc), Lib.hid ⟨by rw [HTK.out]; exact HH3.out.1.snoc (fun _ _ h => h) rfl, HH3.out.2.1, HH3.out.2.2.1, HH3.out.2.2.2⟩⟩
            · have s1 : ¬ (k : Int) < (s.changes.length : Int) := by omega
              have hkk : s.changes.take k = s.changes := List.take_of_length_le (by omega)
              have HF1 := Lib.hid (half_end HH3.out.2.2.1 hl0)
              have HF2 := Lib.hid (half_end HH3.out.2.2.2 HLB.out)
              have HKK := Lib.hid hkk
              clear hkk
              go_wp2_with fail
              go_ret
              have h1 := HH3.out.1
              rw [HKK.out] at h1
              exact ⟨_, _, _, _, _, rfl, HC3.out, HH3.out.2.1, HF1.out, HF2.out, h1, rfl, rfl, rfl⟩
        · intro x c kl' yd ps w1 cnt1 hkx hlx hvc hat hrg1 hlt hg1 hs1 hen
          obtain ⟨x', ex, rfl, hxs⟩ := string_of_keyOf Try.underlying9 hkx
          cases ex
          rw [ptrR_V] at hvc
          cases hvc
          have hlk : look s.lasting x = c := by unfold look; rw [show kl x = .string x.data.toList from rfl, hat]; simp
          have hhas : Maps.has s.lasting (kl x) = true := has_true_of_atKey hat
          obtain ⟨f, hf, e⟩ := hidl x hhas
          obtain rfl : c = f + 1 := hlk.symm.trans e
          rw [show ptrV (f + 1) = .pointer (some ⟨f, 0, none⟩) from rfl] at hen ⊢
          have hc1 : Cp w w1.drew g s (cpGh w idsb bvb) (cpSt s nm ls flb) (w.heap.size + 1 + 1) (w.heap.size + 1) Tb := (HC.out.aside (Turn.of_grown hg1) (fun b hb => by
            have e : b = r2 := by simpa using hb
            rw [e]
            exact ⟨by omega, HH.out.2.2.2.2.1, by omega, by omega⟩)).more ((Below.refl _ _).drew)
          have CT := Lib.hid (twin_cp w w1.drew g s _ _ _ _ _ hc1 f hf (by have := (HI.out.fl f).2; omega))
          have p1 : w1.cell? ⟨w.heap.size, 2, none⟩ = some (.map (some (w.heap.size + 1 + 1 + 1 + 1))) := (fs_cells hc1.rep'.cells).2.2.1
          have HRG1 := Lib.hid hrg1
          have HC1 := Lib.hid hc1
          have HLT := Lib.hid hlt
          have HHAS := Lib.hid hhas
          have HLK := Lib.hid hlk
          have nlt : Maps.size ls < maxLen := by have := HH.out.2.2.1; have := HI.out.sz 0; rw [List.take_zero] at this; have e0 : Maps.size s.lasting ≤ n := this; unfold maxLen; omega
          clear hrg1 hc1 hlt hlx hhas hlk hat hkx e hrgb hg1
          go_wp2_with fail
          go_region_held_law (fun w' => w'.cell? ⟨w.heap.size, 2, none⟩ = some (.map (some (w.heap.size + 1 + 1 + 1 + 1)))) (first | exact p1 | exact p2 | exact p3) ((go_at_call 42; refine CT.out.mono ?_; rintro e w2 ⟨y, g2, fl2, T2, rfl, hcp2, hly, hT2, hgp, hgm, hgl, hgc, hid2, hfl2, hbd2, htu2, hsub2⟩; obtain ⟨w3, hup, htu3, hcp3⟩ := hcp2.putLast nlt x hxs y; rw [hgl] at hup; change (Instr.mapUpdate 58 (.map (some (w.heap.size + 1 + 1 + 1 + 1))) (.string x) (.pointer (some ⟨y, 0, none⟩))).run Try.prog w2 = .ok () w3 at hup; have p2 : w2.cell? ⟨w.heap.size, 2, none⟩ = some (.map (some (w.heap.size + 1 + 1 + 1 + 1))) := (by have := (fs_cells hcp2.rep'.cells).2.2.1; rw [hgp, hgl] at this; exact this); have p3 : w3.cell? ⟨w.heap.size, 2, none⟩ = some (.map (some (w.heap.size + 1 + 1 + 1 + 1))) := (by have := (fs_cells hcp3.rep'.cells).2.2.1; rw [hgp, hgl] at this; exact this)))
          go_wp2
          have hgml : g.l < w.heap.size := HR.out.lt g.l (mem_foot.2 (.inr (.inr (.inl rfl))))
          have hr1 := ranges_turn (w' := w1.drew) HRG1.out (Turn.of_below ((Below.refl _ _).drew) []) (by simp) (by simp)
          have hgl' : g2.l = w.heap.size + 1 + 1 + 1 + 1 := hgl
          have hr2 := ranges_turn hr1 htu2 (fun hm => by have := List.mem_singleton.1 hm; omega) (fun hm => by have := List.mem_singleton.1 hm; omega)
          have hr3 := ranges_turn hr2 htu3 (fun hm => by have := List.mem_singleton.1 hm; omega) (fun hm => by have := List.mem_singleton.1 hm; omega)
          have hg2 := cpGh_of hgp hgm hgl hgc
          rw [hg2] at hcp3
          refine ⟨⟨_, cnt1, g2.ids, g2.bv, ls.put (kl x) (.lit (.int .i64 (y + 1 : Nat))), fl2, T2, Lib.hid hr3, Lib.hid hcp3, Lib.hid ⟨half_step HH.out.2.1 (half_more HH.out.1 hT2) x HHAS.out HLK.out hly, hcp3.rep'.ls.isMap, ?_, ?_, ?_, half_more HH.out.2.2.2.2.2 hT2⟩⟩, ?_⟩
          · have htd : Tidy ls := HC1.out.rep'.ls.tidy law
            have h1 := size_put (d := .lit (.int .i64 (y + 1 : Nat))) (k := kl x) htd
            have h2 := HLT.out
            have h3 := HH.out.2.2.1
            have h4 : Maps.size (ls.put (kl x) (.lit (.int .i64 (y + 1 : Nat)))) ≤ Maps.size ls + 1 := by
              rw [h1]; split <;> omega
            omega
          · exact hbd2 16777216 HH.out.2.2.2.1 HI.out.fl
          · rw [← hg2]
            intro hm
            rcases hsub2 _ hm with e | e
            · exact HH.out.2.2.2.2.1 e
            · have := HRG1.out.lt
              have e' : w1.heap.size ≤ r2 := e
              omega
          · rw [hr3.left_eq, HRG.out.left_eq]; exact HLT.out
    · intro x c kl' yd ps w1 cnt1 hkx hlx hvc hat hrg1 hlt hg1 hs1 hen
      obtain ⟨x', ex, rfl, hxs⟩ := string_of_keyOf Try.underlying9 hkx
      cases ex
      rw [ptrR_V] at hvc
      cases hvc
      have hlk : look s.names x = c := by unfold look; rw [show kl x = .string x.data.toList from rfl, hat]; simp
      have hhas : Maps.has s.names (kl x) = true := has_true_of_atKey hat
      obtain ⟨f, hf, e⟩ := HI.out.names x hhas
      obtain rfl : c = f + 1 := hlk.symm.trans e
      rw [show ptrV (f + 1) = .pointer (some ⟨f, 0, none⟩) from rfl] at hen ⊢
      have hc1 : Cp w w1.drew g s (cpGh w ids bv) (cpSt s nm (.map []) fl) (w.heap.size + 1 + 1) (w.heap.size + 1) T := (HC.out.aside (Turn.of_grown hg1) (fun b hb => by
        have e : b = w.heap.size + 1 + 1 + 1 + 1 + 1 := by simpa using hb
        rw [e]
        exact ⟨by omega, HH.out.2.2.2.2, by omega, by omega⟩)).more ((Below.refl _ _).drew)
      have CT := Lib.hid (twin_cp w w1.drew g s _ _ _ _ _ hc1 f hf (by have := (HI.out.fl f).2; omega))
      have p1 : w1.cell? ⟨w.heap.size, 1, none⟩ = some (.map (some (w.heap.size + 1 + 1 + 1))) := (fs_cells hc1.rep'.cells).2.1
      have HRG1 := Lib.hid hrg1
      have HC1 := Lib.hid hc1
      have HLT := Lib.hid hlt
      have HLX := Lib.hid hlx
      have HHAS := Lib.hid hhas
      have HLK := Lib.hid hlk
      have nlt : Maps.size nm < maxLen := by have := HH.out.2.2.1; have := HI.out.size; unfold maxLen; omega
      clear hrg1 hc1 hlt hlx hhas hlk hat hkx e hrg hg1
      go_wp2_with fail
      go_region_held_law (fun w' => w'.cell? ⟨w.heap.size, 1, none⟩ = some (.map (some (w.heap.size + 1 + 1 + 1)))) (first | exact p1 | exact p2 | exact p3) ((go_at_call 42; refine CT.out.mono ?_; rintro e w2 ⟨y, g2, fl2, T2, rfl, hcp2, hly, hT2, hgp, hgm, hgl, hgc, hid2, hfl2, hbd2, htu2, hsub2⟩; obtain ⟨w3, hup, htu3, hcp3⟩ := hcp2.putName nlt x hxs y; rw [hgm] at hup; change (Instr.mapUpdate 58 (.map (some (w.heap.size + 1 + 1 + 1))) (.string x) (.pointer (some ⟨y, 0, none⟩))).run Try.prog w2 = .ok () w3 at hup; have p2 : w2.cell? ⟨w.heap.size, 1, none⟩ = some (.map (some (w.heap.size + 1 + 1 + 1))) := (by have := (fs_cells hcp2.rep'.cells).2.1; rw [hgp, hgm] at this; exact this); have p3 : w3.cell? ⟨w.heap.size, 1, none⟩ = some (.map (some (w.heap.size + 1 + 1 + 1))) := (by have := (fs_cells hcp3.rep'.cells).2.1; rw [hgp, hgm] at this; exact this)))
      go_wp2
      have hgml : g.m < w.heap.size := HR.out.lt g.m (mem_foot.2 (.inr (.inl rfl)))
      have hr1 := ranges_turn (w' := w1.drew) HRG1.out (Turn.of_below ((Below.refl _ _).drew) []) (by simp) (by simp)
      have hgm' : g2.m = w.heap.size + 1 + 1 + 1 := hgm
      have hr2 := ranges_turn hr1 htu2 (fun hm => by have := List.mem_singleton.1 hm; omega) (fun hm => by have := List.mem_singleton.1 hm; omega)
      have hr3 := ranges_turn hr2 htu3 (fun hm => by have := List.mem_singleton.1 hm; omega) (fun hm => by have := List.mem_singleton.1 hm; omega)
      have hg2 := cpGh_of hgp hgm hgl hgc
      rw [hg2] at hcp3
      refine ⟨⟨_, cnt1, g2.ids, g2.bv, nm.put (kl x) (.lit (.int .i64 (y + 1 : Nat))), fl2, T2, Lib.hid hr3, Lib.hid hcp3, Lib.hid ⟨half_step HH.out.2.1 (half_more HH.out.1 hT2) x HHAS.out HLK.out hly, hcp3.rep'.nm.isMap, ?_, ?_, ?_⟩⟩, ?_⟩
      · have htd : Tidy nm := HC1.out.rep'.nm.tidy law
        have h1 := size_put (d := .lit (.int .i64 (y + 1 : Nat))) (k := kl x) htd
        have h2 := HLT.out
        have h3 := HH.out.2.2.1
        have h4 : Maps.size (nm.put (kl x) (.lit (.int .i64 (y + 1 : Nat)))) ≤ Maps.size nm + 1 := by
          rw [h1]; split <;> omega
        omega
      · exact hbd2 16777216 HH.out.2.2.2.1 HI.out.fl
      · rw [← hg2]
        intro hm
        rcases hsub2 _ hm with e | e
        · exact HH.out.2.2.2.2 e
        · have := HRG1.out.lt
          have e' : w1.heap.size ≤ w.heap.size + 1 + 1 + 1 + 1 + 1 := e
          omega
      · rw [hr3.left_eq, HRG.out.left_eq]; exact HLT.out
end Go.Proofs.Ytijdgmbpkfmciaa.Fs
