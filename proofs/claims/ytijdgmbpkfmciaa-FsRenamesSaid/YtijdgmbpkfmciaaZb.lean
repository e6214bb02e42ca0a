/- The file system: FsRenames walked. -/
import Derived.Test.YtijdgmbpkfmciaaZa
namespace Go.Proofs.Ytijdgmbpkfmciaa.Fs
open Go.RowKit Go.Maps Go.ChangeMaps Go.WideMaps Go.Joins Go.Sort

theorem calm_new : Calm (newS 1048576) := ⟨rfl, rfl, rfl, rfl, tidy_empty, Nat.zero_le _, rfl, fun _ => Nat.zero_le _, by show (-1 : Int) ≤ -1; omega⟩
theorem bytes_ne {a b : List UInt8} (h : a ≠ b) : ((⟨a.toArray⟩ : ByteArray).toList == (⟨b.toArray⟩ : ByteArray).toList) = false := by
  rw [beq_eq_false_iff_ne, Lib.toList_data, Lib.toList_data]
  intro e
  exact h (by simpa using e)

theorem first_thru (old : List UInt8) (f : Nat) (h : old.length ≤ 100000) : Thru (newS 1048576) f old (putR (newS 1048576) old f).2 := by
  rcases put_told calm_new f old h with h | ⟨_, _, _, hd, _⟩
  · exact h.2
  · exact absurd rfl hd.fu
theorem first_ok (old : List UInt8) (f : Nat) (h : old.length ≤ 100000) : (putR (newS 1048576) old f).1 = 0 := by
  rcases put_told calm_new f old h with h | ⟨_, _, _, hd, _⟩
  · exact h.1
  · exact absurd rfl hd.fu
theorem first_size (old : List UInt8) (f : Nat) (h : old.length ≤ 100000) {s1 : St} (hs : s1 = (putR (newS 1048576) old f).2) : Maps.size s1.names ≤ 1 := by
  have ht := first_thru old f h
  rw [← hs] at ht
  rw [ht.n]
  have : Maps.size (replay (newS 1048576).names [cT f, rTI]) = 1 := rfl
  omega
theorem first_id {P n : Nat} {w0 w : World} {g : Gh} {s : St} (h : Sys P n w0 w g s) {f : Nat} {old : List UInt8} (ht : Thru (newS 1048576) f old s) : f ∈ g.ids := by
  have hl : look s.names nmI = f + 1 := by rw [ht.n]; exact (replay_it (show Tidy (newS 1048576).names from tidy_empty) f).2.1
  rcases h.inv.names.look nmI with e | ⟨f', hf, e⟩
  · omega
  · have : f = f' := by omega
    rw [this]; exact hf

set_option maxHeartbeats 4000000 in
set_option maxRecDepth 100000 in
theorem renames_walk (ov : Value) (old : List UInt8) (nv : Value) (new : List UInt8) (fuse names : Int) (kv : Value) (keep : List Int) (w : World)
    (ho : News w ov (old.map byteV)) (hol : old.length ≤ 140737488351232) (hn : News w nv (new.map byteV)) (hnl : new.length ≤ 140737488351232)
    (hf : -9223372036854775808 ≤ fuse ∧ fuse < 9223372036854775808) (_ : -9223372036854775808 ≤ names ∧ names < 9223372036854775808) (hk : News w kv (keep.map intV)) (hkl : keep.length ≤ 9223372036854775807) :
    Calls Try.prog 5 #[ov, nv, .int .i64 fuse, .int .i64 names, kv] w fun e w' => e = .returned (.bool true) ∧ Below w.heap.size w w' := by
  have CN := Lib.hid (sys_new 1048576 w w (by omega) (by omega) (Below.refl _ _))
  have ni : nmI.size ≤ maxLen := by unfold maxLen; decide
  obtain ⟨oa, oc, hov⟩ := ho.slice
  rw [List.length_map] at hov
  subst hov
  obtain ⟨na, nc, hnv⟩ := hn.slice
  rw [List.length_map] at hnv
  subst hnv
  obtain ⟨ka, kc, hkv⟩ := hk.slice
  rw [List.length_map] at hkv
  subst hkv
  have HO := Lib.hid ho
  have HN := Lib.hid hn
  have HK := Lib.hid hk
  clear ho hn hk
  by_cases hbig : 100000 < old.length + new.length
  · have r1 : (100000 : Int) < (old.length : Int) + (new.length : Int) := by omega
    go_enter Try.func5, Try.ntmps5
    go_wp2_with fail
    refine CN.out.mono ?_
    rintro e w1 ⟨P, g, rfl, -, HS, -, -⟩
    have HB := Lib.hid HS.bel
    clear HS CN
    go_wp2_with fail
    refine (awake_any _).mono ?_
    rintro e w2 ⟨rfl, hb⟩
    have HB2 := Lib.hid ((HB.out.trans (((Below.refl _ _).alloc (Nat.le_refl _) (.cells #[.pointer (some ⟨P, 0, none⟩)] 23)).mono HB.out.size)).trans (hb.mono (by simp; have := HB.out.size; omega)))
    clear hb
    go_wp2_with fail
    go_ret
    exact ⟨rfl, HB2.out⟩
  · have r1 : ¬ (100000 : Int) < (old.length : Int) + (new.length : Int) := by omega
    have r2 : IntKind.i64.wrap ((old.length : Int) + (new.length : Int)) = (old.length : Int) + (new.length : Int) := IntWalk.i64_in _ (by omega)
    go_enter Try.func5, Try.ntmps5
    go_wp2_with fail
    refine CN.out.mono ?_
    rintro e w1 ⟨P, g, rfl, -, HS, -, -⟩
    have HS1 := Lib.hid HS
    clear HS CN
    go_wp2_with fail
    obtain ⟨wA, hwA⟩ : ∃ wA, w1.alloc (.cells #[.pointer (some ⟨P, 0, none⟩)] 23) = wA := ⟨_, rfl⟩
    obtain ⟨cb, hcb⟩ : ∃ cb, w1.heap.size = cb := ⟨_, rfl⟩
    have hcA : wA.cell? ⟨cb, 0, none⟩ = some (.pointer (some ⟨P, 0, none⟩)) := by rw [← hwA, ← hcb]; simp [go_sem]
    have hSA : Sys P 0 w wA g (newS 1048576) := by rw [← hwA]; exact HS1.out.below ((Below.refl _ _).alloc (Nat.le_refl _) _)
    have hfA : Free wA g cb := by rw [← hwA, ← hcb]; exact HS1.out.free_new (Nat.le_refl _) (by simp)
    have oA : News wA (.slice oa old.length oc) (old.map byteV) := HO.out.frame fun hx b hb => hSA.bel.block b (HO.out.lt hx b hb)
    have oF : old ≠ [] → ∀ b ∈ blkOf (.slice oa old.length oc), Free wA g b := fun hx b hb => hSA.free_old (HO.out.lt (fun e => hx (List.map_eq_nil_iff.1 e)) b hb)
    have C1 := Lib.hid (put_any hSA (by omega) cb hcA hfA (.slice oa old.length oc) old (by omega) oA oF)
    rw [hwA, hcb]
    have HCA := Lib.hid (And.intro hcA hfA)
    clear hwA hcb hcA hSA hfA oA oF HS1
    go_wp2_with fail
    refine C1.out.mono ?_
    rintro e w2 ⟨f1, g2, hf1, rfl, HN1⟩
    rw [first_ok old f1 (by omega)]
    obtain ⟨k1, k2⟩ := HN1.cell HCA.out.1 HCA.out.2
    obtain ⟨s1, hs1⟩ : ∃ s1, s1 = (putR (newS 1048576) old f1).2 := ⟨_, rfl⟩
    rw [← hs1] at HN1
    have HS1 := Lib.hid hs1
    have HF1 := Lib.hid (first_id HN1.sys (by rw [hs1]; exact first_thru old f1 (by omega)))
    have C2 := Lib.hid (sys_fuse HN1.sys fuse hf.2)
    have K2 := Lib.hid k2
    clear hs1 HN1 C1 HCA k2 hf1
    go_wp2_with fail
    refine C2.out.mono ?_
    rintro e w3 ⟨rfl, g3, HN2⟩
    obtain ⟨k3, k4⟩ := HN2.cell k1 K2.out
    obtain ⟨s2, hs2⟩ : ∃ s2 : St, s2 = { s1 with fuse := max fuse (-1) } := ⟨_, rfl⟩
    rw [← hs2] at HN2
    have nA : News w3 (.slice na new.length nc) (new.map byteV) := HN.out.frame fun hx b hb => HN2.sys.bel.block b (HN.out.lt hx b hb)
    have nF : new ≠ [] → ∀ b ∈ blkOf (.slice na new.length nc), Free w3 g3 b := fun hx b hb => HN2.sys.free_old (HN.out.lt (fun e => hx (List.map_eq_nil_iff.1 e)) b hb)
    have C3 := Lib.hid (put_any HN2.sys (by omega) cb k3 k4 (.slice na new.length nc) new (by omega) nA nF)
    have HF2 := Lib.hid (HN2.ids f1 HF1.out)
    have HS2 := Lib.hid hs2
    have K4 := Lib.hid k4
    clear hs2 HN2 C2 K2 k4 k1 nA nF
    go_wp2_with fail
    refine C3.out.mono ?_
    rintro e w4 ⟨f2, g4, hf2, rfl, HN3⟩
    obtain ⟨k5, k6⟩ := HN3.cell k3 K4.out
    have hne : f2 ≠ f1 := fun e => hf2 (by rw [e]; exact HF2.out)
    have HT := Lib.hid (renames_told (names := names) (keep := keep) calm_new rfl (by omega) (by omega) (first_size old f1 (by omega) HS1.out) HS1.out hne (fun f => Nat.zero_le _) HS2.out (s1 := s1) (old := old) (new := new) (f2 := f2))
    obtain ⟨R, hR⟩ : ∃ R, R = putR s2 new f2 := ⟨_, rfl⟩
    rw [← hR] at HN3 HT ⊢
    have C4 := Lib.hid (sys_crash HN3.sys (by omega) names (.slice ka keep.length kc) keep (HK.out.frame fun hx b hb => HN3.sys.bel.block b (HK.out.lt hx b hb)) (fun hx b hb => HN3.sys.free_old (HK.out.lt (fun e => hx (List.map_eq_nil_iff.1 e)) b hb)) hkl)
    have K6 := Lib.hid k6
    clear hR HN3 C3 K4 k6 k3 hf2 hne
    obtain ⟨R1, R2⟩ := R
    simp only at HT C4 ⊢
    go_wp2_with fail
    refine C4.out.mono ?_
    rintro e w5 ⟨rfl, g5, HN4⟩
    obtain ⟨k7, k8⟩ := HN4.cell k5 K6.out
    have hdd : (crashS R2 names keep).dead = false := rfl
    obtain ⟨S, hS⟩ : ∃ S, S = crashS R2 names keep := ⟨_, rfl⟩
    rw [← hS] at HN4 HT hdd
    have C5 := Lib.hid (sys_read HN4.sys nmI ni)
    have HN4' := Lib.hid HN4.sys
    have HDD := Lib.hid hdd
    clear hS HN4 C4 K6 k8 k5 hdd
    go_wp2_with fail
    refine C5.out.mono ?_
    rintro e w6 ⟨v, rfl, hr, -, hbl⟩
    rw [HT.out.2.1.1]
    have hs6 := HN4'.out.below hbl
    have k9 : w6.cell? ⟨cb, 0, none⟩ = some (.pointer (some ⟨P, 0, none⟩)) := (hbl.cell (p := ⟨cb, 0, none⟩) (World.block_lt_of_cell? w5 _ k7)).trans k7
    have hco := conv_news (HO.out.frame (w' := w6) fun hx b hb => hs6.bel.block b (HO.out.lt hx b hb))
    have hcn := conv_news (HN.out.frame (w' := w6) fun hx b hb => hs6.bel.block b (HN.out.lt hx b hb))
    obtain ⟨X, hX⟩ : ∃ X, X = readL S nmI := ⟨_, rfl⟩
    rw [← hX] at hr HT
    obtain ⟨xa, xc, hv⟩ := row_slice hr
    rw [List.length_map] at hv
    subst hv
    have hcx := conv_news (News.of_row hr)
    have hor := HT.out.2.1.2
    have hthen := HT.out.2.2
    have HS6 := Lib.hid hs6
    clear hX hr hbl hs6 C5 HN4' k7 HT
    have C6 := Lib.hid (sys_dead HS6.out)
    have fin : ∀ W : World, W = w6 → Calls Try.prog 15 #[] W fun e w' => e = .returned (.bool true) ∧ Below w.heap.size w w' := fun W hW => by
      subst hW
      exact (awake_any W).mono fun e w' ⟨h1, h2⟩ => ⟨h1, HS6.out.bel.trans (h2.mono HS6.out.bel.size)⟩
    have FIN := Lib.hid (fin w6 rfl)
    clear fin
    by_cases hE : R1 = 0
    · have hXn := hthen hE
      subst hXn
      subst hE
      clear hthen hor
      by_cases hXo : X = old
      · subst hXo
        go_wp2_with fail
        refine C6.out.mono ?_
        rintro e w7 ⟨rfl, he⟩
        obtain rfl := he.symm
        rw [HDD.out]
        go_wp2_with fail
        refine FIN.out.mono ?_
        rintro e w8 ⟨rfl, hb⟩
        have HBF := Lib.hid hb
        clear hb
        go_wp2_with fail
        go_ret
        exact ⟨rfl, HBF.out⟩
      · have b1 := bytes_ne hXo
        have b2 : ¬ old = X := fun e => hXo e.symm
        go_wp2_with fail
        refine C6.out.mono ?_
        rintro e w7 ⟨rfl, he⟩
        obtain rfl := he.symm
        rw [HDD.out]
        go_wp2_with fail
        refine FIN.out.mono ?_
        rintro e w8 ⟨rfl, hb⟩
        have HBF := Lib.hid hb
        clear hb
        go_wp2_with fail
        go_ret
        exact ⟨rfl, HBF.out⟩
    · have b0 : (R1 == 0) = false := beq_eq_false_iff_ne.2 hE
      clear hthen
      rcases hor with hXo | hXn
      · subst hXo
        go_wp2_with fail
        refine C6.out.mono ?_
        rintro e w7 ⟨rfl, he⟩
        obtain rfl := he.symm
        rw [HDD.out]
        go_wp2_with fail
        refine FIN.out.mono ?_
        rintro e w8 ⟨rfl, hb⟩
        have HBF := Lib.hid hb
        clear hb
        go_wp2_with fail
        go_ret
        exact ⟨rfl, HBF.out⟩
      · subst hXn
        by_cases hXo : X = old
        · subst hXo
          go_wp2_with fail
          refine C6.out.mono ?_
          rintro e w7 ⟨rfl, he⟩
          obtain rfl := he.symm
          rw [HDD.out]
          go_wp2_with fail
          refine FIN.out.mono ?_
          rintro e w8 ⟨rfl, hb⟩
          have HBF := Lib.hid hb
          clear hb
          go_wp2_with fail
          go_ret
          exact ⟨rfl, HBF.out⟩
        · have b1 := bytes_ne hXo
          have b2 : ¬ old = X := fun e => hXo e.symm
          go_wp2_with fail
          refine C6.out.mono ?_
          rintro e w7 ⟨rfl, he⟩
          obtain rfl := he.symm
          rw [HDD.out]
          go_wp2_with fail
          refine FIN.out.mono ?_
          rintro e w8 ⟨rfl, hb⟩
          have HBF := Lib.hid hb
          clear hb
          go_wp2_with fail
          go_ret
          exact ⟨rfl, HBF.out⟩
end Go.Proofs.Ytijdgmbpkfmciaa.Fs
