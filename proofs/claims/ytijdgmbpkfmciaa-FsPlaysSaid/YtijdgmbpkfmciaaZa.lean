/- The file system: FsRenames: 'put' walked. -/
import Derived.Test.YtijdgmbpkfmciaaZ
namespace Go.Proofs.Ytijdgmbpkfmciaa.Fs
open Go.RowKit Go.Maps Go.ChangeMaps Go.WideMaps Go.Joins Go.Sort

theorem Next.trans {P n m : Nat} {w0 w w1 w2 : World} {g g1 g2 : Gh} {s1 s2 : St} (h : Next P n w0 w w1 g g1 s1) (h' : Next P m w0 w1 w2 g1 g2 s2) : Next P m w0 w w2 g g2 s2 :=
  ⟨h'.sys, h.turn.trans h'.turn h.sub, fun b hb => by
    rcases h'.sub b hb with e | e
    · exact h.sub b e
    · exact .inr (Nat.le_trans h.turn.size e), fun f hf => h'.ids f (h.ids f hf)⟩
theorem Next.mono {P n m : Nat} {w0 w w1 : World} {g g1 : Gh} {s1 : St} (h : Next P n w0 w w1 g g1 s1) (hn : n ≤ m) : Next P m w0 w w1 g g1 s1 :=
  ⟨h.sys.mono hn, h.turn, h.sub, h.ids⟩
/-- A slice beside it stands. -/
theorem Next.news {P n : Nat} {w0 w w1 : World} {g g1 : Gh} {s1 : St} (h : Next P n w0 w w1 g g1 s1) {v : Value} {bs : List UInt8} (hv : News w v (bs.map byteV)) (hl : bs ≠ [] → ∀ b ∈ blkOf v, Free w g b) : News w1 v (bs.map byteV) ∧ (bs ≠ [] → ∀ b ∈ blkOf v, Free w1 g1 b) :=
  ⟨hv.frame fun hx b hb => (h.free (hl (fun e => hx (by rw [e]; rfl)) b hb)).2, fun hx b hb => (h.free (hl hx b hb)).1⟩
theorem Next.cell {P n : Nat} {w0 w w1 : World} {g g1 : Gh} {s1 : St} (h : Next P n w0 w w1 g g1 s1) {b : Nat} {u : Value} (hc : w.cell? ⟨b, 0, none⟩ = some u) (hb : Free w g b) : w1.cell? ⟨b, 0, none⟩ = some u ∧ Free w1 g1 b :=
  ⟨(World.cell?_of_block (a := ⟨b, 0, none⟩) (h.free hb).2).trans hc, (h.free hb).1⟩

def PutPost (P n : Nat) (w0 w : World) (g : Gh) (s : St) (bs : List UInt8) (e : Ending) (w' : World) : Prop :=
  ∃ f g', f ∉ g.ids ∧ e = .returned (.int .i64 (putR s bs f).1) ∧ Next P (n + 2) w0 w w' g g' (putR s bs f).2

set_option maxHeartbeats 4000000 in
set_option maxRecDepth 100000 in
theorem put_any {P n : Nat} {w0 w : World} {g : Gh} {s : St} (h : Sys P n w0 w g s) (hn : n ≤ 100000) (cb : Nat) (hc : w.cell? ⟨cb, 0, none⟩ = some (.pointer (some ⟨P, 0, none⟩))) (hcb : Free w g cb) (v : Value) (bs : List UInt8)
    (hbs : bs.length ≤ 9223372036854775807) (hv : News w v (bs.map byteV)) (hvl : bs ≠ [] → ∀ b ∈ blkOf v, Free w g b) :
    Calls Try.prog 19 #[v, .pointer (some ⟨cb, 0, none⟩)] w (PutPost P n w0 w g s bs) := by
  have nt : nmT.size ≤ maxLen := by unfold maxLen; decide
  have ni : nmI.size ≤ maxLen := by unfold maxLen; decide
  obtain ⟨va, vc, hv0⟩ := hv.slice
  rw [List.length_map] at hv0
  subst hv0
  have C1 := Lib.hid (sys_create h (by omega) nmT nt)
  have HV := Lib.hid hv
  have HL := Lib.hid hvl
  clear hv hvl h
  go_enter Try.func19, Try.ntmps19
  go_wp2_with fail
  refine C1.out.mono ?_
  rintro e w1 ⟨rfl, f, g1, hf, -, HN⟩
  obtain ⟨k1, k2⟩ := HN.cell hc hcb
  obtain ⟨n1, n2⟩ := HN.news HV.out HL.out
  have HF := Lib.hid hf
  have H1 := Lib.hid HN
  have N1 := Lib.hid n1
  have N2 := Lib.hid n2
  have K2 := Lib.hid k2
  clear HN n1 n2 k2 hf hc hcb
  by_cases h1 : createE s nmT = 0
  · rw [h1]
    have e1 : put2 s bs f = (appendE (createS s nmT f) nmT bs.length, appendS (createS s nmT f) nmT bs) := by unfold put2; rw [if_pos (show (put1 s f).1 = 0 from h1)]; rfl
    have E1 := Lib.hid e1
    have C2 := Lib.hid (sys_append H1.out.sys (by omega) nmT nt (.slice va bs.length vc) bs hbs N1.out N2.out)
    clear e1 h1 C1
    go_wp2_with fail
    refine C2.out.mono ?_
    rintro e w2 ⟨rfl, g2, HN⟩
    obtain ⟨k3, k4⟩ := HN.cell k1 K2.out
    have H2 := Lib.hid (H1.out.trans HN)
    have K4 := Lib.hid k4
    clear HN k4 k1
    by_cases h2 : appendE (createS s nmT f) nmT bs.length = 0
    · rw [h2]
      have e2 : put3 s bs f = (syncE (appendS (createS s nmT f) nmT bs) nmT, syncS (appendS (createS s nmT f) nmT bs) nmT) := by unfold put3; rw [E1.out, if_pos h2]
      have E2 := Lib.hid e2
      have C3 := Lib.hid (sys_sync H2.out.sys nmT nt)
      clear e2 h2 C2
      go_wp2_with fail
      refine C3.out.mono ?_
      rintro e w3 ⟨rfl, g3, HN⟩
      obtain ⟨k5, k6⟩ := HN.cell k3 K4.out
      have H3 := Lib.hid (H2.out.trans HN)
      have K6 := Lib.hid k6
      clear HN k6 k3
      by_cases h3 : syncE (appendS (createS s nmT f) nmT bs) nmT = 0
      · rw [h3]
        have e3 : put4 s bs f = (renameE (syncS (appendS (createS s nmT f) nmT bs) nmT) nmT nmI, renameS (syncS (appendS (createS s nmT f) nmT bs) nmT) nmT nmI) := by unfold put4; rw [E2.out, if_pos h3]
        have E3 := Lib.hid e3
        have C4 := Lib.hid (sys_rename H3.out.sys (by omega) nmT nmI nt ni)
        clear e3 h3 C3
        go_wp2_with fail
        refine C4.out.mono ?_
        rintro e w4 ⟨rfl, g4, HN⟩
        obtain ⟨k7, k8⟩ := HN.cell k5 K6.out
        have H4 := Lib.hid (H3.out.trans HN)
        clear HN k8 k5
        by_cases h4 : renameE (syncS (appendS (createS s nmT f) nmT bs) nmT) nmT nmI = 0
        · rw [h4]
          have e4 : putR s bs f = (syncNamesE (renameS (syncS (appendS (createS s nmT f) nmT bs) nmT) nmT nmI), syncNamesS (renameS (syncS (appendS (createS s nmT f) nmT bs) nmT) nmT nmI)) := by unfold putR; rw [E3.out, if_pos h4]
          have E4 := Lib.hid e4
          have C5 := Lib.hid (sys_syncNames H4.out.sys)
          clear e4 h4 C4
          go_wp2_with fail
          refine C5.out.mono ?_
          rintro e w5 ⟨rfl, g5, HN⟩
          have H5 := Lib.hid (H4.out.trans HN)
          clear HN
          go_wp2_with fail
          go_ret
          exact ⟨f, g5, HF.out, by rw [E4.out]; rfl, by rw [E4.out]; exact H5.out⟩
        · have b4 : (renameE (syncS (appendS (createS s nmT f) nmT bs) nmT) nmT nmI == 0) = false := beq_eq_false_iff_ne.2 h4
          have e4 : putR s bs f = (renameE (syncS (appendS (createS s nmT f) nmT bs) nmT) nmT nmI, renameS (syncS (appendS (createS s nmT f) nmT bs) nmT) nmT nmI) := by unfold putR; rw [E3.out, if_neg h4]
          have E4 := Lib.hid e4
          clear e4 h4 C4
          go_wp2_with fail
          go_ret
          exact ⟨f, g4, HF.out, by rw [E4.out]; rfl, by rw [E4.out]; exact H4.out⟩
      · have b3 : (syncE (appendS (createS s nmT f) nmT bs) nmT == 0) = false := beq_eq_false_iff_ne.2 h3
        have e3 : put4 s bs f = put3 s bs f := by unfold put4; rw [E2.out, if_neg h3]
        have e4 : putR s bs f = (syncE (appendS (createS s nmT f) nmT bs) nmT, syncS (appendS (createS s nmT f) nmT bs) nmT) := by unfold putR; rw [e3, E2.out, if_neg h3]
        have E4 := Lib.hid e4
        clear e3 e4 h3 C3
        go_wp2_with fail
        go_ret
        exact ⟨f, g3, HF.out, by rw [E4.out]; rfl, by rw [E4.out]; exact H3.out.mono (by omega)⟩
    · have b2 : (appendE (createS s nmT f) nmT bs.length == 0) = false := beq_eq_false_iff_ne.2 h2
      have e2 : put3 s bs f = put2 s bs f := by unfold put3; rw [E1.out, if_neg h2]
      have e3 : put4 s bs f = put2 s bs f := by unfold put4; rw [e2, E1.out, if_neg h2]
      have e4 : putR s bs f = (appendE (createS s nmT f) nmT bs.length, appendS (createS s nmT f) nmT bs) := by unfold putR; rw [e3, E1.out, if_neg h2]
      have E4 := Lib.hid e4
      clear e2 e3 e4 h2 C2
      go_wp2_with fail
      go_ret
      exact ⟨f, g2, HF.out, by rw [E4.out]; rfl, by rw [E4.out]; exact H2.out.mono (by omega)⟩
  · have b1 : (createE s nmT == 0) = false := beq_eq_false_iff_ne.2 h1
    have e1 : put2 s bs f = put1 s f := by unfold put2; rw [if_neg (show (put1 s f).1 ≠ 0 from h1)]
    have e2 : put3 s bs f = put1 s f := by unfold put3; rw [e1, if_neg (show (put1 s f).1 ≠ 0 from h1)]
    have e3 : put4 s bs f = put1 s f := by unfold put4; rw [e2, if_neg (show (put1 s f).1 ≠ 0 from h1)]
    have e4 : putR s bs f = (createE s nmT, createS s nmT f) := by unfold putR; rw [e3, if_neg (show (put1 s f).1 ≠ 0 from h1)]; rfl
    have E4 := Lib.hid e4
    clear e1 e2 e3 e4 h1 C1
    go_wp2_with fail
    go_ret
    exact ⟨f, g1, HF.out, by rw [E4.out]; rfl, by rw [E4.out]; exact H1.out.mono (by omega)⟩
end Go.Proofs.Ytijdgmbpkfmciaa.Fs
