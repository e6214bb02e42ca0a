/- The document's file system: Create, Remove, Rename, Used, Sync, Append, Read, SyncNames, New. -/
import Derived.Test.YtijdgmbpkfmciaaMb
import Derived.Laws.Concat
/- The document's file system: Create, Remove, Rename. -/
namespace Go.Proofs.Ytijdgmbpkfmciaa.Fs
open Go.RowKit Go.Maps Go.ChangeMaps Go.WideMaps Go.Joins Go.Sort

/-- What is bounded. -/
structure RB (R : RS) (n : Nat) : Prop where
  now : R.now.length ≤ n
  wait : R.wait.length ≤ n
  files : R.files.length ≤ n
  f0 : -1 ≤ R.fuse
  f1 : R.fuse < 9223372036854775808
  ix : ∀ p ∈ R.now, p.2 < R.files.length
theorem RB.burned {R : RS} {n : Nat} (h : RB R n) : RB (rburned R) n := ⟨h.now, h.wait, h.files, burnF_lo h.f0, burnF_hi h.f1, h.ix⟩
theorem findR_lt : ∀ {l : List Pr} {s : ByteArray} {N : Nat}, (∀ p ∈ l, p.2 < N) → findR l s < N
  | [], _, _, _ => by show (-1 : Int) < _; omega
  | x :: l, s, N, h => by
    show (if x.1 = s then (x.2 : Int) else findR l s) < _
    split
    · have := h x List.mem_cons_self; omega
    · exact findR_lt fun p hp => h p (List.mem_cons_of_mem _ hp)
theorem named_dead {d : Bool} {l : List ByteArray} (h : d = true) : namedE d l = 50 := by unfold namedE; rw [h]; rfl
theorem named_bad {d : Bool} {s : ByteArray} (h : d = false) (ho : okN s = false) : namedE d [s] = 1 := by unfold namedE; rw [h]; simp [ho]
theorem named_good {d : Bool} {s : ByteArray} (h : d = false) (ho : okN s = true) : namedE d [s] = 0 := by unfold namedE; rw [h]; simp [ho]

set_option maxHeartbeats 4000000 in
set_option maxRecDepth 100000 in
theorem rcreate_any (r : RG) (R : RS) (s : ByteArray) (w : World) (h : RRep w r R) (hs : s.size ≤ 9223372036854775807) {n : Nat} (hB : RB R n) (hn : n ≤ 999000) :
    Calls Try.prog 43 #[.pointer (some ⟨r.p, 0, none⟩), .string s] w fun e w' => e = .returned (.int .i64 (rcreateE R s)) ∧ RLeft w w' r (rcreateS R s) := by
  obtain ⟨-, -, -, -, -, -, c6, -⟩ := r_cells h.cells
  have b1 := hB.now
  have b2 := hB.wait
  have b3 := hB.files
  have HSM := Lib.hid (RLeft.same h)
  have HB := Lib.hid hB
  have CN := Lib.hid (rname_any s hs w)
  have CF := Lib.hid (rfind_any r R s w h (by omega))
  have CU := Lib.hid (rburn_any r R w h hB.f0 hB.f1)
  have HR := Lib.hid h
  clear h
  cases hd : R.dead with
  | true =>
    rw [hd] at c6
    have e1 : rcreateE R s = 50 := by unfold rcreateE; rw [named_dead hd]; rfl
    have e2 : rcreateS R s = R := by unfold rcreateS; rw [named_dead hd]; simp
    rw [e1, e2]
    clear hd e1 e2
    go_enter Try.func43, Try.ntmps43
    go_wp2_with fail
    go_ret
    exact ⟨rfl, HSM.out⟩
  | false =>
    rw [hd] at c6
    cases ho : okN s with
    | false =>
      have e1 : rcreateE R s = 1 := by unfold rcreateE; rw [named_bad hd ho]; rfl
      have e2 : rcreateS R s = R := by unfold rcreateS; rw [named_bad hd ho]; simp
      rw [e1, e2]
      rw [ho] at CN
      clear hd ho e1 e2
      go_enter Try.func43, Try.ntmps43
      go_wp2_with fail
      refine CN.out.mono ?_
      rintro e w' ⟨rfl, he⟩
      obtain rfl := he.symm
      go_wp2_with fail
      go_ret
      exact ⟨rfl, HSM.out⟩
    | true =>
      rw [ho] at CN
      have HG := Lib.hid (named_good hd ho)
      have HD := Lib.hid hd
      clear hd ho
      by_cases hf : findR R.now s < 0
      · have HF := Lib.hid hf
        by_cases hz : R.fuse = 0
        · have e1 : rcreateE R s = 50 := by unfold rcreateE; rw [HG.out, if_pos rfl, if_pos hf]; simp [burnV, hz]
          have e2 : rcreateS R s = rburned R := by unfold rcreateS; rw [if_pos ⟨HG.out, hf⟩, if_pos hz]
          rw [e1, e2]
          rw [show (R.fuse == 0) = true by simp [hz]] at CU
          generalize findR R.now s = F at CF hf
          have hf2 : ¬ (0 : Int) ≤ F := by omega
          clear e1 e2 hz HF
          go_enter Try.func43, Try.ntmps43
          go_wp2_with fail
          refine CN.out.mono ?_
          rintro e w' ⟨rfl, he⟩
          obtain rfl := he.symm
          go_wp2_with fail
          refine CF.out.mono ?_
          rintro e w' ⟨rfl, he⟩
          obtain rfl := he.symm
          go_wp2_with fail
          refine CU.out.mono ?_
          rintro e w1 ⟨rfl, h1, ht⟩
          have HL := Lib.hid (rleft_own h1 ht)
          clear h1 ht
          go_wp2_with fail
          go_ret
          exact ⟨rfl, HL.out⟩
        · have e1 : rcreateE R s = 0 := by unfold rcreateE; rw [HG.out, if_pos rfl, if_pos hf]; simp [burnV, hz]
          have e2 : rcreateS R s = rchange { rburned R with files := R.files ++ [(noName, 0)] } (s, noName, (R.files.length : Int)) := by unfold rcreateS; rw [if_pos ⟨HG.out, hf⟩, if_neg hz]
          rw [e1, e2]
          rw [show (R.fuse == 0) = false by simp [hz]] at CU
          generalize findR R.now s = F at CF hf
          have hf2 : ¬ (0 : Int) ≤ F := by omega
          obtain ⟨fa, fc, hfv⟩ := owned_slice HR.out.fl
          obtain ⟨i0, hi, hz0, hz1, hz2⟩ := info_parts info105
          clear e1 e2 hz HF
          go_enter Try.func43, Try.ntmps43
          go_wp2_with fail
          refine CN.out.mono ?_
          rintro e w' ⟨rfl, he⟩
          obtain rfl := he.symm
          go_wp2_with fail
          refine CF.out.mono ?_
          rintro e w' ⟨rfl, he⟩
          obtain rfl := he.symm
          go_wp2_with fail
          refine CU.out.mono ?_
          rintro e w1 ⟨rfl, h1, ht⟩
          obtain ⟨-, k1, -, -, -, -, -, kz⟩ := r_cells h1.cells
          rw [hfv] at k1
          have hrow : w1.ownsRow 0 105 2 (.slice fa R.files.length fc) R.files.length (R.files.flatMap prC) := hfv ▸ h1.fl
          have hpw : ∀ b, some b = (Value.slice fa R.files.length fc).ownBlock → b ≠ r.p := fun b hb e => by
            have := (rparts h1).1
            rw [hfv] at this
            apply this
            unfold blkOf
            rw [← hb, e]; simp
          have hpl := rchange_cells h1
          have H1 := Lib.hid h1
          have HT := Lib.hid ht
          clear h1 ht
          go_wp2_with (first | (at_builtin; refine wpList_append_own_at _ rfl (.tmp 27) (.tmp 29) 86 rfl 0 105 i0 (.agg #[.string ⟨#[]⟩, .int .i64 0]) 2 24 Try.underlying86 hi hz0 hz1 hz2 rfl (by decide) (.slice fa R.files.length fc) R.files.length (R.files.flatMap prC) rfl (hrow.alloc _) ⟨w1.heap.size, 0, none⟩ 1 1 [.string ⟨#[]⟩, .int .i64 0] rfl rfl (cells_new w1 [.string ⟨#[]⟩, .int .i64 0] 105) (one_pr (⟨#[]⟩, 0)) (by unfold maxLen; omega) (by omega) (Nat.zero_le _) ?_; intro v' w4 hown' hgrow hnil hloc; obtain ⟨xa, xc, rfl⟩ := owned_slice hown'; have kf4 := frozen_grown hgrow (by omega) hpw kz; have kc4 := cell_grown hgrow (by omega) hpw k1; clear hnil))
          have hloc2 : ∀ b ∈ blkOf (.slice xa (R.files.length + 1) xc), b ∈ blkOf r.fv ∨ w1.heap.size ≤ b := fun b hb => by
            have mb : ∀ (u : Value) b, some b = u.ownBlock ↔ b ∈ blkOf u := fun u b => by unfold blkOf; cases u.ownBlock <;> simp [eq_comm]
            rcases hloc with e | e
            · exact .inl (by rw [hfv]; exact (mb _ b).1 (by rw [← e]; exact (mb _ b).2 hb))
            · have := (mb _ b).2 hb
              rw [e] at this
              have : b = (w1.alloc (.cells #[.string ⟨#[]⟩, .int .i64 0] 105)).heap.size := by simpa using this
              right; simp at this; omega
          have h8 := rrep_file (c := (noName, 0)) H1.out ((Below.refl w1.heap.size w1).alloc (Nat.le_refl _) (.cells #[.string ⟨#[]⟩, .int .i64 0] 105)) hown' (by rw [hfv]; exact hgrow) hloc2
          refine (rchange_any _ _ (s, noName, (R.files.length : Int)) _ h8.1 (by show R.now.length ≤ _; omega) (by show R.wait.length ≤ _; omega) (by show -9223372036854775808 ≤ (R.files.length : Int) ∧ (R.files.length : Int) < _; omega)).mono ?_
          rintro e w6 ⟨rfl, hl6⟩
          have HL := Lib.hid (RLeft.of (r := r) (r1 := r) rfl (HT.out.mono (fun b hb => .inl (by
            have : b = r.p := by simpa using hb
            exact mem_rfoot.2 (.inl this)))) (fun b hb => .inl hb) (RLeft.of (r := r) (r1 := { r with fv := .slice xa (R.files.length + 1) xc }) rfl h8.2.1 h8.2.2 hl6))
          clear h8 hl6
          go_wp2_with fail
          go_ret
          exact ⟨rfl, HL.out⟩
      · have e1 : rcreateE R s = 64 := by unfold rcreateE; rw [HG.out, if_pos rfl, if_neg hf]
        have e2 : rcreateS R s = R := by unfold rcreateS; rw [if_neg (fun x => hf x.2)]
        rw [e1, e2]
        generalize findR R.now s = F at CF hf
        have hf2 : (0 : Int) ≤ F := by omega
        clear e1 e2
        go_enter Try.func43, Try.ntmps43
        go_wp2_with fail
        refine CN.out.mono ?_
        rintro e w' ⟨rfl, he⟩
        obtain rfl := he.symm
        go_wp2_with fail
        refine CF.out.mono ?_
        rintro e w' ⟨rfl, he⟩
        obtain rfl := he.symm
        go_wp2_with fail
        go_ret
        exact ⟨rfl, HSM.out⟩
end Go.Proofs.Ytijdgmbpkfmciaa.Fs

/- The document's file system: Remove, Rename. -/
namespace Go.Proofs.Ytijdgmbpkfmciaa.Fs
open Go.RowKit Go.Maps Go.ChangeMaps Go.WideMaps Go.Joins Go.Sort

theorem rof_dead {R : RS} {s : ByteArray} (h : R.dead = true) : rofE R s = 50 := by unfold rofE; rw [named_dead h]; rfl
theorem rof_bad {R : RS} {s : ByteArray} (h : R.dead = false) (ho : okN s = false) : rofE R s = 1 := by unfold rofE; rw [named_bad h ho]; rfl
theorem rof_none {R : RS} {s : ByteArray} (h : R.dead = false) (ho : okN s = true) (hf : findR R.now s < 0) : rofE R s = 61 := by unfold rofE; rw [named_good h ho, if_pos rfl, if_pos hf]
theorem rof_there {R : RS} {s : ByteArray} (h : R.dead = false) (ho : okN s = true) (hf : ¬ findR R.now s < 0) : rofE R s = 0 := by unfold rofE; rw [named_good h ho, if_pos rfl, if_neg hf]
theorem own_mem {r : RG} : ∀ b ∈ [r.p], b ∈ rfoot r := fun b hb => by
  have : b = r.p := by simpa using hb
  exact mem_rfoot.2 (.inl this)

set_option maxHeartbeats 4000000 in
set_option maxRecDepth 100000 in
theorem rremove_any (r : RG) (R : RS) (s : ByteArray) (w : World) (h : RRep w r R) (hs : s.size ≤ 9223372036854775807) {n : Nat} (hB : RB R n) (hn : n ≤ 999000) :
    Calls Try.prog 48 #[.pointer (some ⟨r.p, 0, none⟩), .string s] w fun e w' => e = .returned (.int .i64 (rremoveE R s)) ∧ RLeft w w' r (rremoveS R s) := by
  obtain ⟨-, -, -, -, -, -, c6, -⟩ := r_cells h.cells
  have b1 := hB.now
  have b2 := hB.wait
  have HSM := Lib.hid (RLeft.same h)
  have CN := Lib.hid (rname_any s hs w)
  have CF := Lib.hid (rfind_any r R s w h (by omega))
  have CU := Lib.hid (rburn_any r R w h hB.f0 hB.f1)
  have HR := Lib.hid h
  clear h
  cases hd : R.dead with
  | true =>
    rw [hd] at c6
    have e0 := rof_dead (s := s) hd
    have e1 : rremoveE R s = 50 := by unfold rremoveE; rw [e0]; rfl
    have e2 : rremoveS R s = R := by unfold rremoveS; rw [e0]; rfl
    rw [e1, e2]
    clear hd e0 e1 e2
    go_enter Try.func48, Try.ntmps48
    go_wp2_with fail
    go_ret
    exact ⟨rfl, HSM.out⟩
  | false =>
    rw [hd] at c6
    cases ho : okN s with
    | false =>
      have e0 := rof_bad hd ho
      have e1 : rremoveE R s = 1 := by unfold rremoveE; rw [e0]; rfl
      have e2 : rremoveS R s = R := by unfold rremoveS; rw [e0]; rfl
      rw [e1, e2]
      rw [ho] at CN
      clear hd ho e0 e1 e2
      go_enter Try.func48, Try.ntmps48
      go_wp2_with fail
      refine CN.out.mono ?_
      rintro e w' ⟨rfl, he⟩
      obtain rfl := he.symm
      go_wp2_with fail
      go_ret
      exact ⟨rfl, HSM.out⟩
    | true =>
      rw [ho] at CN
      by_cases hf : findR R.now s < 0
      · have e0 := rof_none hd ho hf
        have e1 : rremoveE R s = 61 := by unfold rremoveE; rw [e0]; rfl
        have e2 : rremoveS R s = R := by unfold rremoveS; rw [e0]; rfl
        rw [e1, e2]
        clear hd ho e0 e1 e2
        generalize findR R.now s = F at CF hf
        go_enter Try.func48, Try.ntmps48
        go_wp2_with fail
        refine CN.out.mono ?_
        rintro e w' ⟨rfl, he⟩
        obtain rfl := he.symm
        go_wp2_with fail
        refine CF.out.mono ?_
        rintro e w' ⟨rfl, he⟩
        obtain rfl := he.symm
        go_wp2_with fail
        go_ret
        exact ⟨rfl, HSM.out⟩
      · have e0 := rof_there hd ho hf
        by_cases hz : R.fuse = 0
        · have e1 : rremoveE R s = 50 := by unfold rremoveE; rw [e0, if_pos rfl]; simp [burnV, hz]
          have e2 : rremoveS R s = rburned R := by unfold rremoveS; rw [e0, if_pos rfl, if_pos hz]
          rw [e1, e2]
          rw [show (R.fuse == 0) = true by simp [hz]] at CU
          generalize findR R.now s = F at CF hf
          clear hd ho e0 e1 e2 hz
          go_enter Try.func48, Try.ntmps48
          go_wp2_with fail
          refine CN.out.mono ?_
          rintro e w' ⟨rfl, he⟩
          obtain rfl := he.symm
          go_wp2_with fail
          refine CF.out.mono ?_
          rintro e w' ⟨rfl, he⟩
          obtain rfl := he.symm
          go_wp2_with fail
          refine CU.out.mono ?_
          rintro e w1 ⟨rfl, h1, ht⟩
          have HL := Lib.hid (rleft_own h1 ht)
          clear h1 ht
          go_wp2_with fail
          go_ret
          exact ⟨rfl, HL.out⟩
        · have e1 : rremoveE R s = 0 := by unfold rremoveE; rw [e0, if_pos rfl]; simp [burnV, hz]
          have e2 : rremoveS R s = rchange (rburned R) (s, noName, -1) := by unfold rremoveS; rw [e0, if_pos rfl, if_neg hz]
          rw [e1, e2]
          rw [show (R.fuse == 0) = false by simp [hz]] at CU
          generalize findR R.now s = F at CF hf
          clear hd ho e0 e1 e2 hz
          go_enter Try.func48, Try.ntmps48
          go_wp2_with fail
          refine CN.out.mono ?_
          rintro e w' ⟨rfl, he⟩
          obtain rfl := he.symm
          go_wp2_with fail
          refine CF.out.mono ?_
          rintro e w' ⟨rfl, he⟩
          obtain rfl := he.symm
          go_wp2_with fail
          refine CU.out.mono ?_
          rintro e w1 ⟨rfl, h1, ht⟩
          have CC := Lib.hid (rchange_any r (rburned R) (s, noName, -1) w1 h1 (by show R.now.length ≤ _; omega) (by show R.wait.length ≤ _; omega) (by show -9223372036854775808 ≤ (-1 : Int) ∧ (-1 : Int) < _; omega))
          have HT := Lib.hid ht
          clear h1 ht
          go_wp2_with fail
          refine CC.out.mono ?_
          rintro e w6 ⟨rfl, hl6⟩
          have HL := Lib.hid (RLeft.of (r := r) (r1 := r) rfl (HT.out.mono (fun b hb => .inl (own_mem b hb))) (fun b hb => .inl hb) hl6)
          clear hl6
          go_wp2_with fail
          go_ret
          exact ⟨rfl, HL.out⟩

set_option maxHeartbeats 4000000 in
set_option maxRecDepth 100000 in
theorem rrename_any (r : RG) (R : RS) (a b : ByteArray) (w : World) (h : RRep w r R) (ha : a.size ≤ 9223372036854775807) (hb : b.size ≤ 9223372036854775807) {n : Nat} (hB : RB R n) (hn : n ≤ 999000) :
    Calls Try.prog 47 #[.pointer (some ⟨r.p, 0, none⟩), .string a, .string b] w fun e w' => e = .returned (.int .i64 (rrenameE R a b)) ∧ RLeft w w' r (rrenameS R a b) := by
  obtain ⟨-, -, -, -, -, -, c6, -⟩ := r_cells h.cells
  have b1 := hB.now
  have b2 := hB.wait
  have hlo := findR_ge R.now a
  have HSM := Lib.hid (RLeft.same h)
  have CN := Lib.hid (rname_any a ha w)
  have CM := Lib.hid (rname_any b hb w)
  have CF := Lib.hid (rfind_any r R a w h (by omega))
  have CU := Lib.hid (rburn_any r R w h hB.f0 hB.f1)
  have HR := Lib.hid h
  clear h
  cases hd : R.dead with
  | true =>
    rw [hd] at c6
    have e0 := named_dead (l := [a, b]) hd
    have e1 : rrenameE R a b = 50 := by unfold rrenameE; rw [e0]; rfl
    have e2 : rrenameS R a b = R := by unfold rrenameS; rw [e0]; rfl
    rw [e1, e2]
    clear hd e0 e1 e2
    go_enter Try.func47, Try.ntmps47
    go_wp2_with fail
    go_ret
    exact ⟨rfl, HSM.out⟩
  | false =>
    rw [hd] at c6
    cases ho : okN a with
    | false =>
      have e0 : namedE R.dead [a, b] = 1 := by unfold namedE; rw [hd]; simp [ho]
      have e1 : rrenameE R a b = 1 := by unfold rrenameE; rw [e0]; rfl
      have e2 : rrenameS R a b = R := by unfold rrenameS; rw [e0]; rfl
      rw [e1, e2]
      rw [ho] at CN
      clear hd ho e0 e1 e2
      go_enter Try.func47, Try.ntmps47
      go_wp2_with fail
      refine CN.out.mono ?_
      rintro e w' ⟨rfl, he⟩
      obtain rfl := he.symm
      go_wp2_with fail
      go_ret
      exact ⟨rfl, HSM.out⟩
    | true =>
      rw [ho] at CN
      cases ho2 : okN b with
      | false =>
        have e0 : namedE R.dead [a, b] = 1 := by unfold namedE; rw [hd]; simp [ho, ho2]
        have e1 : rrenameE R a b = 1 := by unfold rrenameE; rw [e0]; rfl
        have e2 : rrenameS R a b = R := by unfold rrenameS; rw [e0]; rfl
        rw [e1, e2]
        rw [ho2] at CM
        clear hd ho ho2 e0 e1 e2
        go_enter Try.func47, Try.ntmps47
        go_wp2_with fail
        refine CN.out.mono ?_
        rintro e w' ⟨rfl, he⟩
        obtain rfl := he.symm
        go_wp2_with fail
        refine CM.out.mono ?_
        rintro e w' ⟨rfl, he⟩
        obtain rfl := he.symm
        go_wp2_with fail
        go_ret
        exact ⟨rfl, HSM.out⟩
      | true =>
        rw [ho2] at CM
        have e0 : namedE R.dead [a, b] = 0 := by unfold namedE; rw [hd]; simp [ho, ho2]
        by_cases hf : findR R.now a < 0
        · have e1 : rrenameE R a b = 61 := by unfold rrenameE; rw [e0, if_pos rfl, if_pos hf]
          have e2 : rrenameS R a b = R := by unfold rrenameS; rw [e0, if_pos rfl, if_pos hf]
          rw [e1, e2]
          clear hd ho ho2 e0 e1 e2
          generalize findR R.now a = F at CF hf hlo
          go_enter Try.func47, Try.ntmps47
          go_wp2_with fail
          refine CN.out.mono ?_
          rintro e w' ⟨rfl, he⟩
          obtain rfl := he.symm
          go_wp2_with fail
          refine CM.out.mono ?_
          rintro e w' ⟨rfl, he⟩
          obtain rfl := he.symm
          go_wp2_with fail
          refine CF.out.mono ?_
          rintro e w' ⟨rfl, he⟩
          obtain rfl := he.symm
          go_wp2_with fail
          go_ret
          exact ⟨rfl, HSM.out⟩
        · by_cases hz : R.fuse = 0
          · have e1 : rrenameE R a b = 50 := by unfold rrenameE; rw [e0, if_pos rfl, if_neg hf]; simp [burnV, hz]
            have e2 : rrenameS R a b = rburned R := by unfold rrenameS; rw [e0, if_pos rfl, if_neg hf, if_pos hz]
            rw [e1, e2]
            rw [show (R.fuse == 0) = true by simp [hz]] at CU
            generalize findR R.now a = F at CF hf hlo
            clear hd ho ho2 e0 e1 e2 hz
            go_enter Try.func47, Try.ntmps47
            go_wp2_with fail
            refine CN.out.mono ?_
            rintro e w' ⟨rfl, he⟩
            obtain rfl := he.symm
            go_wp2_with fail
            refine CM.out.mono ?_
            rintro e w' ⟨rfl, he⟩
            obtain rfl := he.symm
            go_wp2_with fail
            refine CF.out.mono ?_
            rintro e w' ⟨rfl, he⟩
            obtain rfl := he.symm
            go_wp2_with fail
            refine CU.out.mono ?_
            rintro e w1 ⟨rfl, h1, ht⟩
            have HL := Lib.hid (rleft_own h1 ht)
            clear h1 ht
            go_wp2_with fail
            go_ret
            exact ⟨rfl, HL.out⟩
          · have e1 : rrenameE R a b = 0 := by unfold rrenameE; rw [e0, if_pos rfl, if_neg hf]; simp [burnV, hz]
            by_cases hab : a = b
            · have e2 : rrenameS R a b = rburned R := by unfold rrenameS; rw [e0, if_pos rfl, if_neg hf, if_neg hz, if_pos hab]
              rw [e1, e2]
              rw [show (R.fuse == 0) = false by simp [hz]] at CU
              generalize findR R.now a = F at CF hf hlo
              have hq : (a.toList == b.toList) = true := by rw [hab]; simp
              clear hd ho ho2 e0 e1 e2 hz hab
              go_enter Try.func47, Try.ntmps47
              go_wp2_with fail
              refine CN.out.mono ?_
              rintro e w' ⟨rfl, he⟩
              obtain rfl := he.symm
              go_wp2_with fail
              refine CM.out.mono ?_
              rintro e w' ⟨rfl, he⟩
              obtain rfl := he.symm
              go_wp2_with fail
              refine CF.out.mono ?_
              rintro e w' ⟨rfl, he⟩
              obtain rfl := he.symm
              go_wp2_with fail
              refine CU.out.mono ?_
              rintro e w1 ⟨rfl, h1, ht⟩
              have HL := Lib.hid (rleft_own h1 ht)
              clear h1 ht
              go_wp2_with fail
              go_ret
              exact ⟨rfl, HL.out⟩
            · have e2 : rrenameS R a b = rchange (rburned R) (b, a, findR R.now a) := by unfold rrenameS; rw [e0, if_pos rfl, if_neg hf, if_neg hz, if_neg hab]
              rw [e1, e2]
              rw [show (R.fuse == 0) = false by simp [hz]] at CU
              have hhi : findR R.now a < 9223372036854775808 := by have h1 := findR_lt (s := a) hB.ix; have h2 := hB.files; omega
              have HFB : Hid (findR (rburned R).now a = findR R.now a) := Lib.hid rfl
              have hq : (a.toList == b.toList) = false := beq_eq_false_iff_ne.2 fun e => hab (toList_inj e)
              clear hd ho ho2 e0 e1 e2 hz hab
              generalize hFF : findR R.now a = F at CF hf hlo hhi HFB
              clear hFF
              go_enter Try.func47, Try.ntmps47
              go_wp2_with fail
              refine CN.out.mono ?_
              rintro e w' ⟨rfl, he⟩
              obtain rfl := he.symm
              go_wp2_with fail
              refine CM.out.mono ?_
              rintro e w' ⟨rfl, he⟩
              obtain rfl := he.symm
              go_wp2_with fail
              refine CF.out.mono ?_
              rintro e w' ⟨rfl, he⟩
              obtain rfl := he.symm
              go_wp2_with fail
              refine CU.out.mono ?_
              rintro e w1 ⟨rfl, h1, ht⟩
              have CF2 := Lib.hid (rfind_any r (rburned R) a w1 h1 (by show R.now.length ≤ _; omega))
              rw [HFB.out] at CF2
              have CC := Lib.hid (rchange_any r (rburned R) (b, a, F) w1 h1 (by show R.now.length ≤ _; omega) (by show R.wait.length ≤ _; omega) ⟨by show -9223372036854775808 ≤ F; omega, hhi⟩)
              have HT := Lib.hid ht
              clear h1 ht
              go_wp2_with fail
              refine CF2.out.mono ?_
              rintro e w' ⟨rfl, he⟩
              obtain rfl := he.symm
              go_wp2_with fail
              refine CC.out.mono ?_
              rintro e w6 ⟨rfl, hl6⟩
              have HL := Lib.hid (RLeft.of (r := r) (r1 := r) rfl (HT.out.mono (fun b hb => .inl (own_mem b hb))) (fun b hb => .inl hb) hl6)
              clear hl6
              go_wp2_with fail
              go_ret
              exact ⟨rfl, HL.out⟩
end Go.Proofs.Ytijdgmbpkfmciaa.Fs

/- The document's file system: one file turns; Used; SyncNames; New. -/
namespace Go.Proofs.Ytijdgmbpkfmciaa.Fs
open Go.RowKit Go.Maps Go.ChangeMaps Go.WideMaps Go.Joins Go.Sort

theorem set_prC : ∀ (l : List Pr) (i j : Nat) (u : Value) (y : Pr) (hi : i < l.length), j < 2 → prC y = (prC (l[i]'hi)).set j u → (l.set i y).flatMap prC = (l.flatMap prC).set (i * 2 + j) u
  | [], _, _, _, _, hi, _, _ => absurd hi (by simp)
  | x :: l, 0, j, u, y, _, hj, h => by
    have h' : prC y = (prC x).set j u := h
    have e1 : ((x :: l).set 0 y).flatMap prC = prC y ++ l.flatMap prC := rfl
    have e2 : (x :: l).flatMap prC = prC x ++ l.flatMap prC := rfl
    rw [e1, e2, h', Nat.zero_mul, Nat.zero_add, List.set_append_left _ _ (by simp [prC]; exact hj)]
  | x :: l, i + 1, j, u, y, hi, hj, h => by
    have ih := set_prC l i j u y (by simpa using hi) hj h
    have e1 : ((x :: l).set (i + 1) y).flatMap prC = prC x ++ (l.set i y).flatMap prC := rfl
    have e2 : (x :: l).flatMap prC = prC x ++ l.flatMap prC := rfl
    rw [e1, e2, ih, List.set_append_right _ _ (by simp [prC]; omega)]
    congr 2
    simp [prC]
    omega
theorem rrep_set {w : World} {r : RG} {R : RS} (h : RRep w r R) {i fb : Nat} {fc : Nat} (hi : i < R.files.length) (hfv : r.fv = .slice (some ⟨fb, 0, none⟩) R.files.length fc) {j : Nat} (hj : j < 2) (u : Value) (y : Pr) (hy : prC y = (prC (R.files[i]'hi)).set j u) :
    RRep (w.setCell ⟨fb, i * 2 + j, none⟩ u) r { R with files := R.files.set i y } ∧ Turn w (w.setCell ⟨fb, i * 2 + j, none⟩ u) (rfoot r) := by
  have hT := turn_set w fb (i * 2 + j) u
  have hfm : fb ∈ blkOf r.fv := by rw [hfv]; simp [blkOf, Value.ownBlock]
  have hne : ∀ {v : Value}, fb ∉ blkOf v → ∀ b ∈ blkOf v, b ∉ [fb] := fun {v} hv b hb hm => by
    have : b = fb := by simpa using hm
    exact hv (this ▸ hb)
  have a2 := h.a2 fb hfm
  obtain ⟨p1, p2, p3, p4⟩ := rparts h
  refine ⟨⟨?_, ?_, owned_frame h.nw fun b hb => hT.block b (owned_lt h.nw b hb) (hne a2.2.1 b hb), owned_frame h.ls fun b hb => hT.block b (owned_lt h.ls b hb) (hne a2.2.2 b hb), owned_frame h.wt fun b hb => hT.block b (owned_lt h.wt b hb) (hne a2.1 b hb), h.a1, h.a2, h.a3⟩, hT.mono (fun b hb => .inl ?_)⟩
  · have hpf : r.p ≠ fb := fun e => p1 (e ▸ hfm)
    exact (hT.block r.p (rchange_cells h) (by simpa using hpf)).trans h.cells
  · obtain ⟨h0, hrow⟩ := h.fl
    rcases hrow with ⟨e1, e2⟩ | ⟨g, cap, cur, e1, e2, e3, e4, e5, e6, e7⟩
    · omega
    · rw [hfv] at e1
      simp only [Value.slice.injEq, Option.some.injEq, Addr.mk.injEq, and_true, true_and] at e1
      obtain ⟨rfl, rfl⟩ := e1
      refine ⟨?_, .inr ⟨fb, fc, _, hfv.trans (by simp), e2, block_setCell e3 u, by simpa using e4, e5, by simp [e6], ?_⟩⟩
      · rw [len_prC]
      · show (cur.setIfInBounds (i * 2 + j) u).toList.take ((R.files.set i y).length * 2) = (R.files.set i y).flatMap prC
        rw [set_prC R.files i j u y hi hj hy, ← e7, Array.toList_setIfInBounds, List.length_set, List.take_set]
  · have : b = fb := by simpa using hb
    rw [this]
    exact mem_rfoot.2 (.inr (.inl hfm))

theorem rfile_at {R : RS} {s : ByteArray} {i : Nat} (hf : findR R.now s = (i : Nat)) (hi : i < R.files.length) : rfile R s = R.files[i]'hi := by
  unfold rfile
  rw [hf, Int.toNat_natCast, List.getD_eq_getElem?_getD, List.getElem?_eq_getElem hi]; rfl
theorem findR_nat {l : List Pr} {s : ByteArray} {N : Nat} (h : ∀ p ∈ l, p.2 < N) (hf : ¬ findR l s < 0) : ∃ i : Nat, findR l s = (i : Nat) ∧ i < N := by
  obtain ⟨i, hi⟩ := Int.eq_ofNat_of_zero_le (by omega : 0 ≤ findR l s)
  exact ⟨i, hi, by have := findR_lt (s := s) h; omega⟩

def szAt (R : RS) (p : Pr) : Nat := (R.files.getD p.2 (noName, 0)).1.size
theorem sum_bound (f : Pr → Nat) (m : Nat) : ∀ l : List Pr, (∀ p ∈ l, f p ≤ m) → (l.map f).sum ≤ l.length * m
  | [], _ => by simp
  | x :: l, h => by
    have ih := sum_bound f m l fun p hp => h p (List.mem_cons_of_mem _ hp)
    have := h x List.mem_cons_self
    simp only [List.map_cons, List.sum_cons, List.length_cons, Nat.succ_mul]
    omega
theorem drewN_cell (w : World) (m : Nat) (a : Addr) : (w.drewN m).cell? a = w.cell? a := rfl
set_option maxHeartbeats 4000000 in
set_option maxRecDepth 100000 in
theorem rused_any (r : RG) (R : RS) (w : World) (h : RRep w r R) (hn : R.now.length ≤ 1000000) (hix : ∀ p ∈ R.now, p.2 < R.files.length) (hfl : R.files.length ≤ 1000000) (hsz : ∀ y ∈ R.files, y.1.size ≤ 16777216) :
    Calls Try.prog 51 #[.pointer (some ⟨r.p, 0, none⟩)] w fun e w' => e = .returned (.int .i64 (rused R : Nat)) ∧ ∃ m, w' = w.drewN m := by
  obtain ⟨-, c1, c2, -⟩ := r_cells h.cells
  obtain ⟨fa, fc, hfv⟩ := owned_slice h.fl
  obtain ⟨na, nc, hnv⟩ := owned_slice h.nw
  rw [hfv] at c1
  rw [hnv] at c2
  have HF := Lib.hid (hfv ▸ h.fl : w.ownsRow 0 105 2 (.slice fa R.files.length fc) R.files.length (R.files.flatMap prC))
  have HN := Lib.hid (hnv ▸ h.nw : w.ownsRow 0 96 2 (.slice na R.now.length nc) R.now.length (R.now.flatMap prC))
  have hszA : ∀ p ∈ R.now, szAt R p ≤ 16777216 := fun p hp => by
    unfold szAt
    rw [List.getD_eq_getElem?_getD, List.getElem?_eq_getElem (hix p hp)]
    exact hsz _ (List.getElem_mem _)
  have HIX := Lib.hid hix
  have HSZ := Lib.hid hszA
  have HU := Lib.hid (show rused R = (R.now.map (szAt R)).sum from rfl)
  clear h hfv hnv hix hszA hsz
  go_enter Try.func51, Try.ntmps51
  go_wp2_with fail
  go_loopw [3, 4] (fun nv i wr => ∃ k : Nat, k ≤ R.now.length ∧ i = .int .i64 k ∧ nv = .int .i64 (((R.now.take k).map (szAt R)).sum : Nat) ∧ Hid (∃ m, wr = w.drewN m)) (fun _ i _ => R.now.length - (RowKit.intOf i).toNat)
  case atStart => exact ⟨0, Nat.zero_le _, rfl, rfl, Lib.hid ⟨0, rfl⟩⟩
  case round =>
    obtain ⟨k, hk, rfl, rfl, HW⟩ := hrel
    have k1 : wr.cell? ⟨r.p, 1, none⟩ = some (.slice fa R.files.length fc) := by obtain ⟨m, e⟩ := HW.out; rw [e]; exact c1
    have k2 : wr.cell? ⟨r.p, 2, none⟩ = some (.slice na R.now.length nc) := by obtain ⟨m, e⟩ := HW.out; rw [e]; exact c2
    clear c1 c2
    by_cases hlt : k < R.now.length
    · have s1 : (k : Int) < (R.now.length : Int) := by omega
      obtain ⟨nb, rfl, hcap, q0, q1, -, -⟩ := pr_cell HN.out hlt
      have hj := HIX.out _ (List.getElem_mem hlt)
      obtain ⟨fb, rfl, hfcap, f0, -, -, -⟩ := pr_cell HF.out hj
      have q1' : wr.cell? ⟨nb, k * 2 + 1, none⟩ = some (.int .i64 (R.now[k]'hlt).2) := by obtain ⟨m, e⟩ := HW.out; rw [e]; exact q1
      have f0' : wr.cell? ⟨fb, (R.now[k]'hlt).2 * 2, none⟩ = some (.string (R.files[(R.now[k]'hlt).2]'hj).1) := by obtain ⟨m, e⟩ := HW.out; rw [e]; exact f0
      have hnext : ((R.now.take (k + 1)).map (szAt R)).sum = ((R.now.take k).map (szAt R)).sum + (R.files[(R.now[k]'hlt).2]'hj).1.size := by
        rw [List.take_add_one, List.getElem?_eq_getElem hlt, List.map_append, List.sum_append]
        simp only [Option.toList, List.map_cons, List.map_nil, List.sum_cons, List.sum_nil, Nat.add_zero]
        congr 1
        unfold szAt
        rw [List.getD_eq_getElem?_getD, List.getElem?_eq_getElem hj]; rfl
      have hb1 := sum_bound (szAt R) 16777216 (R.now.take (k + 1)) fun p hp => HSZ.out p (List.mem_of_mem_take hp)
      have hl1 : (R.now.take (k + 1)).length ≤ 1000000 := Nat.le_trans (List.length_take_le ..) (by omega)
      have hmul : (R.now.take (k + 1)).length * 16777216 ≤ 1000000 * 16777216 := Nat.mul_le_mul_right _ hl1
      rw [hnext] at hb1
      have HNX := Lib.hid hnext
      have hbb : ((R.now.take k).map (szAt R)).sum + (R.files[(R.now[k]'hlt).2]'hj).1.size ≤ 16777216000000 := by omega
      clear q0 q1 f0 hnext hb1 hl1 hmul
      generalize (R.files[(R.now[k]'hlt).2]'hj).1 = x at f0' HNX hbb
      generalize (R.now[k]'hlt).2 = j at q1' f0' hj
      generalize ((R.now.take k).map (szAt R)).sum = S at HNX hbb ⊢
      have j1 : (0 : Int) ≤ (j : Int) := by omega
      have j2 : (j : Int) < (R.files.length : Int) := by omega
      have hw1 : IntKind.i64.wrap ((S : Int) + (x.size : Int)) = (S : Int) + (x.size : Int) := IntWalk.i64_in _ (by omega)
      go_wp2_with fail
      go_quiet (fail)
      go_wp2_with fail
      go_roundw
      case measure => simp [RowKit.intOf]; omega
      case rel => exact ⟨k + 1, by omega, by go_num, by rw [HNX.out]; go_num, Lib.hid (by obtain ⟨m, e⟩ := HW.out; exact ⟨m + nq, by rw [e]; exact World.drewN_drewN _ _ _⟩)⟩
    · have s1 : ¬ (k : Int) < (R.now.length : Int) := by omega
      obtain rfl : k = R.now.length := by omega
      go_wp2_with fail
      go_ret
      exact ⟨by rw [HU.out]; rfl, HW.out⟩
end Go.Proofs.Ytijdgmbpkfmciaa.Fs

/- The document's file system: Sync, Append, Read, SyncNames, New. -/
namespace Go.Proofs.Ytijdgmbpkfmciaa.Fs
open Go.RowKit Go.Maps Go.ChangeMaps Go.WideMaps Go.Joins Go.Sort
theorem RLeft.drewN {w w' : World} {r : RG} {R : RS} (h : RLeft w w' r R) (m : Nat) : RLeft w (w'.drewN m) r R := h.below_after ⟨rfl, rfl, rfl, Nat.le_refl _, fun _ _ => rfl⟩
theorem RLeft.drew {w w' : World} {r : RG} {R : RS} (h : RLeft w w' r R) : RLeft w w'.drew r R := h.below_after ((Below.refl _ _).drew)


set_option maxHeartbeats 4000000 in
set_option maxRecDepth 100000 in
theorem rsync_any (r : RG) (R : RS) (s : ByteArray) (w : World) (h : RRep w r R) (hs : s.size ≤ 9223372036854775807) {n : Nat} (hB : RB R n) (hn : n ≤ 999000) (hsz : ∀ y ∈ R.files, y.1.size ≤ 16777216) :
    Calls Try.prog 46 #[.pointer (some ⟨r.p, 0, none⟩), .string s] w fun e w' => e = .returned (.int .i64 (rsyncE R s)) ∧ RLeft w w' r (rsyncS R s) := by
  obtain ⟨c0, -, -, -, -, -, c6, -⟩ := r_cells h.cells
  have b1 := hB.now
  have b2 := hB.files
  have HSM := Lib.hid (RLeft.same h)
  have CN := Lib.hid (rname_any s hs w)
  have CF := Lib.hid (rfind_any r R s w h (by omega))
  have CU := Lib.hid (rburn_any r R w h hB.f0 hB.f1)
  have HR := Lib.hid h
  have HIX := Lib.hid hB.ix
  clear h
  cases hd : R.dead with
  | true =>
    rw [hd] at c6
    have e0 := rof_dead (s := s) hd
    have e1 : rsyncE R s = 50 := by unfold rsyncE; rw [e0]; rfl
    have e2 : rsyncS R s = R := by unfold rsyncS; rw [e0]; rfl
    rw [e1, e2]
    clear hd e0 e1 e2
    go_enter Try.func46, Try.ntmps46
    go_wp2_with fail
    go_ret
    exact ⟨rfl, HSM.out⟩
  | false =>
    rw [hd] at c6
    cases ho : okN s with
    | false =>
      have e0 := rof_bad hd ho
      have e1 : rsyncE R s = 1 := by unfold rsyncE; rw [e0]; rfl
      have e2 : rsyncS R s = R := by unfold rsyncS; rw [e0]; rfl
      rw [e1, e2]
      rw [ho] at CN
      clear hd ho e0 e1 e2
      go_enter Try.func46, Try.ntmps46
      go_wp2_with fail
      refine CN.out.mono ?_
      rintro e w' ⟨rfl, he⟩
      obtain rfl := he.symm
      go_wp2_with fail
      go_ret
      exact ⟨rfl, HSM.out⟩
    | true =>
      rw [ho] at CN
      by_cases hf : findR R.now s < 0
      · have e0 := rof_none hd ho hf
        have e1 : rsyncE R s = 61 := by unfold rsyncE; rw [e0]; rfl
        have e2 : rsyncS R s = R := by unfold rsyncS; rw [e0]; rfl
        rw [e1, e2]
        clear hd ho e0 e1 e2
        generalize findR R.now s = F at CF hf
        go_enter Try.func46, Try.ntmps46
        go_wp2_with fail
        refine CN.out.mono ?_
        rintro e w' ⟨rfl, he⟩
        obtain rfl := he.symm
        go_wp2_with fail
        refine CF.out.mono ?_
        rintro e w' ⟨rfl, he⟩
        obtain rfl := he.symm
        go_wp2_with fail
        go_ret
        exact ⟨rfl, HSM.out⟩
      · have e0 := rof_there hd ho hf
        by_cases hz : R.fuse = 0
        · have e1 : rsyncE R s = 50 := by unfold rsyncE; rw [e0, if_pos rfl]; simp [burnV, hz]
          have e2 : rsyncS R s = rburned R := by unfold rsyncS; rw [e0, if_pos rfl, if_pos hz]
          rw [e1, e2]
          rw [show (R.fuse == 0) = true by simp [hz]] at CU
          generalize findR R.now s = F at CF hf
          clear hd ho e0 e1 e2 hz
          go_enter Try.func46, Try.ntmps46
          go_wp2_with fail
          refine CN.out.mono ?_
          rintro e w' ⟨rfl, he⟩
          obtain rfl := he.symm
          go_wp2_with fail
          refine CF.out.mono ?_
          rintro e w' ⟨rfl, he⟩
          obtain rfl := he.symm
          go_wp2_with fail
          refine CU.out.mono ?_
          rintro e w1 ⟨rfl, h1, ht⟩
          have HL := Lib.hid (rleft_own h1 ht)
          clear h1 ht
          go_wp2_with fail
          go_ret
          exact ⟨rfl, HL.out⟩
        · obtain ⟨i, hfi, hil⟩ := findR_nat HIX.out hf
          have hrf := rfile_at hfi hil
          have e1 : rsyncE R s = 0 := by unfold rsyncE; rw [e0, if_pos rfl]; simp [burnV, hz]
          have e2 : rsyncS R s = { rburned R with files := R.files.set i ((R.files[i]'hil).1, (R.files[i]'hil).1.size) } := by unfold rsyncS; rw [e0, if_pos rfl, if_neg hz, hrf, hfi]; rfl
          rw [e1, e2]
          rw [show (R.fuse == 0) = false by simp [hz]] at CU
          rw [hfi] at CF
          have HFI : Hid (findR (rburned R).now s = (i : Nat)) := Lib.hid hfi
          obtain ⟨fa, fc, hfv⟩ := owned_slice HR.out.fl
          have hxs : (R.files[i]'hil).1.size ≤ 16777216 := hsz _ (List.getElem_mem hil)
          clear hd ho e0 e1 e2 hz hf hfi hrf hsz
          go_enter Try.func46, Try.ntmps46
          go_wp2_with fail
          refine CN.out.mono ?_
          rintro e w' ⟨rfl, he⟩
          obtain rfl := he.symm
          go_wp2_with fail
          refine CF.out.mono ?_
          rintro e w' ⟨rfl, he⟩
          obtain rfl := he.symm
          go_wp2_with fail
          refine CU.out.mono ?_
          rintro e w1 ⟨rfl, h1, ht⟩
          have CF2 := Lib.hid (rfind_any r (rburned R) s w1 h1 (by show R.now.length ≤ _; omega))
          rw [HFI.out] at CF2
          obtain ⟨-, k1, -, -, -, -, -, -⟩ := r_cells h1.cells
          rw [hfv] at k1
          have hrow : w1.ownsRow 0 105 2 (.slice fa R.files.length fc) R.files.length (R.files.flatMap prC) := hfv ▸ h1.fl
          obtain ⟨fb, hfa, hcap, f0, f1, fz, -⟩ := pr_cell hrow hil
          subst hfa
          have H1 := Lib.hid h1
          have HT := Lib.hid ht
          have HFV := Lib.hid hfv
          have z1 := fz (i * 2 + 1)
          clear h1 ht hrow fz hfv
          have HX := Lib.hid (rrep_set H1.out (R := rburned R) hil HFV.out (j := 1) (by omega) (.int .i64 ((R.files[i]'hil).1.size : Nat)) ((R.files[i]'hil).1, (R.files[i]'hil).1.size) rfl)
          obtain ⟨x, hx⟩ : ∃ x, x = (R.files[i]'hil).1 := ⟨_, rfl⟩
          rw [← hx] at f0 hxs
          have HXE := Lib.hid hx
          clear hx
          have j1 : (0 : Int) ≤ (i : Int) := by omega
          have j2 : (i : Int) < (R.files.length : Int) := by omega
          go_wp2_with fail
          refine CF2.out.mono ?_
          rintro e w' ⟨rfl, he⟩
          obtain rfl := he.symm
          go_wp2_with fail
          go_region
          all_goals
            go_wp2_with fail
            go_ret
            have hx := HXE.out
            subst hx
            obtain ⟨g1, g2⟩ := HX.out
            have HL := (RLeft.of (r := r) (r1 := r) rfl (HT.out.mono (fun b hb => .inl (own_mem b hb))) (fun b hb => .inl hb) ⟨r, rfl, g1, g2, fun b hb => .inl hb⟩)
            exact ⟨rfl, HL.drew⟩

set_option maxHeartbeats 4000000 in
set_option maxRecDepth 100000 in
theorem rappend_any (r : RG) (R : RS) (s b : ByteArray) (w : World) (h : RRep w r R) (hs : s.size ≤ 9223372036854775807) (hbs : b.size ≤ 9223372036854775807) {n : Nat} (hB : RB R n) (hn : n ≤ 999000) (hsz : ∀ y ∈ R.files, y.1.size ≤ 16777216) (hq0 : 0 ≤ R.quota) (hq1 : R.quota ≤ 16777216) :
    Calls Try.prog 44 #[.pointer (some ⟨r.p, 0, none⟩), .string s, .string b] w fun e w' => e = .returned (.int .i64 (rappendE R s b.size)) ∧ RLeft w w' r (rappendS R s b) := by
  obtain ⟨c0, -, -, -, -, -, c6, -⟩ := r_cells h.cells
  have b1 := hB.now
  have b2 := hB.files
  have HSM := Lib.hid (RLeft.same h)
  have CN := Lib.hid (rname_any s hs w)
  have CF := Lib.hid (rfind_any r R s w h (by omega))
  have CD := Lib.hid (fun m : Nat => rused_any r R (w.drewN m) (h.below ⟨rfl, rfl, rfl, Nat.le_refl _, fun _ _ => rfl⟩) (by omega) hB.ix (by omega) hsz)
  have hub : rused R ≤ 16777216000000 := by
    have h1 := sum_bound (szAt R) 16777216 R.now fun p hp => by
      unfold szAt
      rw [List.getD_eq_getElem?_getD, List.getElem?_eq_getElem (hB.ix p hp)]
      exact hsz _ (List.getElem_mem _)
    have h2 : R.now.length * 16777216 ≤ 1000000 * 16777216 := Nat.mul_le_mul_right _ (by omega)
    have : rused R = (R.now.map (szAt R)).sum := rfl
    omega
  have HR := Lib.hid h
  have HIX := Lib.hid hB.ix
  have hf0 := hB.f0
  have hf1 := hB.f1
  clear h
  cases hd : R.dead with
  | true =>
    rw [hd] at c6
    have e0 := rof_dead (s := s) hd
    have e1 : rappendE R s b.size = 50 := by unfold rappendE; rw [e0]; rfl
    have e2 : rappendS R s b = R := by unfold rappendS; rw [e0]; rfl
    rw [e1, e2]
    clear hd e0 e1 e2
    go_enter Try.func44, Try.ntmps44
    go_wp2_with fail
    go_ret
    exact ⟨rfl, HSM.out⟩
  | false =>
    rw [hd] at c6
    cases ho : okN s with
    | false =>
      have e0 := rof_bad hd ho
      have e1 : rappendE R s b.size = 1 := by unfold rappendE; rw [e0]; rfl
      have e2 : rappendS R s b = R := by unfold rappendS; rw [e0]; rfl
      rw [e1, e2]
      rw [ho] at CN
      clear hd ho e0 e1 e2
      go_enter Try.func44, Try.ntmps44
      go_wp2_with fail
      refine CN.out.mono ?_
      rintro e w' ⟨rfl, he⟩
      obtain rfl := he.symm
      go_wp2_with fail
      go_ret
      exact ⟨rfl, HSM.out⟩
    | true =>
      rw [ho] at CN
      by_cases hf : findR R.now s < 0
      · have e0 := rof_none hd ho hf
        have e1 : rappendE R s b.size = 61 := by unfold rappendE; rw [e0]; rfl
        have e2 : rappendS R s b = R := by unfold rappendS; rw [e0]; rfl
        rw [e1, e2]
        clear hd ho e0 e1 e2
        generalize findR R.now s = F at CF hf
        go_enter Try.func44, Try.ntmps44
        go_wp2_with fail
        refine CN.out.mono ?_
        rintro e w' ⟨rfl, he⟩
        obtain rfl := he.symm
        go_wp2_with fail
        refine CF.out.mono ?_
        rintro e w' ⟨rfl, he⟩
        obtain rfl := he.symm
        go_wp2_with fail
        go_ret
        exact ⟨rfl, HSM.out⟩
      · have e0 := rof_there hd ho hf
        have hw1 : IntKind.i64.wrap (R.quota - ((rused R : Nat) : Int)) = R.quota - ((rused R : Nat) : Int) := IntWalk.i64_in _ (by omega)
        by_cases hq : (b.size : Int) ≤ R.quota - (rused R : Nat)
        · by_cases hz : R.fuse = 0
          · have e1 : rappendE R s b.size = 50 := by unfold rappendE; rw [e0, if_pos rfl, if_pos hq]; simp [burnV, hz]
            have e2 : rappendS R s b = rburned R := by unfold rappendS; rw [e0, if_pos rfl, if_pos hq, if_pos hz]
            rw [e1, e2]
            have CU := Lib.hid (fun m : Nat => rburn_any r R (w.drewN m) (HR.out.below ⟨rfl, rfl, rfl, Nat.le_refl _, fun _ _ => rfl⟩) hf0 hf1)
            rw [show (R.fuse == 0) = true by simp [hz]] at CU
            generalize findR R.now s = F at CF hf
            have hq2 : decide (R.quota - ((rused R : Nat) : Int) < (b.size : Int)) = false := by simp; omega
            clear hd ho e0 e1 e2 hz
            generalize rused R = U at CD hw1 hq hq2 hub
            go_enter Try.func44, Try.ntmps44
            go_wp2_with fail
            refine CN.out.mono ?_
            rintro e w' ⟨rfl, he⟩
            obtain rfl := he.symm
            go_wp2_with fail
            refine CF.out.mono ?_
            rintro e w' ⟨rfl, he⟩
            obtain rfl := he.symm
            go_wp2_with fail
            go_quiet ((go_at_call 51; exact Calls.quiet_of (CD.out _)))
            go_wp2_with fail
            refine (CU.out _).mono ?_
            rintro e w1 ⟨rfl, h1, ht⟩
            have HL := Lib.hid (RLeft.of (w1 := w.drewN _) (r := r) (r1 := r) rfl (Turn.of_below (w := w) (w' := w.drewN _) ⟨rfl, rfl, rfl, Nat.le_refl _, fun _ _ => rfl⟩ _) (fun b hb => .inl hb) (rleft_own h1 ht))
            clear h1 ht
            go_wp2_with fail
            go_ret
            exact ⟨rfl, HL.out⟩
          · obtain ⟨i, hfi, hil⟩ := findR_nat HIX.out hf
            have hrf := rfile_at hfi hil
            have e1 : rappendE R s b.size = 0 := by unfold rappendE; rw [e0, if_pos rfl, if_pos hq]; simp [burnV, hz]
            have e2 : rappendS R s b = { rburned R with files := R.files.set i ((R.files[i]'hil).1 ++ b, (R.files[i]'hil).2) } := by unfold rappendS; rw [e0, if_pos rfl, if_pos hq, if_neg hz, hrf, hfi]; rfl
            rw [e1, e2]
            have CU := Lib.hid (fun m : Nat => rburn_any r R (w.drewN m) (HR.out.below ⟨rfl, rfl, rfl, Nat.le_refl _, fun _ _ => rfl⟩) hf0 hf1)
            rw [show (R.fuse == 0) = false by simp [hz]] at CU
            have HFI : Hid (findR (rburned R).now s = (i : Nat)) := Lib.hid hfi
            rw [hfi] at CF
            obtain ⟨fa, fc, hfv⟩ := owned_slice HR.out.fl
            have hxs : (R.files[i]'hil).1.size ≤ 16777216 := hsz _ (List.getElem_mem hil)
            have hq2 : decide (R.quota - ((rused R : Nat) : Int) < (b.size : Int)) = false := by simp; omega
            have hbq : b.size ≤ 16777216 := by omega
            clear hd ho e0 e1 e2 hz hf hfi hrf hsz
            generalize rused R = U at CD hw1 hq hq2 hub
            go_enter Try.func44, Try.ntmps44
            go_wp2_with fail
            refine CN.out.mono ?_
            rintro e w' ⟨rfl, he⟩
            obtain rfl := he.symm
            go_wp2_with fail
            refine CF.out.mono ?_
            rintro e w' ⟨rfl, he⟩
            obtain rfl := he.symm
            go_wp2_with fail
            go_quiet ((go_at_call 51; exact Calls.quiet_of (CD.out _)))
            go_wp2_with fail
            refine (CU.out _).mono ?_
            rintro e w1 ⟨rfl, h1, ht⟩
            have CF2 := Lib.hid (rfind_any r (rburned R) s w1 h1 (by show R.now.length ≤ _; omega))
            rw [HFI.out] at CF2
            obtain ⟨-, k1, -, -, -, -, -, -⟩ := r_cells h1.cells
            rw [hfv] at k1
            have hrow : w1.ownsRow 0 105 2 (.slice fa R.files.length fc) R.files.length (R.files.flatMap prC) := hfv ▸ h1.fl
            obtain ⟨fb, hfa, hcap, f0, f1, fz, -⟩ := pr_cell hrow hil
            subst hfa
            have H1 := Lib.hid h1
            have HT := Lib.hid ((Turn.of_below (w := w) (w' := w.drewN _) ⟨rfl, rfl, rfl, Nat.le_refl _, fun _ _ => rfl⟩ [r.p]).trans ht (fun b hb => .inl hb))
            have HFV := Lib.hid hfv
            have z0 := fz (i * 2)
            clear h1 ht hrow fz hfv
            have HX := Lib.hid (rrep_set H1.out (R := rburned R) hil HFV.out (j := 0) (by omega) (.string ((R.files[i]'hil).1 ++ b)) ((R.files[i]'hil).1 ++ b, (R.files[i]'hil).2) rfl)
            obtain ⟨x, hx⟩ : ∃ x, x = (R.files[i]'hil).1 := ⟨_, rfl⟩
            rw [← hx] at f0 hxs
            have HXE := Lib.hid hx
            clear hx f1
            have hadd2 : ¬ 9223372036854775807 < x.size + b.size := by omega
            have hadd3 : ¬ (9223372036854775807 : Int) < (x.size : Int) + (b.size : Int) := by omega
            have j1 : (0 : Int) ≤ (i : Int) := by omega
            have j2 : (i : Int) < (R.files.length : Int) := by omega
            go_wp2_with fail
            refine CF2.out.mono ?_
            rintro e w' ⟨rfl, he⟩
            obtain rfl := he.symm
            go_wp2_with fail
            go_region_law (fail)
            all_goals
              go_wp2_with fail
              go_ret
              have hx := HXE.out
              subst hx
              obtain ⟨g1, g2⟩ := HX.out
              have HL := (RLeft.of (r := r) (r1 := r) rfl (HT.out.mono (fun b hb => .inl (own_mem b hb))) (fun b hb => .inl hb) ⟨r, rfl, g1, g2, fun b hb => .inl hb⟩)
              exact ⟨rfl, HL.drew⟩
        · have e1 : rappendE R s b.size = 60 := by unfold rappendE; rw [e0, if_pos rfl, if_neg hq]
          have e2 : rappendS R s b = R := by unfold rappendS; rw [e0, if_pos rfl, if_neg hq]
          rw [e1, e2]
          generalize findR R.now s = F at CF hf
          have hq2 : decide (R.quota - ((rused R : Nat) : Int) < (b.size : Int)) = true := by simp; omega
          clear hd ho e0 e1 e2
          generalize rused R = U at CD hw1 hq hq2 hub
          go_enter Try.func44, Try.ntmps44
          go_wp2_with fail
          refine CN.out.mono ?_
          rintro e w' ⟨rfl, he⟩
          obtain rfl := he.symm
          go_wp2_with fail
          refine CF.out.mono ?_
          rintro e w' ⟨rfl, he⟩
          obtain rfl := he.symm
          go_wp2_with fail
          go_quiet ((go_at_call 51; exact Calls.quiet_of (CD.out _)))
          go_wp2_with fail
          go_ret
          exact ⟨rfl, HSM.out.drewN _⟩

set_option maxHeartbeats 4000000 in
set_option maxRecDepth 100000 in
theorem rread_any (r : RG) (R : RS) (s : ByteArray) (w : World) (h : RRep w r R) (hs : s.size ≤ 9223372036854775807) {n : Nat} (hB : RB R n) (hn : n ≤ 999000) :
    Calls Try.prog 45 #[.pointer (some ⟨r.p, 0, none⟩), .string s] w fun e w' => e = .returned (.tuple #[.string (rreadL R s), .int .i64 (rofE R s)]) ∧ ∃ m, w' = w.drewN m := by
  obtain ⟨c0, c1, -, -, -, -, c6, -⟩ := r_cells h.cells
  have b1 := hB.now
  have b2 := hB.files
  have HSM := Lib.hid (show ∃ m, w = w.drewN m from ⟨0, rfl⟩)
  have CN := Lib.hid (rname_any s hs w)
  have CF := Lib.hid (rfind_any r R s w h (by omega))
  have HR := Lib.hid h
  have HIX := Lib.hid hB.ix
  clear h
  cases hd : R.dead with
  | true =>
    rw [hd] at c6
    have e0 := rof_dead (s := s) hd
    have e1 : rreadL R s = noName := by unfold rreadL; rw [e0]; rfl
    rw [e0, e1]
    clear hd e0 e1
    go_enter Try.func45, Try.ntmps45
    go_wp2_with fail
    go_ret2
    exact ⟨rfl, HSM.out⟩
  | false =>
    rw [hd] at c6
    cases ho : okN s with
    | false =>
      have e0 := rof_bad hd ho
      have e1 : rreadL R s = noName := by unfold rreadL; rw [e0]; rfl
      rw [e0, e1]
      rw [ho] at CN
      clear hd ho e0 e1
      go_enter Try.func45, Try.ntmps45
      go_wp2_with fail
      refine CN.out.mono ?_
      rintro e w' ⟨rfl, he⟩
      obtain rfl := he.symm
      go_wp2_with fail
      go_ret2
      exact ⟨rfl, HSM.out⟩
    | true =>
      rw [ho] at CN
      by_cases hf : findR R.now s < 0
      · have e0 := rof_none hd ho hf
        have e1 : rreadL R s = noName := by unfold rreadL; rw [e0]; rfl
        rw [e0, e1]
        clear hd ho e0 e1
        generalize findR R.now s = F at CF hf
        go_enter Try.func45, Try.ntmps45
        go_wp2_with fail
        refine CN.out.mono ?_
        rintro e w' ⟨rfl, he⟩
        obtain rfl := he.symm
        go_wp2_with fail
        refine CF.out.mono ?_
        rintro e w' ⟨rfl, he⟩
        obtain rfl := he.symm
        go_wp2_with fail
        go_ret2
        exact ⟨rfl, HSM.out⟩
      · have e0 := rof_there hd ho hf
        obtain ⟨i, hfi, hil⟩ := findR_nat HIX.out hf
        have hrf := rfile_at hfi hil
        have e1 : rreadL R s = (R.files[i]'hil).1 := by unfold rreadL; rw [e0, if_pos rfl, hrf]
        rw [e0, e1]
        rw [hfi] at CF
        have CF2 := Lib.hid (fun m : Nat => rfind_any r R s (w.drewN m) (HR.out.below ⟨rfl, rfl, rfl, Nat.le_refl _, fun _ _ => rfl⟩) (by omega))
        rw [hfi] at CF2
        obtain ⟨fa, fc, hfv⟩ := owned_slice HR.out.fl
        rw [hfv] at c1
        have hrow : w.ownsRow 0 105 2 (.slice fa R.files.length fc) R.files.length (R.files.flatMap prC) := hfv ▸ HR.out.fl
        obtain ⟨fb, hfa, hcap, f0, -, -, -⟩ := pr_cell hrow hil
        subst hfa
        obtain ⟨x, hx⟩ : ∃ x, x = (R.files[i]'hil).1 := ⟨_, rfl⟩
        rw [← hx] at f0 ⊢
        have j1 : (0 : Int) ≤ (i : Int) := by omega
        have j2 : (i : Int) < (R.files.length : Int) := by omega
        clear hd ho e0 e1 hf hfi hrf hfv hrow hx
        go_enter Try.func45, Try.ntmps45
        go_wp2_with fail
        refine CN.out.mono ?_
        rintro e w' ⟨rfl, he⟩
        obtain rfl := he.symm
        go_wp2_with fail
        refine CF.out.mono ?_
        rintro e w' ⟨rfl, he⟩
        obtain rfl := he.symm
        go_wp2_with fail
        go_quiet ((go_at_call 58; exact Calls.quiet_of_same (CF2.out _)))
        go_wp2_with fail
        go_ret2
        exact ⟨rfl, _, rfl⟩

set_option maxHeartbeats 4000000 in
set_option maxRecDepth 100000 in
theorem rsyncNames_any (r : RG) (R : RS) (w : World) (h : RRep w r R) (hf0 : -1 ≤ R.fuse) (hf1 : R.fuse < 9223372036854775808) :
    Calls Try.prog 49 #[.pointer (some ⟨r.p, 0, none⟩)] w fun e w' => e = .returned (.int .i64 (rsyncNamesE R)) ∧ RLeft w w' r (rsyncNamesS R) := by
  obtain ⟨-, -, -, -, -, -, c6, -⟩ := r_cells h.cells
  have HSM := Lib.hid (RLeft.same h)
  have CU := Lib.hid (rburn_any r R w h hf0 hf1)
  have HR := Lib.hid h
  clear h
  cases hd : R.dead with
  | true =>
    rw [hd] at c6
    have e1 : rsyncNamesE R = 50 := by unfold rsyncNamesE; rw [hd]; rfl
    have e2 : rsyncNamesS R = R := by unfold rsyncNamesS; rw [hd]; rfl
    rw [e1, e2]
    clear hd e1 e2
    go_enter Try.func49, Try.ntmps49
    go_wp2_with fail
    go_ret
    exact ⟨rfl, HSM.out⟩
  | false =>
    rw [hd] at c6
    by_cases hz : R.fuse = 0
    · have e1 : rsyncNamesE R = 50 := by unfold rsyncNamesE; rw [hd]; simp [burnV, hz]
      have e2 : rsyncNamesS R = rburned R := by unfold rsyncNamesS; rw [hd]; simp [hz]
      rw [e1, e2]
      rw [show (R.fuse == 0) = true by simp [hz]] at CU
      clear hd e1 e2 hz
      go_enter Try.func49, Try.ntmps49
      go_wp2_with fail
      refine CU.out.mono ?_
      rintro e w1 ⟨rfl, h1, ht⟩
      have HL := Lib.hid (rleft_own h1 ht)
      clear h1 ht
      go_wp2_with fail
      go_ret
      exact ⟨rfl, HL.out⟩
    · have e1 : rsyncNamesE R = 0 := by unfold rsyncNamesE; rw [hd]; simp [burnV, hz]
      have e2 : rsyncNamesS R = { rburned R with lasts := R.now, wait := [] } := by unfold rsyncNamesS; rw [hd]; simp [hz]
      rw [e1, e2]
      rw [show (R.fuse == 0) = false by simp [hz]] at CU
      clear hd e1 e2 hz
      go_enter Try.func49, Try.ntmps49
      go_wp2_with fail
      refine CU.out.mono ?_
      rintro e w1 ⟨rfl, h1, ht⟩
      obtain ⟨-, -, k2, k3, k4, -, -, kz⟩ := r_cells h1.cells
      obtain ⟨na, nc, hnv⟩ := owned_slice h1.nw
      obtain ⟨la, lc, hlv⟩ := owned_slice h1.ls
      obtain ⟨wa, wc, hwv⟩ := owned_slice h1.wt
      rw [hnv] at k2
      rw [hlv] at k3
      rw [hwv] at k4
      have HNV := Lib.hid hnv
      have H1 := Lib.hid h1
      have HT := Lib.hid ht
      clear h1 ht hnv hlv hwv
      go_wp2_with fail
      go_ret
      refine ⟨rfl, ?_⟩
      have hw := (turn_set w1 r.p 3 (.slice na (rburned R).now.length nc)).trans (turn_set (w1.setCell ⟨r.p, 3, none⟩ (.slice na (rburned R).now.length nc)) r.p 4 (.slice none 0 0)) (fun b hb => .inl hb)
      have hc1 := block_setCell (i := 3) H1.out.cells (.slice na (rburned R).now.length nc)
      have hc2 := block_setCell (i := 4) hc1 (.slice none 0 0)
      obtain ⟨p1, p2, p3, p4⟩ := rparts H1.out
      have nF : ∀ {u : Value}, r.p ∉ blkOf u → ∀ b ∈ blkOf u, b ∉ [r.p] := fun {u} hu b hb hm => by
        have : b = r.p := by simpa using hm
        exact hu (this ▸ hb)
      refine RLeft.of (r := r) (r1 := r) rfl (HT.out.mono (fun b hb => .inl (own_mem b hb))) (fun b hb => .inl hb) ⟨{ r with lv := r.nv, wv := .slice none 0 0 }, rfl, ⟨?_, owned_frame H1.out.fl fun b hb => hw.block b (owned_lt H1.out.fl b hb) (nF p1 b hb), owned_frame H1.out.nw fun b hb => hw.block b (owned_lt H1.out.nw b hb) (nF p3 b hb), owned_frame H1.out.nw fun b hb => hw.block b (owned_lt H1.out.nw b hb) (nF p3 b hb), World.ownsRow_nil _ _ _ _, ?_, ?_, ?_⟩, hw.mono (fun b hb => .inl (own_mem b hb)), fun b hb => ?_⟩
      · rw [hc2, HNV.out]; rfl
      · show r.p ∉ blkOf r.fv ++ (blkOf (.slice none 0 0) ++ (blkOf r.nv ++ blkOf r.nv))
        have hz : r.p ∉ blkOf (.slice none 0 0) := by simp [blkOf, Value.ownBlock]
        simp only [List.mem_append, not_or]
        exact ⟨p1, hz, p3, p3⟩
      · exact fun b hb => ⟨by simp [blkOf, Value.ownBlock], (H1.out.a2 b hb).2.1, (H1.out.a2 b hb).2.1⟩
      · exact fun b hb => by simp [blkOf, Value.ownBlock] at hb
      · rcases mem_rfoot.1 hb with e | e | e | e | e
        · exact .inl (mem_rfoot.2 (.inl e))
        · exact .inl (mem_rfoot.2 (.inr (.inl e)))
        · simp [blkOf, Value.ownBlock] at e
        · exact .inl (mem_rfoot.2 (.inr (.inr (.inr (.inl e)))))
        · exact .inl (mem_rfoot.2 (.inr (.inr (.inr (.inl e)))))

set_option maxHeartbeats 4000000 in
set_option maxRecDepth 100000 in
theorem rnew_any (q : Int) (w : World) (h0 : 0 ≤ q) (h1 : q ≤ 16777216) :
    Calls Try.prog 27 #[.int .i64 q] w fun e w' => ∃ r : RG, e = .returned (.tuple #[.pointer (some ⟨r.p, 0, none⟩), .int .i64 0]) ∧ RRep w' r { quota := q, files := [], now := [], lasts := [], wait := [], fuse := -1, dead := false } ∧ Below w.heap.size w w' ∧ ∀ b ∈ rfoot r, w.heap.size ≤ b := by
  have h2 : ¬ q < 0 := by omega
  have h3 : ¬ (16777216 : Int) < q := by omega
  go_enter Try.func27, Try.ntmps27
  go_wp2_with fail
  go_ret2
  refine ⟨{ p := w.heap.size, fv := .slice none 0 0, nv := .slice none 0 0, lv := .slice none 0 0, wv := .slice none 0 0 }, rfl, ⟨(MapKept.heap_alloc w _).1, World.ownsRow_nil _ _ _ _, World.ownsRow_nil _ _ _ _, World.ownsRow_nil _ _ _ _, World.ownsRow_nil _ _ _ _, by simp [rblk, blkOf, Value.ownBlock], fun b hb => by simp [blkOf, Value.ownBlock] at hb, fun b hb => by simp [blkOf, Value.ownBlock] at hb⟩, (Below.refl _ _).alloc (Nat.le_refl _) _, fun b hb => ?_⟩
  simp [rfoot, rblk, blkOf, Value.ownBlock] at hb
  omega
set_option maxHeartbeats 4000000 in
set_option maxRecDepth 100000 in
theorem rnew_bad (q : Int) (w : World) (h : q < 0 ∨ 16777216 < q) : Calls Try.prog 27 #[.int .i64 q] w fun e w' => e = .returned (.tuple #[.pointer none, .int .i64 1]) ∧ w' = w := by
  by_cases h0 : q < 0
  · go_enter Try.func27, Try.ntmps27
    go_wp2_with fail
    go_ret2
    exact ⟨rfl, rfl⟩
  · have h3 : (16777216 : Int) < q := by omega
    clear h
    go_enter Try.func27, Try.ntmps27
    go_wp2_with fail
    go_ret2
    exact ⟨rfl, rfl⟩
end Go.Proofs.Ytijdgmbpkfmciaa.Fs
