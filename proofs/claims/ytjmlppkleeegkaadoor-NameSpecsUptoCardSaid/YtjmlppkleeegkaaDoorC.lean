/- Walks: name.Valid, behind its first tests. -/
import Derived.Test.YtjmlppkleeegkaaDoorB
namespace Go.Proofs.YtjmlppkleeegkaaDoor.Nm
open Go.RowKit Go.Lib
open Go (below_drewN)

def restV (s : ByteArray) : Bool := (split s.data.toList [47]).all okPart && !(contains s.data.toList [46, 46]) && !(contains s.data.toList [64, 123]) && !(hasSuffix s.data.toList [46])

theorem toList_nil {p : ByteArray} (h : ¬ 0 < p.size) : p.toList = [] := by
  rw [Lib.toList_data]
  exact List.eq_nil_of_length_eq_zero (by rw [← Lib.size_eq]; omega)
theorem splitB_le (sep : ByteArray) : ∀ (k : Nat) (s : ByteArray), ∀ p ∈ splitB sep 0 k s, p.size ≤ s.size
  | 0, s, p, h => by
    rw [splitB_zero] at h
    simp only [List.mem_singleton] at h
    rw [h]; exact Nat.le_refl _
  | k + 1, s, p, h => by
    rcases indexB_cases s sep with hm | ⟨i, hi, hle⟩
    · rw [splitB_miss _ _ _ _ hm] at h
      simp only [List.mem_singleton] at h
      rw [h]; exact Nat.le_refl _
    · rw [splitB_hit _ _ _ _ i hi] at h
      rcases List.mem_cons.1 h with h | h
      · rw [h, Lib.size_eq, Lib.size_eq, Lib.extract_data]; simp; omega
      · have := splitB_le sep k _ p h
        have e : (s.extract (i + sep.size) s.size).size ≤ s.size := by rw [Lib.size_eq, Lib.size_eq, Lib.extract_data]; simp
        omega
theorem okPB_nil {p : ByteArray} (h : p.toList = []) : okPB p = false := by
  rw [Lib.toList_data] at h
  unfold okPB okPart
  rw [h]; rfl
theorem head_get {p : ByteArray} (hp : 0 < p.size) : p.data.toList.head? = some (p[0]'hp) := by
  obtain ⟨⟨l⟩⟩ := p
  cases l with
  | nil => exact absurd hp (by decide)
  | cons a t => rfl
theorem ne_nil {p : ByteArray} (hp : 0 < p.size) : p.data.toList.isEmpty = false := by
  have h := head_get hp
  cases h2 : p.data.toList with
  | nil => rw [h2] at h; cases h
  | cons a t => rfl
theorem okPB_dot {p : ByteArray} (hp : 0 < p.size) (h : ((p[0]'hp).toNat : Int) = 46) : okPB p = false := by
  unfold okPB okPart
  have e : p[0]'hp = 46 := UInt8.toNat_inj.1 (by simpa using (by omega : (p[0]'hp).toNat = 46))
  rw [head_get hp, e]; simp
theorem okPB_else {p : ByteArray} (hp : 0 < p.size) (h : ¬ ((p[0]'hp).toNat : Int) = 46) : okPB p = !(hasSuffix p.data.toList lockL) := by
  unfold okPB okPart
  have e : ¬ p[0]'hp = 46 := fun e => h (by rw [e]; rfl)
  rw [head_get hp, ne_nil hp]
  simp [e]

set_option maxHeartbeats 4000000 in
set_option maxRecDepth 1000000 in
theorem valid_main (s : ByteArray) (w : World) (hG : Glob w) (hs : s.size ≤ 100) (hV : validD s.data.toList = true) (hP : hasPrefix s.data.toList refsL = true) (ANS : Bool) (hA : (s.data.toList.all okB && restV s) = ANS) :
    Calls Tryd.prog 11 #[.string s] w fun e w' => e = .returned (.bool ANS) ∧ Below w.heap.size w w' := by
  have cV := Tryd.utf8_ValidString s w (by omega) hG.tabs
  have cP := fun w => Tryd.strings_HasPrefix s ⟨#[114, 101, 102, 115, 47]⟩ w
  have eP : (⟨#[114, 101, 102, 115, 47]⟩ : ByteArray).data.toList = refsL := rfl
  rw [eP, hP] at cP
  rw [hV] at cV
  have h1 : decide ((100 : Int) < (s.size : Int)) = false := decide_eq_false (by omega)
  have HR := Lib.hid (runesOk_valid s.data.toList hV)
  have hv0 : validGoD s.data.toList.length s.data.toList = true := hV
  have HA := Lib.hid hA
  clear eP hP hV hA
  go_enter Tryd.func11, Tryd.ntmps11
  go_wp2_with (first | (go_at_call 25; refine cV.mono ?_; rintro e w' ⟨rfl, hb⟩) | (go_at_call 26; refine (cP _).mono ?_; rintro e w' ⟨rfl, rfl⟩))
  have hGl := hG.below hb
  have hdl : (s.data.toList).length = s.size := (Lib.size_eq s).symm
  go_loopw [] (fun wr => ∃ pos f : Nat, pos ≤ s.size ∧ s.size ≤ pos + f ∧ wr.heap[w'.heap.size]? = some (.stringIter s pos) ∧ Below w'.heap.size w' wr ∧ Hid (runesOk f (s.data.toList.drop pos) = s.data.toList.all okB) ∧ Hid (validGoD f (s.data.toList.drop pos) = true)) (fun wr => s.size - wr.iterPos w'.heap.size)
  case atStart => exact ⟨0, s.size, by omega, by omega, World.iter_heap w' _ 0, (Below.refl _ _).alloc (Nat.le_refl _) _, by have := HR.out; rw [hdl] at this; exact this, by rw [hdl] at hv0; exact hv0⟩
  case round =>
    clear hv0 HR
    obtain ⟨pos, f, hp, hf, hit, hbw, HK, HV⟩ := hrel
    have hpos0 := iterPos_of hit
    by_cases hlt : pos < s.size
    · obtain ⟨f, rfl⟩ : ∃ f', f = f' + 1 := ⟨f - 1, by omega⟩
      have hne : s.data.toList.drop pos ≠ [] := by intro e; have := congrArg List.length e; simp [hdl] at this; omega
      have hk := HK.out
      have hvv := HV.out
      rw [runesOk, if_neg hne] at hk
      rw [validGoD, if_neg hne] at hvv
      have hsc := dec_scalar (s.data.toList.drop pos)
      have hle := decodeL_le (s.data.toList.drop pos) hne
      have hw1 := decodeL_width (s.data.toList.drop pos)
      rw [List.length_drop, hdl] at hle
      have hdec := decodeL_drop s pos
      rw [List.drop_drop] at hk hvv
      rw [hdec] at hk hvv hsc hle hw1
      clear hne hdec HK HV
      have hnx : ∀ ty, (Instr.next (.pointer (some ⟨w'.heap.size, 0, none⟩)) true ty).run Tryd.prog wr = _ := fun ty => Lib.run_next_any_at wr w'.heap.size s pos ty hit hlt
      generalize hD : Utf8.decode s pos = D at hk hvv hsc hle hw1 hnx
      clear hD
      obtain ⟨r, n⟩ := D
      simp only at hk hvv hsc hle hw1 hnx
      have hit2 := Lib.iterAt_heap wr w'.heap.size _ pos (pos + n) hit
      have hbw2 := Lib.below_iterAt hbw (k := w'.heap.size) (Nat.le_refl _) s (pos + n)
      obtain ⟨W1, hW1⟩ : ∃ W1, W1 = wr.iterAt w'.heap.size s (pos + n) := ⟨_, rfl⟩
      rw [← hW1] at hnx hit2 hbw2
      have HVV : Hid (validGoD f (s.data.toList.drop (pos + n)) = true) := by
        split at hvv
        · cases hvv
        · exact hvv
      clear hW1 hit hbw hvv
      have hc := fun w => containsBad r w hsc.1 hsc.2
      by_cases c1 : r < 33
      · have k1 : ((r : Nat) : Int) < 33 := by omega
        have hall : s.data.toList.all okB = false := by rw [← hk, if_neg (by unfold okR; simp [c1])]
        have HF : Hid (ANS = false) := by rw [← HA.out, hall]; rfl
        clear hk hc hall
        go_wp2
        go_ret
        exact ⟨by rw [HF.out]; rfl, hb.trans (hbw2.mono hb.size)⟩
      · have k1 : ¬ ((r : Nat) : Int) < 33 := by omega
        by_cases c2 : r = 127
        · have k2 : (((r : Nat) : Int) == 127) = true := by rw [beq_iff_eq]; omega
          have hall : s.data.toList.all okB = false := by rw [← hk, if_neg (by unfold okR; simp [c2])]
          have HF : Hid (ANS = false) := by rw [← HA.out, hall]; rfl
          clear hk hc hall c2
          go_wp2
          go_ret
          exact ⟨by rw [HF.out]; rfl, hb.trans (hbw2.mono hb.size)⟩
        · have k2 : (((r : Nat) : Int) == 127) = false := by rw [beq_eq_false_iff_ne]; omega
          cases c3 : anyBad r with
          | true =>
            have hall : s.data.toList.all okB = false := by
              rw [← hk, if_neg]
              unfold anyBad at c3
              unfold okR
              rw [c3]; simp
            have HF : Hid (ANS = false) := by rw [← HA.out, hall]; rfl
            rw [c3] at hc
            clear hk hall c2 c3
            go_wp2_with (go_at_call 27; refine (hc _).mono ?_; rintro e w2 ⟨rfl, hb2⟩)
            go_ret
            exact ⟨by rw [HF.out]; rfl, hb.trans ((hbw2.trans (hb2.mono hbw2.size)).mono hb.size)⟩
          | false =>
            have HK2 : Hid (runesOk f (s.data.toList.drop (pos + n)) = s.data.toList.all okB) := by
              rw [← hk, if_pos]
              · rfl
              · unfold anyBad at c3
                unfold okR
                rw [c3]; simp [c1, c2]
            rw [c3] at hc
            clear hk c2 c3
            go_wp2_with (go_at_call 27; refine (hc _).mono ?_; rintro e w2 ⟨rfl, hb2⟩)
            have hit3 : w2.heap[w'.heap.size]? = some (.stringIter s (pos + n)) := by
              rw [hb2.block _ (lt_of_block hit2)]; exact hit2
            go_roundw
            case rel => exact ⟨pos + n, f, by omega, by omega, hit3, hbw2.trans (hb2.mono hbw2.size), HK2, HVV⟩
            case measure => rw [iterPos_of hit3, hpos0]; omega
    · have hnx : ∀ ty, (Instr.next (.pointer (some ⟨w'.heap.size, 0, none⟩)) true ty).run Tryd.prog wr = _ := fun ty => Lib.run_next_end_at wr w'.heap.size s pos ty hit hlt
      have hall : s.data.toList.all okB = true := by
        rw [← HK.out]
        have hd : s.data.toList.drop pos = [] := List.drop_eq_nil_of_le (by omega)
        rw [hd]
        cases f <;> simp [runesOk]
      have HT : Hid (restV s = ANS) := by rw [← HA.out, hall]; rfl
      clear HK HV hall HA
      obtain ⟨m, hm⟩ := (hGl.below hbw).most
      have cS := Tryd.strings_Split s ⟨#[47]⟩ m wr (by omega) hm (by decide)
      obtain ⟨ps, hps⟩ : ∃ ps, splitB ⟨#[47]⟩ 0 (countB s ⟨#[47]⟩) s = ps := ⟨_, rfl⟩
      have hlen : ps.length = countB s ⟨#[47]⟩ + 1 := by rw [← hps]; exact splitB_all _ (by decide) 0 _ s rfl
      have hsp : ps.all okPB = (split s.data.toList [47]).all okPart := by
        have := splitB_data ⟨#[47]⟩ 0 (countB s ⟨#[47]⟩) s
        rw [hps] at this
        unfold split
        rw [show splitK [47] 0 (count s.data.toList [47]) s.data.toList = ps.map (·.data.toList) from this.symm, List.all_map]
        rfl
      have hple : ∀ p ∈ ps, p.size ≤ s.size := by rw [← hps]; exact splitB_le _ _ s
      have hcle := countB_le ⟨#[47]⟩ (by decide) s.size s (Nat.le_refl _)
      rw [hps] at cS
      generalize countB s ⟨#[47]⟩ = N at cS hlen hcle
      clear hps hm
      have HT2 : Hid ((ps.all okPB && (!(contains s.data.toList [46, 46]) && !(contains s.data.toList [64, 123]) && !(hasSuffix s.data.toList [46]))) = ANS) := by
        rw [← HT.out]
        unfold restV
        rw [hsp]
        simp only [Bool.and_assoc, Hid]
      clear HT hsp
      have cS2 : Calls Tryd.prog 28 #[.string s, .string ⟨#[47]⟩] wr fun e w2 => e = .returned (.slice (some ⟨wr.heap.size, 0, none⟩) (N + 1) (N + 1)) ∧ Below wr.heap.size wr w2 ∧
          Hid (∀ k, k < ps.length → w2.cell? ⟨wr.heap.size, k, none⟩ = some (.string (ps.getD k ByteArray.empty))) := by
        refine cS.mono ?_
        rintro e w2 ⟨he, rfl⟩
        refine ⟨he, (Below.refl _ _).alloc (Nat.le_refl _) _, fun k hk => ?_⟩
        rw [World.cell?_alloc_at _ _ _ _ rfl]
        simp [hk]
      clear cS
      go_wp2_with (go_at_call 28; refine cS2.mono ?_; rintro e w2 ⟨rfl, hb2, hcell⟩)
      have hb3 : Below w.heap.size w w2 := (hb.trans (hbw.mono hb.size)).trans (hb2.mono (by have := hb.size; have := hbw.size; omega))
      have hG2 := hG.below hb3
      clear cS2 hb2 hbw hit hpos0 hnx hGl cV cP
      go_loop [38] (fun i => ∃ k : Nat, k ≤ ps.length ∧ i = .int .i64 k ∧ Hid (((ps.drop k).all okPB && (!(contains s.data.toList [46, 46]) && !(contains s.data.toList [64, 123]) && !(hasSuffix s.data.toList [46]))) = ANS)) (fun i => ps.length - (RowKit.intOf i).toNat)
      case atStart => exact ⟨0, by omega, rfl, HT2⟩
      case round =>
        clear HT2
        obtain ⟨k, hk, rfl, HT3⟩ := hrel
        by_cases hkl : k < ps.length
        · have hc1 := hcell k hkl
          obtain ⟨p, hp1⟩ : ∃ p, ps.getD k ByteArray.empty = p := ⟨_, rfl⟩
          rw [hp1] at hc1
          have hdr : ps.drop k = p :: ps.drop (k + 1) := by
            rw [List.drop_eq_getElem_cons hkl, ← hp1]; simp [hkl]
          have HT4 : Hid (((okPB p && (ps.drop (k + 1)).all okPB) && (!(contains s.data.toList [46, 46]) && !(contains s.data.toList [64, 123]) && !(hasSuffix s.data.toList [46]))) = ANS) := by
            have := HT3.out
            rw [hdr, List.all_cons] at this
            exact this
          have hpz : p.size ≤ s.size := hple p (by rw [← hp1]; simp [hkl])
          have hkN : ((k : Nat) : Int) < (N : Int) + 1 := by omega
          clear hp1 hdr HT3 hcell
          have cSf := Tryd.strings_HasSuffix p ⟨#[46, 108, 111, 99, 107]⟩ w2
          have eL : (⟨#[46, 108, 111, 99, 107]⟩ : ByteArray).data.toList = lockL := rfl
          rw [eL] at cSf
          have HV : ∀ V, hasSuffix p.data.toList lockL = V → Calls Tryd.prog 29 #[.string p, .string ⟨#[46, 108, 111, 99, 107]⟩] w2 fun e w' => e = .returned (.bool V) ∧ w' = w2 := fun V hV => by rw [← hV]; exact cSf (by omega)
          clear cSf eL
          go_wp2_with fail
          · have e0 : p.toList = [] := by assumption
            go_ret
            exact ⟨by rw [show ANS = false by rw [← HT4.out, okPB_nil e0]; rfl]; rfl, hb3⟩
          · have hp0 : 0 < p.size := by assumption
            have e1 : ((p[0]'hp0).toNat : Int) = 46 := by assumption
            go_ret
            exact ⟨by rw [show ANS = false by rw [← HT4.out, okPB_dot hp0 e1]; rfl]; rfl, hb3⟩
          · have hp0 : 0 < p.size := by assumption
            have e1 : ¬ ((p[0]'hp0).toNat : Int) = 46 := by assumption
            have HE := Lib.hid (okPB_else hp0 e1)
            have e1b : (((p[0]'hp0).toNat : Int) == 46) = false := beq_eq_false_iff_ne.2 e1
            have e0 : ¬ p.toList = [] := by assumption
            have e0b : (p.toList == []) = false := beq_eq_false_iff_ne.2 e0
            have e0c : p.toList.isEmpty = false := by rw [Lib.toList_data]; exact ne_nil hp0
            generalize hasSuffix p.data.toList lockL = V at HE HV
            have cV := HV V rfl
            clear HV
            cases V with
            | true =>
              refine cV.mono ?_
              rintro e w3 ⟨rfl, rfl⟩
              go_wp2
              go_ret
              exact ⟨by rw [show ANS = false by rw [← HT4.out, HE.out]; rfl]; rfl, hb3⟩
            | false =>
              refine cV.mono ?_
              rintro e w3 ⟨rfl, rfl⟩
              go_wp2
              go_round
              case rel => exact ⟨k + 1, by omega, by go_num, by have := HT4.out; rw [HE.out] at this; exact this⟩
              case measure => simp [RowKit.intOf]; omega
          · have e0 : ¬ p.toList = [] := by assumption
            have e1 : ¬ 0 < p.size := by assumption
            exact absurd (toList_nil e1) e0
        · have hkN : ¬ ((k : Nat) : Int) < (N : Int) + 1 := by omega
          have HT5 : Hid ((!(contains s.data.toList [46, 46]) && !(contains s.data.toList [64, 123]) && !(hasSuffix s.data.toList [46])) = ANS) := by
            have := HT3.out
            rw [List.drop_eq_nil_of_le (by omega)] at this
            exact this
          obtain ⟨m2, hm2⟩ := hG2.most
          have k1 : Calls Tryd.prog 30 #[.string s, .string ⟨#[46, 46]⟩] w2 _ := Tryd.strings_Contains s ⟨#[46, 46]⟩ m2 w2 (by omega) hm2
          have k2 : Calls Tryd.prog 30 #[.string s, .string ⟨#[64, 123]⟩] w2 _ := Tryd.strings_Contains s ⟨#[64, 123]⟩ m2 w2 (by omega) hm2
          have k3 : Calls Tryd.prog 29 #[.string s, .string ⟨#[46]⟩] w2 _ := Tryd.strings_HasSuffix s ⟨#[46]⟩ w2 (by omega)
          rw [show (⟨#[46, 46]⟩ : ByteArray).data.toList = [46, 46] from rfl] at k1
          rw [show (⟨#[64, 123]⟩ : ByteArray).data.toList = [64, 123] from rfl] at k2
          rw [show (⟨#[46]⟩ : ByteArray).data.toList = [46] from rfl] at k3
          generalize contains s.data.toList [46, 46] = C1 at HT5 k1
          generalize contains s.data.toList [64, 123] = C2 at HT5 k2
          generalize hasSuffix s.data.toList [46] = C3 at HT5 k3
          clear HT3 hm2 hG2 hcell hple
          cases C1 with
          | true =>
            go_wp2_with fail
            refine k1.mono ?_
            rintro e w3 ⟨rfl, rfl⟩
            go_wp2
            go_ret
            exact ⟨by rw [← HT5.out]; rfl, hb3⟩
          | false =>
            cases C2 with
            | true =>
              go_wp2_with fail
              refine k1.mono ?_
              rintro e w3 ⟨rfl, rfl⟩
              go_wp2_with fail
              refine k2.mono ?_
              rintro e w3 ⟨rfl, rfl⟩
              go_wp2
              go_ret
              exact ⟨by rw [← HT5.out]; rfl, hb3⟩
            | false =>
              cases C3
              all_goals
                go_wp2_with fail
                refine k1.mono ?_
                rintro e w3 ⟨rfl, rfl⟩
                go_wp2_with fail
                refine k2.mono ?_
                rintro e w3 ⟨rfl, rfl⟩
                go_wp2_with fail
                refine k3.mono ?_
                rintro e w3 ⟨rfl, rfl⟩
                go_wp2
                go_ret
                exact ⟨by rw [← HT5.out]; rfl, hb3⟩

theorem valid_any (s : ByteArray) (w : World) (hG : Glob w) (hs : s.size ≤ 9223372036854775807) :
    Calls Tryd.prog 11 #[.string s] w fun e w' => e = .returned (.bool (validL s.data.toList)) ∧ Below w.heap.size w w' := by
  have eA : validL s.data.toList = (validD s.data.toList && decide (s.size ≤ 100) && hasPrefix s.data.toList refsL && (s.data.toList.all okB && restV s)) := by
    unfold validL restV
    rw [← Lib.size_eq]
    simp only [Bool.and_assoc]
  rw [eA]
  cases h : (validD s.data.toList && decide (s.size ≤ 100) && hasPrefix s.data.toList refsL) with
  | false => exact valid_early s w hG hs h
  | true =>
    simp only [Bool.and_eq_true, decide_eq_true_eq] at h
    rw [Bool.true_and]
    exact valid_main s w hG h.1.2 h.1.1 h.2 _ rfl
end Go.Proofs.YtjmlppkleeegkaaDoor.Nm
