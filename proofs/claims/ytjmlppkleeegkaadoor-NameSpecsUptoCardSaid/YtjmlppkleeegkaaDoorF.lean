/- Walks: the document's own test of names. -/
import Derived.Test.YtjmlppkleeegkaaDoorE
namespace Go.Proofs.YtjmlppkleeegkaaDoor.Nm
open Go.RowKit Go.Lib
open Go (below_drewN)

theorem take5 (s : ByteArray) : (s.extract 0 5).toList = s.data.toList.take 5 := by rw [Lib.extract_toList]; simp

set_option maxHeartbeats 2000000 in
set_option maxRecDepth 1000000 in
theorem rvalid_early (s : ByteArray) (w : World) (hs : s.size ≤ 9223372036854775000)
    (hno : (decide (s.size ≤ 100) && decide (5 ≤ s.size) && (s.data.toList.take 5 == refsL) && utf8R s.size s.data.toList && !(hasSuffix s.data.toList [46])) = false) :
    Calls Tryd.prog 12 #[.string s] w fun e w' => e = .returned (.bool false) ∧ Below w.heap.size w w' := by
  have cU := utf8_any s w hs _ rfl
  have cE : ∀ w, Calls Tryd.prog 32 #[.string s, .string ⟨#[46]⟩] w _ := fun w => ends_any s ⟨#[46]⟩ w hs
  rw [show (⟨#[46]⟩ : ByteArray).data.toList = [46] from rfl] at cE
  by_cases h1 : s.size ≤ 100
  · have k1 : decide ((100 : Int) < (s.size : Int)) = false := decide_eq_false (by omega)
    by_cases h2 : 5 ≤ s.size
    · have k2 : decide ((s.size : Int) < 5) = false := decide_eq_false (by omega)
      have k2' : (5 : Int) ≤ (s.size : Int) := by omega
      rw [decide_eq_true h1, decide_eq_true h2, Bool.true_and, Bool.true_and] at hno
      cases h3 : (s.data.toList.take 5 == refsL) with
      | false =>
        have k3 : ((s.extract 0 5).toList == [114, 101, 102, 115, 47]) = false := by rw [take5]; exact h3
        clear hno h3 cU cE h1
        go_enter Tryd.func12, Tryd.ntmps12
        go_wp2
        go_ret
        exact ⟨rfl, Below.refl _ _⟩
      | true =>
        have k3 : ((s.extract 0 5).toList == [114, 101, 102, 115, 47]) = true := by rw [take5]; exact h3
        rw [h3, Bool.true_and] at hno
        generalize utf8R s.size s.data.toList = U at hno cU
        generalize hasSuffix s.data.toList [46] = V at hno cE
        clear h3 h1
        cases U with
        | false =>
          clear hno
          go_enter Tryd.func12, Tryd.ntmps12
          go_wp2_with (go_at_call 31; refine cU.mono ?_; rintro e w' ⟨rfl, hb⟩)
          go_ret
          exact ⟨rfl, hb⟩
        | true =>
          cases V with
          | false => cases hno
          | true =>
            clear hno
            go_enter Tryd.func12, Tryd.ntmps12
            go_wp2_with (first | (go_at_call 31; refine cU.mono ?_; rintro e w' ⟨rfl, hb⟩) | (go_at_call 32; refine (cE _).mono ?_; rintro e w' ⟨rfl, rfl⟩))
            go_ret
            exact ⟨rfl, hb⟩
    · have k2 : decide ((s.size : Int) < 5) = true := decide_eq_true (by omega)
      clear hno cU cE
      go_enter Tryd.func12, Tryd.ntmps12
      go_wp2
      go_ret
      exact ⟨rfl, Below.refl _ _⟩
  · have k1 : decide ((100 : Int) < (s.size : Int)) = true := decide_eq_true (by omega)
    clear hno cU cE
    go_enter Tryd.func12, Tryd.ntmps12
    go_wp2
    go_ret
    exact ⟨rfl, Below.refl _ _⟩

theorem splitC_le : ∀ (l cur : List UInt8), ∀ x ∈ splitC cur l, x.length ≤ cur.length + l.length
  | [], cur, x, h => by
    rw [splitC] at h
    simp only [List.mem_singleton] at h
    rw [h]; simp
  | b :: t, cur, x, h => by
    rw [splitC] at h
    by_cases hb : b = 47
    · rw [if_pos hb] at h
      rcases List.mem_cons.1 h with h | h
      · rw [h]; simp
      · have := splitC_le t [] x h
        simp at this ⊢; omega
    · rw [if_neg hb] at h
      have := splitC_le t _ x h
      simp at this ⊢; omega
theorem splitC_len : ∀ (l cur : List UInt8), (splitC cur l).length ≤ l.length + 1
  | [], cur => by simp [splitC]
  | b :: t, cur => by
    rw [splitC]
    split
    · have := splitC_len t []; simp; omega
    · have := splitC_len t (cur ++ [b]); simp; omega
theorem splitC_ne (l cur : List UInt8) : splitC cur l ≠ [] := by
  cases l with
  | nil => simp [splitC]
  | cons b t =>
    rw [splitC]
    split
    · simp
    · exact splitC_ne t _
theorem PartsAre.open {s : ByteArray} {B : Nat} {v : Value} {w : World} (h : PartsAre s B v w) (hs : s.size ≤ 1000000) : ∃ (ks : List ByteArray) (g cap : Nat), v = .slice (some ⟨g, 0, none⟩) ks.length cap ∧
    (splitC [] s.data.toList).all okPart = ks.all okPB ∧ (ks.length ≤ cap ∧ ks.length ≤ 1000000000000) ∧ (∀ p ∈ ks, p.size ≤ s.size) ∧ Hid (∀ k, k < ks.length → w.cell? ⟨g, k, none⟩ = some (.string (ks.getD k ByteArray.empty))) := by
  obtain ⟨ks, h1, hown⟩ := h
  have hne : ks ≠ [] := fun e => by
    rw [e] at h1
    exact splitC_ne _ _ h1.symm
  rcases hown.2 with ⟨_, h0⟩ | ⟨g, cap, cur, hv, _, hb, hn, hc, hs, ht⟩
  · exact absurd (by simpa using h0) hne
  · subst hv
    refine ⟨ks, g, cap, rfl, ?_, ⟨hn, ?_⟩, ?_, fun k hk => ?_⟩
    · rw [← h1, List.all_map]; rfl
    · have e := congrArg List.length h1
      rw [List.length_map] at e
      have := splitC_len s.data.toList []
      rw [← Lib.size_eq] at this
      omega
    · intro p hp
      have := splitC_le s.data.toList [] p.data.toList (by rw [← h1]; exact List.mem_map.2 ⟨p, hp, rfl⟩)
      rw [← Lib.size_eq, ← Lib.size_eq] at this
      simpa using this
    · rw [hown.cellAt k (by omega)]
      simp [hk]

theorem okAt_pos (s : ByteArray) (k : Nat) (h : k < s.size) : okAt s.data.toList k = (okB (s[k]'h) && !(decide (0 < k) && (((s.extract (k - 1) (k + 1)).toList == [46, 46]) || ((s.extract (k - 1) (k + 1)).toList == [64, 123])))) := by
  unfold okAt pairAt
  have h' : k < s.data.toList.length := by rw [← Lib.size_eq]; exact h
  rw [List.getD_eq_getElem?_getD, List.getElem?_eq_getElem h', Option.getD_some]
  by_cases h0 : 0 < k
  · rw [Lib.extract_toList, show k + 1 - (k - 1) = 2 by omega]; rfl
  · simp [h0]; rfl

theorem okB_split (b : UInt8) : okB b = (!(decide ((b.toNat : Int) < 33)) && !((b.toNat : Int) == 127) && !(bad7.contains b)) := by
  unfold okB
  have e1 : decide (b.toNat < 33) = decide ((b.toNat : Int) < 33) := by rw [Bool.eq_iff_iff]; simp; omega
  have e2 : (b.toNat == 127) = ((b.toNat : Int) == 127) := by rw [Bool.eq_iff_iff]; simp; omega
  rw [e1, e2]
  cases decide ((b.toNat : Int) < 33) <;> cases ((b.toNat : Int) == 127) <;> cases bad7.contains b <;> rfl

theorem bad_get (k : Nat) (h : k < 7) : bad7[k]? = some ((⟨#[126, 94, 58, 63, 42, 91, 92]⟩ : ByteArray)[k]'h) := by
  have : ∀ k : Fin 7, bad7[k.val]? = some ((⟨#[126, 94, 58, 63, 42, 91, 92]⟩ : ByteArray)[k.val]'k.isLt) := by decide
  exact this ⟨k, h⟩

set_option maxHeartbeats 8000000 in
set_option maxRecDepth 1000000 in
theorem rvalid_main (s : ByteArray) (w : World) (hs1 : s.size ≤ 100) (hs2 : 5 ≤ s.size) (h3 : (s.data.toList.take 5 == refsL) = true) (hU : utf8R s.size s.data.toList = true)
    (hV : hasSuffix s.data.toList [46] = false) (ANS : Bool) (hA : (allFrom s.data.toList s.size 0 && (splitC [] s.data.toList).all okPart) = ANS) :
    Calls Tryd.prog 12 #[.string s] w fun e w' => e = .returned (.bool ANS) ∧ Below w.heap.size w w' := by
  have cU := utf8_any s w (by omega) _ rfl
  have cE : ∀ w, Calls Tryd.prog 32 #[.string s, .string ⟨#[46]⟩] w _ := fun w => ends_any s ⟨#[46]⟩ w (by omega)
  rw [show (⟨#[46]⟩ : ByteArray).data.toList = [46] from rfl, hV] at cE
  rw [hU] at cU
  have k1 : decide ((100 : Int) < (s.size : Int)) = false := decide_eq_false (by omega)
  have k2 : decide ((s.size : Int) < 5) = false := decide_eq_false (by omega)
  have k2' : (5 : Int) ≤ (s.size : Int) := by omega
  have k3 : ((s.extract 0 5).toList == [114, 101, 102, 115, 47]) = true := by rw [take5]; exact h3
  have HA := Lib.hid hA
  clear hA hU hV h3
  go_enter Tryd.func12, Tryd.ntmps12
  go_wp2_with (first | (go_at_call 31; refine cU.mono ?_; rintro e w' ⟨rfl, hb⟩) | (go_at_call 32; refine (cE _).mono ?_; rintro e w' ⟨rfl, rfl⟩))
  clear cU cE
  go_loopw [3] (fun i wr => ∃ k f : Nat, i = .int .i64 k ∧ k ≤ s.size ∧ s.size = k + f ∧ Below w.heap.size w wr ∧ Hid ((allFrom s.data.toList f k && (splitC [] s.data.toList).all okPart) = ANS)) (fun i _ => s.size - (RowKit.intOf i).toNat)
  case atStart => exact ⟨0, s.size, rfl, by omega, by omega, hb, HA⟩
  case round =>
    clear HA hb
    obtain ⟨k, f, rfl, hk, hf, hbw, HK⟩ := hrel
    by_cases hlt : k < s.size
    · obtain ⟨f, rfl⟩ : ∃ f', f = f' + 1 := ⟨f - 1, by omega⟩
      have hd := HK.out
      have b1 : (k : Int) < (s.size : Int) := by omega
      rw [allFrom, okAt_pos s k hlt, okB_split] at hd
      obtain ⟨wo, rfl⟩ : ∃ wo : World, wo = wr := ⟨_, rfl⟩
      by_cases c1 : ((s[k]'hlt).toNat : Int) < 33
      · have HF : Hid (ANS = false) := by rw [← hd, decide_eq_true c1]; rfl
        have q1 := decide_eq_true c1
        clear hd HK c1
        go_wp2
        go_ret
        exact ⟨by rw [HF.out]; rfl, hbw⟩
      · rw [decide_eq_false c1] at hd
        have q1 := decide_eq_false c1
        cases c2 : (((s[k]'hlt).toNat : Int) == 127) with
        | true =>
          have HF : Hid (ANS = false) := by rw [← hd, c2]; rfl
          clear hd HK c1
          go_wp2
          go_ret
          exact ⟨by rw [HF.out]; rfl, hbw⟩
        | false =>
          rw [c2] at hd
          have HD := Lib.hid hd
          clear hd HK c1
          go_wp2
          go_loopw [4] (fun j wr => ∃ q : Nat, j = .int .i64 q ∧ q ≤ 7 ∧ Below w.heap.size w wr ∧ Hid (∀ x ∈ bad7.take q, x ≠ s[k]'hlt)) (fun j _ => 7 - (RowKit.intOf j).toNat)
          case atStart => exact ⟨0, rfl, by omega, hbw, by intro x hx; simp at hx⟩
          case round =>
            clear hbw
            obtain ⟨q, rfl, hq, hbw, HQ⟩ := hrel
            by_cases hq7 : q < 7
            · have b2 : (q : Int) < 7 := by omega
              have hbg := bad_get q hq7
              generalize hy : (⟨#[126, 94, 58, 63, 42, 91, 92]⟩ : ByteArray)[q]'hq7 = y at hbg
              by_cases c3 : s[k]'hlt = y
              · have q3 : (((s[k]'hlt).toNat : Int) == (y.toNat : Int)) = true := by rw [c3]; simp
                have HF : Hid (ANS = false) := by
                  have hcon : bad7.contains (s[k]'hlt) = true := by rw [c3, List.contains_iff_mem]; exact List.mem_of_getElem? hbg
                  rw [← HD.out, hcon]
                  simp [Hid]
                clear c3 hbg HQ HD
                go_wp2
                go_quiet (fail)
                go_wp2
                go_ret
                exact ⟨by rw [HF.out]; rfl, below_drewN hbw _⟩
              · have q3 : (((s[k]'hlt).toNat : Int) == (y.toNat : Int)) = false := by
                  rw [beq_eq_false_iff_ne]; intro e; exact c3 (UInt8.toNat_inj.1 (by omega))
                have HQ2 : Hid (∀ x ∈ bad7.take (q + 1), x ≠ s[k]'hlt) := by
                  intro x hx
                  rw [List.take_add_one, hbg] at hx
                  simp only [Option.toList_some, List.mem_append, List.mem_singleton] at hx
                  rcases hx with hx | hx
                  · exact HQ.out x hx
                  · rw [hx]; exact fun e => c3 e.symm
                clear c3 hbg HQ
                go_wp2
                go_quiet (fail)
                go_wp2
                go_roundw
                case rel => exact ⟨q + 1, by go_num, by omega, below_drewN hbw _, HQ2⟩
                case measure => simp [RowKit.intOf]; omega
            · have b2 : ¬ (q : Int) < 7 := by omega
              have hd := HD.out
              have hcon : bad7.contains (s[k]'hlt) = false := by
                cases hc : bad7.contains (s[k]'hlt) with
                | false => rfl
                | true =>
                  have hm := List.contains_iff_mem.1 hc
                  have := HQ.out (s[k]'hlt) (by rw [List.take_of_length_le (by show 7 ≤ q; omega)]; exact hm)
                  exact absurd rfl this
              rw [hcon] at hd
              clear HD HQ hcon
              by_cases h0 : 0 < k
              · have b3 : (0 : Int) < (k : Int) := by omega
                rw [decide_eq_true h0] at hd
                cases e1 : ((s.extract (k - 1) (k + 1)).toList == [46, 46]) with
                | true =>
                  have HF : Hid (ANS = false) := by rw [← hd, e1]; simp [Hid]
                  clear hd
                  go_wp2
                  go_ret
                  exact ⟨by rw [HF.out]; rfl, hbw⟩
                | false =>
                  cases e2 : ((s.extract (k - 1) (k + 1)).toList == [64, 123]) with
                  | true =>
                    have HF : Hid (ANS = false) := by rw [← hd, e1, e2]; simp [Hid]
                    clear hd
                    go_wp2
                    go_ret
                    exact ⟨by rw [HF.out]; rfl, hbw⟩
                  | false =>
                    have HN : Hid ((allFrom s.data.toList f (k + 1) && (splitC [] s.data.toList).all okPart) = ANS) := by rw [← hd, e1, e2]; simp [Hid]
                    clear hd
                    go_wp2
                    go_roundw
                    case rel => exact ⟨k + 1, f, by go_num, by omega, by omega, hbw, HN⟩
                    case measure => simp [RowKit.intOf]; omega
              · have b3 : ¬ (0 : Int) < (k : Int) := by omega
                have b3' : decide ((0 : Int) < (k : Int)) = false := decide_eq_false b3
                have HN : Hid ((allFrom s.data.toList f (k + 1) && (splitC [] s.data.toList).all okPart) = ANS) := by rw [← hd, decide_eq_false h0]; simp [Hid]
                clear hd
                go_wp2
                go_roundw
                case rel => exact ⟨k + 1, f, by go_num, by omega, by omega, hbw, HN⟩
                case measure => simp [RowKit.intOf]; omega
    · have b1 : ¬ (k : Int) < (s.size : Int) := by omega
      have HR : Hid ((splitC [] s.data.toList).all okPart = ANS) := by
        have := HK.out
        obtain rfl : f = 0 := by omega
        rw [allFrom, Bool.true_and] at this
        exact this
      have cP := parts_any s wr (by omega)
      clear HK
      go_wp2_with (go_at_call 33; refine cP.mono ?_; rintro e w2 ⟨v, rfl, hpa, hb2⟩; obtain ⟨ks, g, cap, rfl, hks, hcap, hple, hcell⟩ := hpa.open (by omega); have HR2 := (show Hid (ks.all okPB = ANS) by rw [← hks]; exact HR.out); clear hks)
      have hb3 : Below w.heap.size w w2 := hbw.trans (hb2.mono hbw.size)
      go_loop [6] (fun i => ∃ k : Nat, k ≤ ks.length ∧ i = .int .i64 k ∧ Hid ((ks.drop k).all okPB = ANS)) (fun i => ks.length - (RowKit.intOf i).toNat)
      case atStart => exact ⟨0, by omega, rfl, HR2⟩
      case round =>
        clear HR HR2 b1
        obtain ⟨k, hk, rfl, HT3⟩ := hrel
        by_cases hkl : k < ks.length
        · have hc1 := hcell.out k hkl
          obtain ⟨p, hp1⟩ : ∃ p, ks.getD k ByteArray.empty = p := ⟨_, rfl⟩
          rw [hp1] at hc1
          have hdr : ks.drop k = p :: ks.drop (k + 1) := by
            rw [List.drop_eq_getElem_cons hkl, ← hp1]; simp [hkl]
          have HT4 : Hid ((okPB p && (ks.drop (k + 1)).all okPB) = ANS) := by
            have := HT3.out
            rw [hdr, List.all_cons] at this
            exact this
          have hpz : p.size ≤ s.size := hple p (by rw [← hp1]; simp [hkl])
          have hkN : ((k : Nat) : Int) < (ks.length : Int) := by omega
          have cSf := ends_any p ⟨#[46, 108, 111, 99, 107]⟩ w2 (by omega)
          rw [show (⟨#[46, 108, 111, 99, 107]⟩ : ByteArray).data.toList = lockL from rfl] at cSf
          have HV : ∀ V, hasSuffix p.data.toList lockL = V → Calls Tryd.prog 32 #[.string p, .string ⟨#[46, 108, 111, 99, 107]⟩] w2 fun e w' => e = .returned (.bool V) ∧ w' = w2 := fun V hV => by rw [← hV]; exact cSf
          clear hp1 hdr HT3 hcell cSf hple
          go_wp2_with fail
          · have e0 : p.toList = [] := by assumption
            go_ret
            exact ⟨by rw [show ANS = false by rw [← HT4.out, okPB_nil e0]; rfl]; rfl, hb3⟩
          · have hp0 : 0 < p.size := by assumption
            have e1 : ((p[0]'hp0).toNat : Int) = 46 := by assumption
            go_ret
            exact ⟨by rw [show ANS = false by rw [← HT4.out, okPB_dot hp0 e1]; rfl]; rfl, hb3⟩
          · have hp0 : 0 < p.size := by assumption
            have e1 : ¬ ((p[0]'hp0).toNat : Int) = 46 := by assumption
            have HE := Lib.hid (okPB_else hp0 e1)
            have e1b : (((p[0]'hp0).toNat : Int) == 46) = false := beq_eq_false_iff_ne.2 e1
            have e0 : ¬ p.toList = [] := by assumption
            have e0b : (p.toList == []) = false := beq_eq_false_iff_ne.2 e0
            have e0c : p.toList.isEmpty = false := by rw [Lib.toList_data]; exact ne_nil hp0
            generalize hasSuffix p.data.toList lockL = V at HE HV
            have cV := HV V rfl
            clear HV
            cases V with
            | true =>
              refine cV.mono ?_
              rintro e w3 ⟨rfl, rfl⟩
              go_wp2
              go_ret
              exact ⟨by rw [show ANS = false by rw [← HT4.out, HE.out]; rfl]; rfl, hb3⟩
            | false =>
              refine cV.mono ?_
              rintro e w3 ⟨rfl, rfl⟩
              go_wp2
              go_round
              case rel => exact ⟨k + 1, by omega, by go_num, by have := HT4.out; rw [HE.out] at this; exact this⟩
              case measure => simp [RowKit.intOf]; omega
          · have e0 : ¬ p.toList = [] := by assumption
            have e1 : ¬ 0 < p.size := by assumption
            exact absurd (toList_nil e1) e0
        · have hkN : ¬ ((k : Nat) : Int) < (ks.length : Int) := by omega
          have HT5 : Hid (ANS = true) := by
            have := HT3.out
            rw [List.drop_eq_nil_of_le (by omega)] at this
            exact this.symm
          clear HT3 hcell hple
          go_wp2
          go_ret
          exact ⟨by rw [HT5.out]; rfl, hb3⟩

theorem rvalid_any (s : ByteArray) (w : World) (hs : s.size ≤ 9223372036854775000) :
    Calls Tryd.prog 12 #[.string s] w fun e w' => e = .returned (.bool (validL s.data.toList)) ∧ Below w.heap.size w w' := by
  have eA : validL s.data.toList = (decide (s.size ≤ 100) && decide (5 ≤ s.size) && (s.data.toList.take 5 == refsL) && utf8R s.size s.data.toList && !(hasSuffix s.data.toList [46]) && (allFrom s.data.toList s.size 0 && (splitC [] s.data.toList).all okPart)) := by
    rw [← refValid_eq]
    unfold refValidL
    rw [← Lib.size_eq]
  rw [eA]
  cases h : (decide (s.size ≤ 100) && decide (5 ≤ s.size) && (s.data.toList.take 5 == refsL) && utf8R s.size s.data.toList && !(hasSuffix s.data.toList [46])) with
  | false => exact rvalid_early s w hs h
  | true =>
    simp only [Bool.and_eq_true, decide_eq_true_eq, Bool.not_eq_true'] at h
    rw [Bool.true_and]
    exact rvalid_main s w h.1.1.1.1 h.1.1.1.2 h.1.1.2 h.1.2 h.2 _ rfl
end Go.Proofs.YtjmlppkleeegkaaDoor.Nm
