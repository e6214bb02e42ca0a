/- The file system: FsLasts walked. -/
import Derived.Test.YtijdgmbpkfmciaaZc
import Derived.Test.YtijdgmbpkfmciaaZa
import Derived.Test.YtijdgmbpkfmciaaOps
namespace Go.Proofs.Ytijdgmbpkfmciaa.Fs
open Go.RowKit Go.Maps Go.ChangeMaps Go.WideMaps Go.Joins Go.Sort

set_option maxHeartbeats 4000000 in
set_option maxRecDepth 100000 in
theorem lasts_walk (dv : Value) (data : List UInt8) (ov : Value) (ops : List OpV) (names : Int) (kv : Value) (keep : List Int) (w : World)
    (hd : News w dv (data.map byteV)) (hdl : data.length ≤ 140737488351232) (ho : OpsAt w ov ops) (_ : ops.length ≤ 9223372036854775807)
    (_ : -9223372036854775808 ≤ names ∧ names < 9223372036854775808) (hk : News w kv (keep.map intV)) (hkl : keep.length ≤ 9223372036854775807) :
    Calls Try.prog 6 #[dv, ov, .int .i64 names, kv] w fun e w' => e = .returned (.bool true) ∧ Below w.heap.size w w' := by
  have CN := Lib.hid (sys_new 1048576 w w (by omega) (by omega) (Below.refl _ _))
  have no : nmO.size ≤ maxLen := by unfold maxLen; decide
  obtain ⟨da, dc, hdv⟩ := hd.slice
  rw [List.length_map] at hdv
  subst hdv
  obtain ⟨ka, kc, hkv⟩ := hk.slice
  rw [List.length_map] at hkv
  subst hkv
  have HD := Lib.hid hd
  have HK := Lib.hid hk
  clear hd hk
  by_cases hbig : 100000 < data.length
  · have r1 : (100000 : Int) < (data.length : Int) := by omega
    clear ho
    go_enter Try.func6, Try.ntmps6
    go_wp2_with fail
    refine CN.out.mono ?_
    rintro e w1 ⟨P, g, rfl, -, HS, -, -⟩
    have HB := Lib.hid HS.bel
    clear HS CN
    go_wp2_with fail
    refine (awake_any _).mono ?_
    rintro e w2 ⟨rfl, hb⟩
    have HB2 := Lib.hid (HB.out.trans (hb.mono HB.out.size))
    clear hb
    go_wp2_with fail
    go_ret
    exact ⟨rfl, HB2.out⟩
  · have r1 : ¬ (100000 : Int) < (data.length : Int) := by omega
    obtain ⟨oa, ol, oc, hov, hol2⟩ : ∃ oa ol oc, ov = .slice oa ol oc ∧ ol = ops.length := by
      rcases ho with ⟨h1, a, c, h2⟩ | ⟨b, off, c, h1, _⟩
      · exact ⟨a, 0, c, h2, by rw [h1]; rfl⟩
      · exact ⟨_, _, c, h1, rfl⟩
    subst hol2
    subst hov
    have HOP := Lib.hid ho
    clear ho
    go_enter Try.func6, Try.ntmps6
    go_wp2_with fail
    refine CN.out.mono ?_
    rintro e w1 ⟨P, g, rfl, -, HS, -, -⟩
    have C1 := Lib.hid (sys_create HS (by omega) nmO no)
    have HS1 := Lib.hid HS
    clear HS CN
    go_wp2_with fail
    refine C1.out.mono ?_
    rintro e w2 ⟨rfl, F, g2, -, -, HN⟩
    rw [la1_eq] at HN
    have dA : News w2 (.slice da data.length dc) (data.map byteV) := HD.out.frame fun hx b hb => HN.sys.bel.block b (HD.out.lt hx b hb)
    have dF : data ≠ [] → ∀ b ∈ blkOf (.slice da data.length dc), Free w2 g2 b := fun hx b hb => HN.sys.free_old (HD.out.lt (fun e => hx (List.map_eq_nil_iff.1 e)) b hb)
    have C2 := Lib.hid (sys_append HN.sys (by omega) nmO no (.slice da data.length dc) data (by omega) dA dF)
    clear HN C1 HS1 dA dF
    go_wp2_with fail
    refine C2.out.mono ?_
    rintro e w3 ⟨rfl, g3, HN⟩
    rw [la2_eq F (by omega)] at HN
    have C3 := Lib.hid (sys_sync HN.sys nmO no)
    clear HN C2
    go_wp2_with fail
    refine C3.out.mono ?_
    rintro e w4 ⟨rfl, g4, HN⟩
    rw [la3_eq F] at HN
    have C4 := Lib.hid (sys_syncNames HN.sys)
    clear HN C3
    go_wp2_with fail
    refine C4.out.mono ?_
    rintro e w5 ⟨rfl, g5, HN⟩
    rw [(la4_eq F).2] at HN
    rw [(la4_eq F).1]
    have HS5 := Lib.hid HN.sys
    have HF5 := Lib.hid (kept_id HN.sys (la_kept F))
    clear HN C4
    go_wp2_with fail
    go_loopw [11] (fun i wr => ∃ (j : Nat) (gk : Gh) (s : St), j ≤ ops.length ∧ j ≤ 30 ∧ i = .int .i64 j ∧ Hid (Sys P (1 + j) w wr gk s) ∧ Hid (Kept F data s ∧ F ∈ gk.ids)) (fun i _ => 30 - (RowKit.intOf i).toNat)
    case atStart => exact ⟨0, g5, _, Nat.zero_le _, Nat.zero_le _, rfl, HS5, Lib.hid ⟨la_kept F, HF5.out⟩⟩
    case round =>
      obtain ⟨j, gk, s, hj, hj30, rfl, HS, HKE⟩ := hrel
      by_cases hjl : j < ops.length ∧ j < 30
      · obtain ⟨hj1, hj2⟩ := hjl
        have s1 : (j : Int) < (ops.length : Int) := by omega
        have s2 : (j : Int) < 30 := by omega
        rcases HOP.out with ⟨e, _⟩ | ⟨ob, off, c, e, hlc, hob, hat⟩
        · rw [e] at hj1; exact absurd hj1 (by simp)
        simp only [Value.slice.injEq] at e
        obtain ⟨rfl, -, -⟩ := e
        obtain ⟨hra0, hoa⟩ := hat j hj1
        have HOA := Lib.hid hoa
        generalize (ops[j]'hj1) = o at hra0 HOA
        obtain ⟨kind, n, a, b, odv, odata, okv, okeep⟩ := o
        have hra : wr.rangeAt ob (off + j * 6) _ := fun q u hq => (HS.out.bel.cell (p := ⟨ob, off + j * 6 + q, none⟩) hob).trans (hra0 q u hq)
        have c0 : wr.cell? ⟨ob, off + j * 6, none⟩ = some (.int .i64 kind) := hra 0 _ rfl
        have c1 : wr.cell? ⟨ob, off + j * 6 + 1, none⟩ = some (.int .i64 n) := hra 1 _ rfl
        have c2 : wr.cell? ⟨ob, off + j * 6 + 2, none⟩ = some (.string a) := hra 2 _ rfl
        have c3 : wr.cell? ⟨ob, off + j * 6 + 3, none⟩ = some (.string b) := hra 3 _ rfl
        have c4 : wr.cell? ⟨ob, off + j * 6 + 4, none⟩ = some odv := hra 4 _ rfl
        have c5 : wr.cell? ⟨ob, off + j * 6 + 5, none⟩ = some okv := hra 5 _ rfl
        obtain ⟨oda, odc, e1⟩ := HOA.out.data.slice
        rw [List.length_map] at e1
        obtain ⟨oka, okc, e2⟩ := HOA.out.keep.slice
        rw [List.length_map] at e2
        simp only at e1 e2
        subst e1
        subst e2
        have hBB : Below w.heap.size w (wr.alloc (.cells #[.int .i64 kind, .int .i64 n, .string a, .string b, .slice oda odata.length odc, .slice oka okeep.length okc] 39)) := HS.out.bel.alloc (HS.out.bel.size) _
        have HSA := Lib.hid (HS.out.below ((Below.refl wr.heap.size wr).alloc (Nat.le_refl _) (.cells #[.int .i64 kind, .int .i64 n, .string a, .string b, .slice oda odata.length odc, .slice oka okeep.length okc] 39)))
        have HOW := Lib.hid (HOA.out.below hBB)
        have fD : odata ≠ [] → ∀ q ∈ blkOf (.slice oda odata.length odc), Free (wr.alloc (.cells #[.int .i64 kind, .int .i64 n, .string a, .string b, .slice oda odata.length odc, .slice oka okeep.length okc] 39)) gk q := fun hx q hq => HSA.out.free_old (HOA.out.data.lt (fun e => hx (List.map_eq_nil_iff.1 e)) q hq)
        have fK : okeep ≠ [] → ∀ q ∈ blkOf (.slice oka okeep.length okc), Free (wr.alloc (.cells #[.int .i64 kind, .int .i64 n, .string a, .string b, .slice oda odata.length odc, .slice oka okeep.length okc] 39)) gk q := fun hx q hq => HSA.out.free_old (HOA.out.keep.lt (fun e => hx (List.map_eq_nil_iff.1 e)) q hq)
        have FD := Lib.hid fD
        have FK := Lib.hid fK
        have hodl := HOA.out.dlen
        have hokl := HOA.out.klen
        have hasz := HOA.out.asz
        have hbsz := HOA.out.bsz
        simp only at hodl hokl hasz hbsz
        clear hra hra0 hoa hat hBB fD fK
        by_cases hA : a = ⟨#[111, 119, 110]⟩
        · subst hA
          go_wp2
          go_roundw
          case measure => simp [RowKit.intOf]; omega
          case rel => exact ⟨j + 1, gk, s, by omega, by omega, by go_num, Lib.hid (HSA.out.mono (by omega)), HKE⟩
        · have hA' : ¬ a.toList = [111, 119, 110] := fun e => hA (by rw [Lib.toList_data] at e; exact ByteArray.ext (Array.toList_inj.1 e))
          have hA2 : (a.toList == [111, 119, 110]) = false := beq_eq_false_iff_ne.2 hA'
          by_cases hB : b = ⟨#[111, 119, 110]⟩
          · subst hB
            go_wp2
            go_roundw
            case measure => simp [RowKit.intOf]; omega
            case rel => exact ⟨j + 1, gk, s, by omega, by omega, by go_num, Lib.hid (HSA.out.mono (by omega)), HKE⟩
          · have hB' : ¬ b.toList = [111, 119, 110] := fun e => hB (by rw [Lib.toList_data] at e; exact ByteArray.ext (Array.toList_inj.1 e))
            have hB2 : (b.toList == [111, 119, 110]) = false := beq_eq_false_iff_ne.2 hB'
            by_cases hL : (1000 : Int) < (odata.length : Int)
            · go_wp2
              go_roundw
              case measure => simp [RowKit.intOf]; omega
              case rel => exact ⟨j + 1, gk, s, by omega, by omega, by go_num, Lib.hid (HSA.out.mono (by omega)), HKE⟩
            · by_cases hk0 : kind = 0
              · subst hk0
                have C := Lib.hid (sys_create HSA.out (by omega) a hasz)
                go_wp2_with fail
                refine C.out.mono ?_
                rintro e w' ⟨rfl, f, g', hf, -, HN⟩
                have HN' := Lib.hid HN
                have HKP := Lib.hid (kept_create HKE.out.1 HSA.out.inv hA (f := f) (fun e => hf (by rw [e]; exact HKE.out.2)))
                clear HN hf C
                go_wp2
                go_roundw
                case measure => simp [RowKit.intOf]; omega
                case rel => exact ⟨j + 1, g', _, by omega, by omega, by go_num, Lib.hid (HN'.out.sys.mono (by omega)), Lib.hid ⟨HKP.out, HN'.out.ids F HKE.out.2⟩⟩
              by_cases hk1 : kind = 1
              · subst hk1
                have C := Lib.hid (sys_append HSA.out (by omega) a hasz (.slice oda odata.length odc) odata hodl HOW.out.data FD.out)
                go_wp2_with fail
                refine C.out.mono ?_
                rintro e w' ⟨rfl, g', HN⟩
                have HN' := Lib.hid HN
                have HKP := Lib.hid (kept_append HKE.out.1 HSA.out.inv hA odata)
                clear HN C
                go_wp2
                go_roundw
                case measure => simp [RowKit.intOf]; omega
                case rel => exact ⟨j + 1, g', _, by omega, by omega, by go_num, Lib.hid (HN'.out.sys.mono (by omega)), Lib.hid ⟨HKP.out, HN'.out.ids F HKE.out.2⟩⟩
              by_cases hk3 : kind = 3
              · subst hk3
                have C := Lib.hid (sys_sync HSA.out a hasz)
                go_wp2_with fail
                refine C.out.mono ?_
                rintro e w' ⟨rfl, g', HN⟩
                have HN' := Lib.hid HN
                have HKP := Lib.hid (kept_sync HKE.out.1 HSA.out.inv hA)
                clear HN C
                go_wp2
                go_roundw
                case measure => simp [RowKit.intOf]; omega
                case rel => exact ⟨j + 1, g', _, by omega, by omega, by go_num, Lib.hid (HN'.out.sys.mono (by omega)), Lib.hid ⟨HKP.out, HN'.out.ids F HKE.out.2⟩⟩
              by_cases hk4 : kind = 4
              · subst hk4
                have C := Lib.hid (sys_rename HSA.out (by omega) a b hasz hbsz)
                go_wp2_with fail
                refine C.out.mono ?_
                rintro e w' ⟨rfl, g', HN⟩
                have HN' := Lib.hid HN
                have HKP := Lib.hid (kept_rename HKE.out.1 HSA.out.inv hA hB)
                clear HN C
                go_wp2
                go_roundw
                case measure => simp [RowKit.intOf]; omega
                case rel => exact ⟨j + 1, g', _, by omega, by omega, by go_num, Lib.hid (HN'.out.sys.mono (by omega)), Lib.hid ⟨HKP.out, HN'.out.ids F HKE.out.2⟩⟩
              by_cases hk5 : kind = 5
              · subst hk5
                have C := Lib.hid (sys_remove HSA.out (by omega) a hasz)
                go_wp2_with fail
                refine C.out.mono ?_
                rintro e w' ⟨rfl, g', HN⟩
                have HN' := Lib.hid HN
                have HKP := Lib.hid (kept_remove HKE.out.1 HSA.out.inv hA)
                clear HN C
                go_wp2
                go_roundw
                case measure => simp [RowKit.intOf]; omega
                case rel => exact ⟨j + 1, g', _, by omega, by omega, by go_num, Lib.hid (HN'.out.sys.mono (by omega)), Lib.hid ⟨HKP.out, HN'.out.ids F HKE.out.2⟩⟩
              by_cases hk7 : kind = 7
              · subst hk7
                have C := Lib.hid (sys_crash HSA.out (by omega) n (.slice oka okeep.length okc) okeep HOW.out.keep FK.out hokl)
                go_wp2_with fail
                refine C.out.mono ?_
                rintro e w' ⟨rfl, g', HN⟩
                have HN' := Lib.hid HN
                have HKP := Lib.hid (kept_crash HKE.out.1 n okeep)
                clear HN C
                go_wp2
                go_roundw
                case measure => simp [RowKit.intOf]; omega
                case rel => exact ⟨j + 1, g', _, by omega, by omega, by go_num, Lib.hid (HN'.out.sys.mono (by omega)), Lib.hid ⟨HKP.out, HN'.out.ids F HKE.out.2⟩⟩
              go_wp2
              go_roundw
              case measure => simp [RowKit.intOf]; omega
              case rel => exact ⟨j + 1, gk, s, by omega, by omega, by go_num, Lib.hid (HSA.out.mono (by omega)), HKE⟩
      · have s1 : ¬ ((j : Int) < (ops.length : Int) ∧ (j : Int) < 30) := by omega
        have CC := Lib.hid (sys_crash HS.out (by omega) names (.slice ka keep.length kc) keep (HK.out.frame fun hx b hb => HS.out.bel.block b (HK.out.lt hx b hb)) (fun hx b hb => HS.out.free_old (HK.out.lt (fun e => hx (List.map_eq_nil_iff.1 e)) b hb)) hkl)
        obtain ⟨k1, k2⟩ := kept_read HKE.out.1 names keep
        have K1 := Lib.hid k1
        have K2 := Lib.hid k2
        clear k1 k2
        by_cases hjl2 : j < ops.length
        · have s2 : (j : Int) < (ops.length : Int) := by omega
          have s3 : ¬ (j : Int) < 30 := by omega
          clear s1 hjl
          go_wp2_with fail
          refine CC.out.mono ?_
          rintro e w6 ⟨rfl, g6, HN⟩
          have CR := Lib.hid (sys_read HN.sys nmO no)
          have HN6 := Lib.hid HN.sys
          clear HN CC
          go_wp2_with fail
          refine CR.out.mono ?_
          rintro e w7 ⟨v, rfl, hr, -, hbl⟩
          rw [K1.out]
          rw [K2.out] at hr
          have hs7 := HN6.out.below hbl
          have hco := conv_news (HD.out.frame (w' := w7) fun hx b hb => hs7.bel.block b (HD.out.lt hx b hb))
          obtain ⟨xa, xc, hv⟩ := row_slice hr
          rw [List.length_map] at hv
          subst hv
          have hcx := conv_news (News.of_row hr)
          have HB7 := Lib.hid hs7.bel
          have CA := Lib.hid (awake_any w7)
          clear hr hbl hs7 CR HN6
          go_wp2_with fail
          refine CA.out.mono ?_
          rintro e w8 ⟨rfl, hb⟩
          have HB8 := Lib.hid (HB7.out.trans (hb.mono HB7.out.size))
          clear hb
          go_wp2_with fail
          go_ret
          exact ⟨rfl, HB8.out⟩
        · have s2 : ¬ (j : Int) < (ops.length : Int) := by omega
          clear s1 hjl
          go_wp2_with fail
          refine CC.out.mono ?_
          rintro e w6 ⟨rfl, g6, HN⟩
          have CR := Lib.hid (sys_read HN.sys nmO no)
          have HN6 := Lib.hid HN.sys
          clear HN CC
          go_wp2_with fail
          refine CR.out.mono ?_
          rintro e w7 ⟨v, rfl, hr, -, hbl⟩
          rw [K1.out]
          rw [K2.out] at hr
          have hs7 := HN6.out.below hbl
          have hco := conv_news (HD.out.frame (w' := w7) fun hx b hb => hs7.bel.block b (HD.out.lt hx b hb))
          obtain ⟨xa, xc, hv⟩ := row_slice hr
          rw [List.length_map] at hv
          subst hv
          have hcx := conv_news (News.of_row hr)
          have HB7 := Lib.hid hs7.bel
          have CA := Lib.hid (awake_any w7)
          clear hr hbl hs7 CR HN6
          go_wp2_with fail
          refine CA.out.mono ?_
          rintro e w8 ⟨rfl, hb⟩
          have HB8 := Lib.hid (HB7.out.trans (hb.mono HB7.out.size))
          clear hb
          go_wp2_with fail
          go_ret
          exact ⟨rfl, HB8.out⟩
end Go.Proofs.Ytijdgmbpkfmciaa.Fs
