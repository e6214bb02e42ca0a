/- The file system: FsApart walked. -/
import Derived.Test.YtijdgmbpkfmciaaZu
import Derived.Test.YtijdgmbpkfmciaaZs
import Derived.Test.YtijdgmbpkfmciaaW
namespace Go.Proofs.Ytijdgmbpkfmciaa.Fs
open Go.RowKit Go.Maps Go.ChangeMaps Go.WideMaps Go.Joins Go.Sort Go.WideShapes

theorem listed_mem {s : St} (k : CK s.names) {p : ByteArray} {x : List UInt8} (h : x ∈ listed s p) : s.dead = false ∧ Maps.has s.names (kl ⟨x.toArray⟩) = true := by
  unfold listed at h
  obtain ⟨h1, h2⟩ := List.mem_filter.1 h
  refine ⟨?_, ?_⟩
  · unfold keepP at h2
    cases hd : s.dead with
    | false => rfl
    | true => rw [hd] at h2; simp at h2
  · rw [show kl ⟨x.toArray⟩ = .string x by simp [kl]]
    exact (mem_keysOf k.str).1 h1
theorem listed_len {s : St} (k : CK s.names) (p : ByteArray) : (listed s p).length ≤ Maps.size s.names := by
  unfold listed
  rw [← keysOf_len k.str]
  exact List.length_filter_le _ _
theorem listed_ok {s : St} {ids : List Nat} {n : Nat} (k : CK s.names) (h : Okn s) (hI : Inv s ids n) {p : ByteArray} {x : List UInt8} (hx : x ∈ listed s p) : ofE s ⟨x.toArray⟩ = 0 := by
  obtain ⟨h1, h2⟩ := listed_mem k hx
  have h3 := h.names hI _ h2
  have h4 := (hI.names.has_iff _).1 h2
  have h5 : namedE s.dead [⟨x.toArray⟩] = 0 := by
    unfold namedE
    rw [h1]
    simp [h3]
  unfold ofE
  rw [h5, if_pos rfl, if_neg h4]
theorem listed_small {s : St} (k : CK s.names) {p : ByteArray} {x : List UInt8} (hx : x ∈ listed s p) : (⟨x.toArray⟩ : ByteArray).size ≤ maxLen := by
  have h2 := (listed_mem k hx).2
  obtain ⟨es, e, _, hk⟩ := k
  rw [e, has_eq, List.any_eq_true] at h2
  obtain ⟨q, hq, hs⟩ := h2
  obtain ⟨v, hv⟩ := hk q hq
  obtain ⟨y, _, e2, hy⟩ := string_of_keyOf Try.underlying9 hv
  have e3 : y = ⟨x.toArray⟩ := kl_inj (e2.symm.trans (WideAt.sameKey_eq hs))
  rw [← e3]; exact hy

theorem row_free {w w' : World} {P n : Nat} {w0 : World} {g : Gh} {s : St} {e : TypeId} {v : Value} {xs : List Value} (h : Sys P n w0 w g s) (hr : Row w' e v xs) (hb : ∀ b ∈ blkOf v, w.heap.size ≤ b) : ∀ b ∈ blkOf v, Free w' g b :=
  fun b hm => ⟨row_lt hr b hm, fun hf => by have := h.rep.lt b hf; have := hb b hm; omega⟩

set_option maxHeartbeats 4000000 in
set_option maxRecDepth 100000 in
theorem apart_walk (av : Value) (la : List OpV) (bv : Value) (lb : List OpV) (w : World) (ha : OpsAt w av la) (hal : la.length ≤ 9223372036854775807) (hb : OpsAt w bv lb) (hbl : lb.length ≤ 9223372036854775807) :
    Calls Try.prog 7 #[av, bv] w fun e w' => e = .returned (.bool true) ∧ Below w.heap.size w w' := by
  have CN := Lib.hid (sys_new 5000 w w (by omega) (by omega) (Below.refl _ _))
  have HA := Lib.hid ha
  have HBO := Lib.hid hb
  clear ha hb
  go_enter Try.func7, Try.ntmps7
  go_wp2_with fail
  refine CN.out.mono ?_
  rintro e w1 ⟨P, g, rfl, -, HS, -, -⟩
  have C1 := Lib.hid (run_any P 0 w w1 g _ HS (by omega) (okn_new _) av la HA.out hal)
  clear HS CN
  go_wp2_with fail
  refine C1.out.mono ?_
  rintro e w2 ⟨rfl, g2, s, HN, HK⟩
  have HS2 := Lib.hid HN.sys
  have HOK := Lib.hid HK
  have C2 := Lib.hid (sys_copy HS2.out (by omega))
  clear HN HK C1
  go_wp2_with fail
  refine C2.out.mono ?_
  rintro e w3 ⟨Pc, gc, sc, Tc, rfl, HC, hbc, hnc, hal1⟩
  have HC3 := Lib.hid HC
  have HS3 := Lib.hid (HS2.out.below hbc)
  have HNC := Lib.hid hnc
  have HAC := Lib.hid hal1
  have C3 := Lib.hid (sys_copy HS3.out (by omega))
  clear HC hnc hal1 hbc C2
  go_wp2_with fail
  refine C3.out.mono ?_
  rintro e w4 ⟨Pw, gw, sw, Tw, rfl, HW, hbw, hnw, hal2⟩
  have HW4 := Lib.hid HW
  have HC4 := Lib.hid (HC3.out.below hbw)
  have HS4 := Lib.hid (HS3.out.below hbw)
  have HNW := Lib.hid hnw
  have HAW := Lib.hid hal2
  have C4 := Lib.hid (run_any Pc 25 w w4 gc _ HC4.out (by omega) (okn_copy HOK.out HAC.out) bv lb HBO.out hbl)
  have HZ := Lib.hid hbw.size
  clear HW hnw hal2 hbw C3
  go_wp2_with fail
  refine C4.out.mono ?_
  rintro e w5 ⟨rfl, gc5, sc5, HN, -⟩
  have HS5 : Hid (Sys P 25 w w5 g2 s) := Lib.hid (HS4.out.turn HN.turn (fun b hb => .inl ⟨⟨HC4.out.rep.lt b hb, fun hm => by have h1 := HS2.out.rep.lt b hm; have h2 := HNC.out b hb; omega⟩, HC4.out.new b hb⟩))
  have HW5 : Hid (Sys Pw 25 w w5 gw sw) := Lib.hid (HW4.out.turn HN.turn (fun b hb => .inl ⟨⟨HC4.out.rep.lt b hb, fun hm => by have h1 := HC3.out.rep.lt b hb; have h2 := HNW.out b hm; omega⟩, HC4.out.new b hb⟩))
  have C5 := Lib.hid (sys_list HS5.out (by omega) ⟨#[]⟩)
  clear HN C4
  go_wp2_with fail
  refine C5.out.mono ?_
  rintro e w6 ⟨v6, rfl, hr6, hb6, hbl6⟩
  have HS6 := Lib.hid (HS5.out.below hbl6)
  have HW6 := Lib.hid (HW5.out.below hbl6)
  have HR6 := Lib.hid hr6
  obtain ⟨a6, c6, hv6⟩ := row_slice hr6
  rw [List.length_map] at hv6
  subst hv6
  have C6 := Lib.hid (sys_list HW6.out (by omega) ⟨#[]⟩)
  clear hr6 hb6 hbl6 C5
  go_wp2_with fail
  refine C6.out.mono ?_
  rintro e w7 ⟨v7, rfl, hr7, hb7, hbl7⟩
  rw [alike_listed HAW.out] at hr7
  have HS7 := Lib.hid (HS6.out.below hbl7)
  have HW7 := Lib.hid (HW6.out.below hbl7)
  have HR7 := Lib.hid hr7
  have hr67 : Row w7 9 _ _ := HR6.out.frame fun b hb => hbl7.block b (row_lt HR6.out b hb)
  have HR67 := Lib.hid hr67
  have hlen : (listed s ⟨#[]⟩).length ≤ 1000000 := Nat.le_trans (listed_len HAW.out.ck _) (Nat.le_trans HS2.out.inv.size (by omega))
  have C7 := Lib.hid (texts_any _ v7 (listed s ⟨#[]⟩) (listed s ⟨#[]⟩) w7 (news_row HR67.out) (news_row HR7.out) (by omega))
  clear hr7 hb7 hbl7 C6 hr67
  go_wp2_with fail
  refine C7.out.mono ?_
  rintro e w8 ⟨rfl, hbl8⟩
  have HS8 := Lib.hid (HS7.out.below hbl8)
  have HW8 := Lib.hid (HW7.out.below hbl8)
  have HN8 := Lib.hid (news_row (HR67.out.frame fun b hb => hbl8.block b (row_lt HR67.out b hb)))
  have HR8 := Lib.hid (HR67.out.frame fun b hb => hbl8.block b (row_lt HR67.out b hb))
  clear hbl8 C7
  have HIN : Hid (∀ k (hk : k < (listed s ⟨#[]⟩).length), ofE s ⟨((listed s ⟨#[]⟩)[k]'hk).toArray⟩ = 0 ∧ (⟨((listed s ⟨#[]⟩)[k]'hk).toArray⟩ : ByteArray).size ≤ maxLen) := Lib.hid fun k hk => ⟨listed_ok HAW.out.ck HOK.out HS2.out.inv (List.getElem_mem hk), listed_small HAW.out.ck (List.getElem_mem hk)⟩
  generalize listed s ⟨#[]⟩ = L at HN8 HR8 HIN hlen HR67 HR6 HR7
  go_wp2_with fail
  go_loopw [11] (fun i wr => ∃ k : Nat, k ≤ L.length ∧ i = .int .i64 k ∧ Hid (Below w8.heap.size w8 wr)) (fun i _ => L.length - (RowKit.intOf i).toNat)
  case atStart => exact ⟨0, Nat.zero_le _, rfl, Lib.hid (Below.refl _ _)⟩
  case round =>
    obtain ⟨k, hk, rfl, HBR⟩ := hrel
    have HSr := Lib.hid (HS8.out.below HBR.out)
    have HWr := Lib.hid (HW8.out.below HBR.out)
    by_cases hlt : k < L.length
    · have s1 : (k : Int) < (L.length : Int) := by omega
      have hNr : News wr _ _ := HN8.out.frame fun _ b hb => HBR.out.block b (row_lt HR8.out b hb)
      obtain ⟨ba, rfl, hac, hca⟩ := news_cell hNr hlt
      obtain ⟨hE, hsz⟩ := HIN.out k hlt
      have HE := Lib.hid hE
      clear hE hNr
      have hrow : ba.block < w8.heap.size := row_lt HR8.out _ (by simp [blkOf, Value.ownBlock])
      generalize L[k]'hlt = x at hca HE hsz
      rw [show encStr x = .string ⟨x.toArray⟩ from rfl] at hca
      have CR := Lib.hid (sys_read HSr.out ⟨x.toArray⟩ hsz)
      go_wp2_with fail
      refine CR.out.mono ?_
      rintro e w9 ⟨v9, rfl, hr9, hb9, hbl9⟩
      have hca9 : w9.cell? (ba.add k) = some (.string ⟨x.toArray⟩) := (hbl9.cell (p := ba.add k) (World.block_lt_of_cell? wr _ hca)).trans hca
      have HW9 := Lib.hid (HWr.out.below hbl9)
      have HBR9 := Lib.hid (HBR.out.trans (hbl9.mono HBR.out.size))
      have HR9 := Lib.hid hr9
      rw [HE.out]
      obtain ⟨a9, c9, hv9⟩ := row_slice hr9
      rw [List.length_map] at hv9
      subst hv9
      have CR2 := Lib.hid (sys_read HW9.out ⟨x.toArray⟩ hsz)
      clear CR hca hr9 hb9 hbl9
      go_wp2_with fail
      refine CR2.out.mono ?_
      rintro e w10 ⟨v10, rfl, hr10, hb10, hbl10⟩
      rw [(alike_of HAW.out HS2.out.inv.names _).trans HE.out]
      rw [alike_read HAW.out HS2.out.inv.names] at hr10
      obtain ⟨a10, c10, hv10⟩ := row_slice hr10
      rw [List.length_map] at hv10
      subst hv10
      have cv9 := conv_news (News.of_row (HR9.out.frame fun b hb => hbl10.block b (row_lt HR9.out b hb)))
      have cv10 := conv_news (News.of_row hr10)
      have HBR10 := Lib.hid (HBR9.out.trans (hbl10.mono HBR9.out.size))
      clear CR2 hr10 hb10 hbl10 hca9
      go_wp2_with fail
      go_roundw
      case measure => simp [RowKit.intOf]; omega
      case rel => exact ⟨k + 1, by omega, by go_num, HBR10⟩
    · have s1 : ¬ (k : Int) < (L.length : Int) := by omega
      have CU := Lib.hid (sys_used HSr.out (by omega))
      go_wp2_with fail
      refine CU.out.mono ?_
      rintro e w9 ⟨rfl, hbl9⟩
      have HBR9 := Lib.hid (HBR.out.trans (hbl9.mono HBR.out.size))
      have CU2 := Lib.hid (sys_used (HWr.out.below hbl9) (by omega))
      clear CU hbl9
      go_wp2_with fail
      refine CU2.out.mono ?_
      rintro e w10 ⟨rfl, hbl10⟩
      rw [alike_used HAW.out]
      have HBR10 := Lib.hid (HBR9.out.trans (hbl10.mono HBR9.out.size))
      clear CU2 hbl10
      go_wp2_with fail
      refine (awake_any w10).mono ?_
      rintro e w11 ⟨rfl, hbl11⟩
      have HBR11 := Lib.hid (HBR10.out.trans (hbl11.mono HBR10.out.size))
      clear hbl11
      go_wp2_with fail
      go_ret
      have h8 := HS8.out.bel
      exact ⟨rfl, h8.trans (HBR11.out.mono h8.size)⟩
end Go.Proofs.Ytijdgmbpkfmciaa.Fs
