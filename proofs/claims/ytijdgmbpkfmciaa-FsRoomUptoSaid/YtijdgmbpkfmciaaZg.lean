/- The file system: FsRoom walked. -/
import Derived.Test.YtijdgmbpkfmciaaZf
import Derived.Test.YtijdgmbpkfmciaaZa
import Derived.Test.YtijdgmbpkfmciaaOps
import Derived.Deep.RegionHeld3
namespace Go.Proofs.Ytijdgmbpkfmciaa.Fs
open Go.RowKit Go.Maps Go.ChangeMaps Go.WideMaps Go.Joins Go.Sort

theorem mask4095 (n : Int) : bits .and .i64 n 4095 = n % 4096 := by
  have key : (BitVec.ofInt 64 n &&& BitVec.ofInt 64 4095).toNat = (n % ((2 ^ 64 : Nat) : Int)).toNat % 2 ^ 12 := by
    rw [BitVec.toNat_and, BitVec.toNat_ofInt, show (BitVec.ofInt 64 4095).toNat = 2 ^ 12 - 1 by decide, Nat.and_two_pow_sub_one_eq_mod]
  show IntKind.i64.wrap ((BitVec.ofInt 64 n &&& BitVec.ofInt 64 4095).toNat : Nat) = n % 4096
  rw [key, IntKind.wrap_i64]
  omega
theorem mask1 (n : Int) : bits .and .i64 n 1 = n % 2 := by
  have key : (BitVec.ofInt 64 n &&& BitVec.ofInt 64 1).toNat = (n % ((2 ^ 64 : Nat) : Int)).toNat % 2 ^ 1 := by
    rw [BitVec.toNat_and, BitVec.toNat_ofInt, show (BitVec.ofInt 64 1).toNat = 2 ^ 1 - 1 by decide, Nat.and_two_pow_sub_one_eq_mod]
  show IntKind.i64.wrap ((BitVec.ofInt 64 n &&& BitVec.ofInt 64 1).toNat : Nat) = n % 2
  rw [key, IntKind.wrap_i64]
  omega
theorem conv_ab (t : Int) (h : 0 ≤ t ∧ t < 2) : ∃ nm, isAB nm ∧ ∀ w : World, (convert 27 9 (.slice (some ⟨w.heap.size, 0, none⟩) 1 1)).run Try.prog (w.alloc (.cells #[.int .u8 (97 + t)] 5)) = .ok (.string nm) (w.alloc (.cells #[.int .u8 (97 + t)] 5)) := by
  have key : ∀ (c : UInt8) (w : World), (convert 27 9 (.slice (some ⟨w.heap.size, 0, none⟩) 1 1)).run Try.prog (w.alloc (.cells #[byteV c] 5)) = .ok (.string ⟨#[c]⟩) (w.alloc (.cells #[byteV c] 5)) := fun c w => conv_news (news_cells w [c] (0, 0))
  by_cases e : t = 0
  · subst e
    exact ⟨nmA, .inl rfl, key 97⟩
  · have : t = 1 := by omega
    subst this
    exact ⟨nmB, .inr rfl, key 98⟩
theorem isAB.small {nm : ByteArray} (h : isAB nm) : nm.size ≤ maxLen := by
  rcases h with rfl | rfl <;> (unfold maxLen; decide)
theorem Next.at4 {P n : Nat} {w0 w w1 : World} {g g1 : Gh} {s1 : St} (h : Next P n w0 w w1 g g1 s1) {b i : Nat} {u : Value} (hc : w.cell? ⟨b, i, none⟩ = some u) (hb : Free w g b) : w1.cell? ⟨b, i, none⟩ = some u :=
  (World.cell?_of_block (a := ⟨b, i, none⟩) (h.free hb).2).trans hc
theorem take_sum (l : List Nat) (m : Nat) (h : m < l.length) : (l.take (m + 1)).sum = (l.take m).sum + l[m]'h ∧ (l.take (m + 1)).sum ≤ l.sum := by
  refine ⟨by rw [List.take_add_one, List.getElem?_eq_getElem h, List.sum_append]; simp, ?_⟩
  have := List.take_append_drop (m + 1) l
  have h2 := congrArg List.sum this
  rw [List.sum_append] at h2
  omega
theorem sys_room {P n : Nat} {w0 w : World} {g : Gh} {s : St} (h : Sys P n w0 w g s) : IdsD s.names g.ids ∧ Tidy s.names ∧ StrMap s.names := ⟨h.inv.names, h.inv.tidy, strMap_of_owns h.rep.nm⟩
theorem room_ids {Q : Int} {s : St} {ids ids' : List Nat} (h : Room Q s ids) (hs : ∀ f ∈ ids, f ∈ ids') : Room Q s ids' := ⟨h.q, h.d, h.f, h.k, h.i, h.u, h.g.mono hs, h.td, h.sm⟩

set_option maxHeartbeats 4000000 in
set_option maxRecDepth 100000 in
theorem room_walk (q0 : Int) (ov : Value) (ops : List OpV) (w : World) (_ : -9223372036854775808 ≤ q0 ∧ q0 < 9223372036854775808) (ho : OpsAt w ov ops) (_ : ops.length ≤ 9223372036854775807) :
    Calls Try.prog 4 #[.int .i64 q0, ov] w fun e w' => e = .returned (.bool true) ∧ Below w.heap.size w w' := by
  have hq := mask4095 q0
  obtain ⟨Q, hQ⟩ : ∃ Q, Q = q0 % 4096 := ⟨_, rfl⟩
  rw [← hQ] at hq
  have hQ0 : 0 ≤ Q := by omega
  have hQ1 : Q < 4096 := by omega
  clear hQ
  have CN := Lib.hid (sys_new Q w w hQ0 (by omega) (Below.refl _ _))
  obtain ⟨oa, ol, oc, hov, hol2⟩ : ∃ oa ol oc, ov = .slice oa ol oc ∧ ol = ops.length := by
    rcases ho with ⟨h1, a, c, h2⟩ | ⟨b, off, c, h1, _⟩
    · exact ⟨a, 0, c, h2, by rw [h1]; rfl⟩
    · exact ⟨_, _, c, h1, rfl⟩
  subst hol2
  subst hov
  have HOP := Lib.hid ho
  clear ho
  go_enter Try.func4, Try.ntmps4
  go_wp2_with fail
  refine CN.out.mono ?_
  rintro e w1 ⟨P, g, rfl, -, HS, -, -⟩
  have HS1 := Lib.hid HS
  clear HS CN
  go_wp2_with fail
  go_loopw [7] (fun i wr => ∃ (j : Nat) (gk : Gh) (s : St), j ≤ ops.length ∧ j ≤ 40 ∧ i = .int .i64 j ∧ Hid (Sys P (2 * j) w wr gk s) ∧ Hid (Room Q s gk.ids)) (fun i _ => 40 - (RowKit.intOf i).toNat)
  case atStart => exact ⟨0, g, _, Nat.zero_le _, Nat.zero_le _, rfl, HS1, Lib.hid (room_new hQ0 _)⟩
  case round =>
    obtain ⟨j, gk, s, hj, hj40, rfl, HS, HR⟩ := hrel
    by_cases hjl : j < ops.length ∧ j < 40
    · obtain ⟨hj1, hj2⟩ := hjl
      have s1 : (j : Int) < (ops.length : Int) := by omega
      have s2 : (j : Int) < 40 := by omega
      rcases HOP.out with ⟨e, _⟩ | ⟨ob, off, c, e, hlc, hob, hat⟩
      · rw [e] at hj1; exact absurd hj1 (by simp)
      simp only [Value.slice.injEq] at e
      obtain ⟨rfl, -, -⟩ := e
      obtain ⟨hra0, hoa⟩ := hat j hj1
      have HOA := Lib.hid hoa
      generalize (ops[j]'hj1) = o at hra0 HOA
      obtain ⟨kind, n, a, b, odv, odata, okv, okeep⟩ := o
      have hra : wr.rangeAt ob (off + j * 6) _ := fun q u hq => (HS.out.bel.cell (p := ⟨ob, off + j * 6 + q, none⟩) hob).trans (hra0 q u hq)
      have c0 : wr.cell? ⟨ob, off + j * 6, none⟩ = some (.int .i64 kind) := hra 0 _ rfl
      have c1 : wr.cell? ⟨ob, off + j * 6 + 1, none⟩ = some (.int .i64 n) := hra 1 _ rfl
      have c2 : wr.cell? ⟨ob, off + j * 6 + 2, none⟩ = some (.string a) := hra 2 _ rfl
      have c3 : wr.cell? ⟨ob, off + j * 6 + 3, none⟩ = some (.string b) := hra 3 _ rfl
      have c4 : wr.cell? ⟨ob, off + j * 6 + 4, none⟩ = some odv := hra 4 _ rfl
      have c5 : wr.cell? ⟨ob, off + j * 6 + 5, none⟩ = some okv := hra 5 _ rfl
      obtain ⟨oda, odc, e1⟩ := HOA.out.data.slice
      rw [List.length_map] at e1
      obtain ⟨oka, okc, e2⟩ := HOA.out.keep.slice
      rw [List.length_map] at e2
      simp only at e1 e2
      subst e1
      subst e2
      have hodl := HOA.out.dlen
      simp only at hodl
      obtain ⟨t, ht⟩ : ∃ t, t = n % 2 := ⟨_, rfl⟩
      have ht2 : 0 ≤ t ∧ t < 2 := by omega
      have hm1 : bits .and .i64 n 1 = t := by rw [mask1, ht]
      obtain ⟨nm, hnm, hcv0⟩ := conv_ab t ht2
      have hcv : ∀ o, (convert 27 9 (.slice (some ⟨wr.heap.size + 1, 0, none⟩) 1 1)).run Try.prog ((wr.alloc o).alloc (.cells #[.int .u8 (97 + t)] 5)) = .ok (.string nm) ((wr.alloc o).alloc (.cells #[.int .u8 (97 + t)] 5)) := fun o => by
        have := hcv0 (wr.alloc o)
        rw [show (wr.alloc o).heap.size = wr.heap.size + 1 from by simp] at this
        exact this
      clear hcv0
      have hnz := hnm.small
      have t1 : 0 ≤ t := ht2.1
      have t2 : t < 2 := ht2.2
      clear ht2 ht hra hra0 hoa hat
      have hS0 := HS.out.below (((Below.refl wr.heap.size wr).alloc (Nat.le_refl _) (.cells #[.int .i64 kind, .int .i64 n, .string a, .string b, .slice oda odata.length odc, .slice oka okeep.length okc] 39)).alloc (by simp) (.cells #[.int .u8 (97 + t)] 5))
      have k00 : ((wr.alloc (.cells #[.int .i64 kind, .int .i64 n, .string a, .string b, .slice oda odata.length odc, .slice oka okeep.length okc] 39)).alloc (.cells #[.int .u8 (97 + t)] 5)).cell? ⟨wr.heap.size, 0, none⟩ = some (.int .i64 kind) := Go.Lib.cell?_alloc_some _ (by simp [go_sem])
      have k04 : ((wr.alloc (.cells #[.int .i64 kind, .int .i64 n, .string a, .string b, .slice oda odata.length odc, .slice oka okeep.length okc] 39)).alloc (.cells #[.int .u8 (97 + t)] 5)).cell? ⟨wr.heap.size, 4, none⟩ = some (.slice oda odata.length odc) := Go.Lib.cell?_alloc_some _ (by simp [go_sem])
      have hF0 : Free ((wr.alloc (.cells #[.int .i64 kind, .int .i64 n, .string a, .string b, .slice oda odata.length odc, .slice oka okeep.length okc] 39)).alloc (.cells #[.int .u8 (97 + t)] 5)) gk wr.heap.size := HS.out.free_new (Nat.le_refl _) (by simp; omega)
      have CU := Lib.hid (sys_used hS0 (by omega))
      have HS0 := Lib.hid hS0
      have HF0 := Lib.hid hF0
      clear hS0 hF0
      go_wp2_with fail
      obtain ⟨tb, htb⟩ : ∃ tb, wr.heap.size = tb := ⟨_, rfl⟩
      obtain ⟨wA, hwA⟩ : ∃ wA, (wr.alloc (.cells #[.int .i64 kind, .int .i64 n, .string a, .string b, .slice oda odata.length odc, .slice oka okeep.length okc] 39)).alloc (.cells #[.int .u8 (97 + t)] 5) = wA := ⟨_, rfl⟩
      rw [hwA] at k00 k04 CU HS0 HF0 ⊢
      rw [htb] at k00 k04 HF0 ⊢
      clear hwA htb hcv c0 c1 c2 c3 c4 c5 hm1
      refine CU.out.mono ?_
      rintro e w2 ⟨rfl, hbU⟩
      have hlt0 := HF0.out.1
      have k0 : w2.cell? ⟨tb, 0, none⟩ = some (.int .i64 kind) := (hbU.cell (p := ⟨tb, 0, none⟩) hlt0).trans k00
      have k4 : w2.cell? ⟨tb, 4, none⟩ = some (.slice oda odata.length odc) := (hbU.cell (p := ⟨tb, 4, none⟩) hlt0).trans k04
      have HS2 := Lib.hid (HS0.out.below hbU)
      have HF2 := Lib.hid (HF0.out.below hbU)
      clear hbU k00 k04 CU HS0 HF0 hlt0
      by_cases hk4 : kind = 4
      · subst hk4
        have C := Lib.hid (sys_rename HS2.out (by omega) nmA nmB (by unfold maxLen; decide) (by unfold maxLen; decide))
        go_wp2_with fail
        refine C.out.mono ?_
        rintro e w3 ⟨rfl, g3, HN⟩
        have HRx := Lib.hid (room_rename HR.out (sys_room HN.sys).1 (sys_room HN.sys).2.1 (sys_room HN.sys).2.2)
        have HSx := Lib.hid HN.sys
        clear HN C
        generalize renameS s nmA nmB = s3 at HRx HSx
        have hus := room_used HRx.out
        have hsum := lens_sum HRx.out
        have hule : (used s3 : Int) ≤ Q := by rw [hus]; exact HRx.out.u
        have CL := Lib.hid (sys_list HSx.out (by omega) ⟨#[]⟩)
        have HSUM := Lib.hid hsum
        clear hus hsum
        go_wp2_with fail
        refine CL.out.mono ?_
        rintro e wl ⟨vl, rfl, hrl, hbl, hbel⟩
        rw [room_list HRx.out] at hrl
        have HEACH := Lib.hid (fun x hx => room_each HRx.out (x := x) hx)
        obtain ⟨L, hL⟩ : ∃ L, L = namesAB s3 := ⟨_, rfl⟩
        obtain ⟨LN, hLN⟩ : ∃ LN, LN = lensOf s3 := ⟨_, rfl⟩
        have hll : LN.length = L.length := by rw [hLN, hL]; simp [lensOf]
        have HLG := Lib.hid (show ∀ m (hm : m < L.length), LN[m]'(by omega) = (readL s3 ⟨(L[m]'hm).toArray⟩).length from by
          intro m hm
          subst hLN hL
          simp [lensOf])
        rw [← hL] at hrl HEACH
        rw [← hLN] at HSUM
        obtain ⟨la, lc, hvl⟩ := row_slice hrl
        rw [List.length_map] at hvl
        subst hvl
        have HSL := Lib.hid (HSx.out.below hbel)
        have HRL := Lib.hid hrl
        have hL4 : L.length ≤ 2 := by rw [hL]; unfold namesAB; split <;> split <;> simp
        clear hrl hbl hbel CL hL hLN HSx
        go_wp2_with fail
        go_loopw [12, 14] (fun sm i wr => ∃ m : Nat, m ≤ L.length ∧ i = .int .i64 m ∧ sm = .int .i64 ((LN.take m).sum : Nat) ∧ Hid (Below wl.heap.size wl wr)) (fun _ i _ => L.length - (RowKit.intOf i).toNat)
        case atStart => exact ⟨0, Nat.zero_le _, rfl, rfl, Lib.hid (Below.refl _ _)⟩
        case round =>
          obtain ⟨m, hm, rfl, rfl, HB⟩ := hrel
          by_cases hml : m < L.length
          · have r1 : (m : Int) < (L.length : Int) := by omega
            have hlc : ∃ lb, la = some ⟨lb, 0, none⟩ ∧ wl.cell? ⟨lb, m, none⟩ = some (.string ⟨(L[m]'hml).toArray⟩) ∧ lb < wl.heap.size := by
              rcases HRL.out with ⟨_, e2⟩ | ⟨lb, cap, cur, e, h1, h2, h3, h4, h5, h6⟩
              · have : L = [] := by simpa using e2
                rw [this] at hml; exact absurd hml (by simp)
              · simp only [Value.slice.injEq] at e
                refine ⟨lb, e.1, ?_, (Array.getElem?_eq_some_iff.1 h1).1⟩
                have e2 : (L.map encStr)[m]? = some (.string ⟨(L[m]'hml).toArray⟩) := by rw [List.getElem?_map, List.getElem?_eq_getElem hml]; rfl
                rw [← h6, List.getElem?_take] at e2
                rw [World.cell?]
                simp only [h1]
                split at e2
                · simpa using e2
                · cases e2
            obtain ⟨lb, rfl, hlc, hlb⟩ := hlc
            have hlo : wr.cell? ⟨lb, m, none⟩ = some (.string ⟨(L[m]'hml).toArray⟩) := (HB.out.cell (p := ⟨lb, m, none⟩) hlb).trans hlc
            obtain ⟨e1, e2⟩ := HEACH.out _ (List.getElem_mem hml)
            have CR := Lib.hid (sys_read (HSL.out.below HB.out) ⟨(L[m]'hml).toArray⟩ (by show (L[m]'hml).toArray.size ≤ maxLen; unfold maxLen; simp; omega))
            have HE1 := Lib.hid e1
            obtain ⟨t3, t4⟩ := take_sum LN m (by omega)
            have HT3 := Lib.hid t3
            have hlg := HLG.out m hml
            rw [HSUM.out] at t4
            rw [hlg] at t3
            generalize (⟨(L[m]'hml).toArray⟩ : ByteArray) = x at hlo CR HE1 t3 hlg
            clear e1 e2 hlc
            go_wp2_with fail
            refine CR.out.mono ?_
            rintro e wx ⟨v, rfl, hrx, -, hbx⟩
            rw [HE1.out]
            obtain ⟨xa, xc, hv⟩ := row_slice hrx
            rw [List.length_map] at hv
            subst hv
            have HBX := Lib.hid (HB.out.trans (hbx.mono HB.out.size))
            obtain ⟨ln, hln⟩ : ∃ ln, ln = (readL s3 x).length := ⟨_, rfl⟩
            rw [← hln] at t3 hlg ⊢
            have hw : IntKind.i64.wrap (((LN.take m).sum : Nat) + (ln : Int)) = (((LN.take (m + 1)).sum : Nat) : Int) := by rw [IntWalk.i64_in _ (by omega), t3]; omega
            clear hrx hbx hlo CR hln hlg t3
            go_wp2
            go_roundw
            case measure => simp [RowKit.intOf]; omega
            case rel => exact ⟨m + 1, by omega, by go_num, rfl, HBX⟩
          · have r1 : ¬ (m : Int) < (L.length : Int) := by omega
            have hsm : (LN.take m).sum = used s3 := by rw [List.take_of_length_le (by omega)]; exact HSUM.out
            rw [hsm]
            have CU2 := Lib.hid (sys_used (HSL.out.below HB.out) (by omega))
            have HSZ := Lib.hid (HSL.out.below HB.out)
            clear hsm
            go_wp2_with fail
            refine CU2.out.mono ?_
            rintro e wz ⟨rfl, hbz⟩
            have HSY := Lib.hid (HSZ.out.below hbz)
            clear hbz CU2
            go_wp2
            go_roundw
            case measure => simp [RowKit.intOf]; omega
            case rel => exact ⟨j + 1, g3, s3, by omega, by omega, by go_num, Lib.hid (HSY.out.mono (by omega)), HRx⟩
      by_cases hk5 : kind = 5
      · subst hk5
        have C := Lib.hid (sys_remove HS2.out (by omega) nm hnz)
        go_wp2_with fail
        refine C.out.mono ?_
        rintro e w3 ⟨rfl, g3, HN⟩
        have HRx := Lib.hid (room_remove HR.out hnm (sys_room HN.sys).1 (sys_room HN.sys).2.1 (sys_room HN.sys).2.2)
        have HSx := Lib.hid HN.sys
        clear HN C
        generalize removeS s nm = s3 at HRx HSx
        have hus := room_used HRx.out
        have hsum := lens_sum HRx.out
        have hule : (used s3 : Int) ≤ Q := by rw [hus]; exact HRx.out.u
        have CL := Lib.hid (sys_list HSx.out (by omega) ⟨#[]⟩)
        have HSUM := Lib.hid hsum
        clear hus hsum
        go_wp2_with fail
        refine CL.out.mono ?_
        rintro e wl ⟨vl, rfl, hrl, hbl, hbel⟩
        rw [room_list HRx.out] at hrl
        have HEACH := Lib.hid (fun x hx => room_each HRx.out (x := x) hx)
        obtain ⟨L, hL⟩ : ∃ L, L = namesAB s3 := ⟨_, rfl⟩
        obtain ⟨LN, hLN⟩ : ∃ LN, LN = lensOf s3 := ⟨_, rfl⟩
        have hll : LN.length = L.length := by rw [hLN, hL]; simp [lensOf]
        have HLG := Lib.hid (show ∀ m (hm : m < L.length), LN[m]'(by omega) = (readL s3 ⟨(L[m]'hm).toArray⟩).length from by
          intro m hm
          subst hLN hL
          simp [lensOf])
        rw [← hL] at hrl HEACH
        rw [← hLN] at HSUM
        obtain ⟨la, lc, hvl⟩ := row_slice hrl
        rw [List.length_map] at hvl
        subst hvl
        have HSL := Lib.hid (HSx.out.below hbel)
        have HRL := Lib.hid hrl
        have hL4 : L.length ≤ 2 := by rw [hL]; unfold namesAB; split <;> split <;> simp
        clear hrl hbl hbel CL hL hLN HSx
        go_wp2_with fail
        go_loopw [12, 14] (fun sm i wr => ∃ m : Nat, m ≤ L.length ∧ i = .int .i64 m ∧ sm = .int .i64 ((LN.take m).sum : Nat) ∧ Hid (Below wl.heap.size wl wr)) (fun _ i _ => L.length - (RowKit.intOf i).toNat)
        case atStart => exact ⟨0, Nat.zero_le _, rfl, rfl, Lib.hid (Below.refl _ _)⟩
        case round =>
          obtain ⟨m, hm, rfl, rfl, HB⟩ := hrel
          by_cases hml : m < L.length
          · have r1 : (m : Int) < (L.length : Int) := by omega
            have hlc : ∃ lb, la = some ⟨lb, 0, none⟩ ∧ wl.cell? ⟨lb, m, none⟩ = some (.string ⟨(L[m]'hml).toArray⟩) ∧ lb < wl.heap.size := by
              rcases HRL.out with ⟨_, e2⟩ | ⟨lb, cap, cur, e, h1, h2, h3, h4, h5, h6⟩
              · have : L = [] := by simpa using e2
                rw [this] at hml; exact absurd hml (by simp)
              · simp only [Value.slice.injEq] at e
                refine ⟨lb, e.1, ?_, (Array.getElem?_eq_some_iff.1 h1).1⟩
                have e2 : (L.map encStr)[m]? = some (.string ⟨(L[m]'hml).toArray⟩) := by rw [List.getElem?_map, List.getElem?_eq_getElem hml]; rfl
                rw [← h6, List.getElem?_take] at e2
                rw [World.cell?]
                simp only [h1]
                split at e2
                · simpa using e2
                · cases e2
            obtain ⟨lb, rfl, hlc, hlb⟩ := hlc
            have hlo : wr.cell? ⟨lb, m, none⟩ = some (.string ⟨(L[m]'hml).toArray⟩) := (HB.out.cell (p := ⟨lb, m, none⟩) hlb).trans hlc
            obtain ⟨e1, e2⟩ := HEACH.out _ (List.getElem_mem hml)
            have CR := Lib.hid (sys_read (HSL.out.below HB.out) ⟨(L[m]'hml).toArray⟩ (by show (L[m]'hml).toArray.size ≤ maxLen; unfold maxLen; simp; omega))
            have HE1 := Lib.hid e1
            obtain ⟨t3, t4⟩ := take_sum LN m (by omega)
            have HT3 := Lib.hid t3
            have hlg := HLG.out m hml
            rw [HSUM.out] at t4
            rw [hlg] at t3
            generalize (⟨(L[m]'hml).toArray⟩ : ByteArray) = x at hlo CR HE1 t3 hlg
            clear e1 e2 hlc
            go_wp2_with fail
            refine CR.out.mono ?_
            rintro e wx ⟨v, rfl, hrx, -, hbx⟩
            rw [HE1.out]
            obtain ⟨xa, xc, hv⟩ := row_slice hrx
            rw [List.length_map] at hv
            subst hv
            have HBX := Lib.hid (HB.out.trans (hbx.mono HB.out.size))
            obtain ⟨ln, hln⟩ : ∃ ln, ln = (readL s3 x).length := ⟨_, rfl⟩
            rw [← hln] at t3 hlg ⊢
            have hw : IntKind.i64.wrap (((LN.take m).sum : Nat) + (ln : Int)) = (((LN.take (m + 1)).sum : Nat) : Int) := by rw [IntWalk.i64_in _ (by omega), t3]; omega
            clear hrx hbx hlo CR hln hlg t3
            go_wp2
            go_roundw
            case measure => simp [RowKit.intOf]; omega
            case rel => exact ⟨m + 1, by omega, by go_num, rfl, HBX⟩
          · have r1 : ¬ (m : Int) < (L.length : Int) := by omega
            have hsm : (LN.take m).sum = used s3 := by rw [List.take_of_length_le (by omega)]; exact HSUM.out
            rw [hsm]
            have CU2 := Lib.hid (sys_used (HSL.out.below HB.out) (by omega))
            have HSZ := Lib.hid (HSL.out.below HB.out)
            clear hsm
            go_wp2_with fail
            refine CU2.out.mono ?_
            rintro e wz ⟨rfl, hbz⟩
            have HSY := Lib.hid (HSZ.out.below hbz)
            clear hbz CU2
            go_wp2
            go_roundw
            case measure => simp [RowKit.intOf]; omega
            case rel => exact ⟨j + 1, g3, s3, by omega, by omega, by go_num, Lib.hid (HSY.out.mono (by omega)), HRx⟩
      have C := Lib.hid (sys_create HS2.out (by omega) nm hnz)
      have HU := Lib.hid (room_used HR.out)
      go_wp2_with fail
      refine C.out.mono ?_
      rintro e w3 ⟨rfl, f, g3, hf, -, HN⟩
      obtain ⟨HR3, n1, n2, hl3⟩ := room_create HR.out hnm hf (sys_room HN.sys).1 (sys_room HN.sys).2.1 (sys_room HN.sys).2.2
      have hU3 : used (createS s nm f) = used s := by rw [room_used HR3, n1, n2, HU.out]
      have k43 := HN.at4 k4 HF2.out
      have HF3 := Lib.hid (HN.free HF2.out).1
      have HS3 := Lib.hid HN.sys
      generalize createS s nm f = s3 at HS3 HR3 hU3 hl3
      have HR3' := Lib.hid HR3
      have dA : News w3 (.slice oda odata.length odc) (odata.map byteV) := HOA.out.data.frame fun hx b hb => HS3.out.bel.block b (HOA.out.data.lt hx b hb)
      have dF : odata ≠ [] → ∀ b ∈ blkOf (.slice oda odata.length odc), Free w3 g3 b := fun hx b hb => HS3.out.free_old (HOA.out.data.lt (fun e => hx (List.map_eq_nil_iff.1 e)) b hb)
      have C2 := Lib.hid (sys_append HS3.out (by omega) nm hnz (.slice oda odata.length odc) odata hodl dA dF)
      have HL3 := Lib.hid hl3
      have HU3 := Lib.hid hU3
      have hUQ : (used s : Int) ≤ Q := by rw [HU.out]; exact HR.out.u
      clear HN C hf n1 n2 hU3 HR3 dA dF k4 hl3
      go_wp2_with fail
      refine C2.out.mono ?_
      rintro e w4 ⟨rfl, g4, HN⟩
      obtain ⟨HR4, hor⟩ := room_append HR3'.out hnm HL3.out odata (sys_room HN.sys).1 (sys_room HN.sys).2.1 (sys_room HN.sys).2.2
      rw [HU3.out] at hor
      have k44 := HN.at4 k43 HF3.out
      have HF4 := Lib.hid (HN.free HF3.out).1
      have HSx := Lib.hid HN.sys
      have HRx := Lib.hid HR4
      have hw1 : IntKind.i64.wrap (Q - (used s : Nat)) = Q - (used s : Nat) := IntWalk.i64_in _ (by omega)
      clear HN C2 HR4 k43
      rcases hor with ⟨hq, hE, hU4⟩ | ⟨hq, hE⟩
      · rw [hE]
        have HU4 := Lib.hid hU4
        generalize appendS s3 nm odata = s4 at HSx HRx HU4 hU4
        have hw2 : IntKind.i64.wrap ((used s : Nat) + (odata.length : Int)) = ((used s4 : Nat) : Int) := by rw [IntWalk.i64_in _ (by omega), hU4]; omega
        have cU : ∀ w', Below w4.heap.size w4 w' → Calls Try.prog 16 #[.pointer (some ⟨P, 0, none⟩)] w' fun e w'' => e = .returned (.int .i64 (used s4 : Nat)) ∧ Below w4.heap.size w4 w'' := fun w' hb => (sys_used (HSx.out.below hb) (by omega)).mono fun _ _ hh => ⟨hh.1, hb.trans (hh.2.mono hb.size)⟩
        have hbd : Below w4.heap.size w4 w4.drew := (Below.refl _ _).drew
        have hlt4 := HF4.out.1
        clear hE hU4
        go_wp2_with fail
        go_region_held3 (fun w' => w'.cell? ⟨tb, 4, none⟩ = some (.slice oda odata.length odc) ∧ Below w4.heap.size w4 w') (first | exact ⟨k44, hbd⟩ | exact ⟨(hbu.cell (p := ⟨tb, 4, none⟩) hlt4).trans k44, hbu⟩) (first | (go_at_call 16; refine (cU _ (by first | assumption | (rename_i hh; exact hh.2))).mono ?_; rintro e wu ⟨rfl, hbu⟩))
        have HSx0 := HSx
        have HSx := Lib.hid (HSx0.out.below hbu)
        clear HSx0 cU hbd hlt4 k44 hbu hw2
        have hus := room_used HRx.out
        have hsum := lens_sum HRx.out
        have hule : (used s4 : Int) ≤ Q := by rw [hus]; exact HRx.out.u
        have CL := Lib.hid (sys_list HSx.out (by omega) ⟨#[]⟩)
        have HSUM := Lib.hid hsum
        clear hus hsum
        go_wp2_with fail
        refine CL.out.mono ?_
        rintro e wl ⟨vl, rfl, hrl, hbl, hbel⟩
        rw [room_list HRx.out] at hrl
        have HEACH := Lib.hid (fun x hx => room_each HRx.out (x := x) hx)
        obtain ⟨L, hL⟩ : ∃ L, L = namesAB s4 := ⟨_, rfl⟩
        obtain ⟨LN, hLN⟩ : ∃ LN, LN = lensOf s4 := ⟨_, rfl⟩
        have hll : LN.length = L.length := by rw [hLN, hL]; simp [lensOf]
        have HLG := Lib.hid (show ∀ m (hm : m < L.length), LN[m]'(by omega) = (readL s4 ⟨(L[m]'hm).toArray⟩).length from by
          intro m hm
          subst hLN hL
          simp [lensOf])
        rw [← hL] at hrl HEACH
        rw [← hLN] at HSUM
        obtain ⟨la, lc, hvl⟩ := row_slice hrl
        rw [List.length_map] at hvl
        subst hvl
        have HSL := Lib.hid (HSx.out.below hbel)
        have HRL := Lib.hid hrl
        have hL4 : L.length ≤ 2 := by rw [hL]; unfold namesAB; split <;> split <;> simp
        clear hrl hbl hbel CL hL hLN HSx
        go_wp2_with fail
        go_loopw [12, 14] (fun sm i wr => ∃ m : Nat, m ≤ L.length ∧ i = .int .i64 m ∧ sm = .int .i64 ((LN.take m).sum : Nat) ∧ Hid (Below wl.heap.size wl wr)) (fun _ i _ => L.length - (RowKit.intOf i).toNat)
        case atStart => exact ⟨0, Nat.zero_le _, rfl, rfl, Lib.hid (Below.refl _ _)⟩
        case round =>
          obtain ⟨m, hm, rfl, rfl, HB⟩ := hrel
          by_cases hml : m < L.length
          · have r1 : (m : Int) < (L.length : Int) := by omega
            have hlc : ∃ lb, la = some ⟨lb, 0, none⟩ ∧ wl.cell? ⟨lb, m, none⟩ = some (.string ⟨(L[m]'hml).toArray⟩) ∧ lb < wl.heap.size := by
              rcases HRL.out with ⟨_, e2⟩ | ⟨lb, cap, cur, e, h1, h2, h3, h4, h5, h6⟩
              · have : L = [] := by simpa using e2
                rw [this] at hml; exact absurd hml (by simp)
              · simp only [Value.slice.injEq] at e
                refine ⟨lb, e.1, ?_, (Array.getElem?_eq_some_iff.1 h1).1⟩
                have e2 : (L.map encStr)[m]? = some (.string ⟨(L[m]'hml).toArray⟩) := by rw [List.getElem?_map, List.getElem?_eq_getElem hml]; rfl
                rw [← h6, List.getElem?_take] at e2
                rw [World.cell?]
                simp only [h1]
                split at e2
                · simpa using e2
                · cases e2
            obtain ⟨lb, rfl, hlc, hlb⟩ := hlc
            have hlo : wr.cell? ⟨lb, m, none⟩ = some (.string ⟨(L[m]'hml).toArray⟩) := (HB.out.cell (p := ⟨lb, m, none⟩) hlb).trans hlc
            obtain ⟨e1, e2⟩ := HEACH.out _ (List.getElem_mem hml)
            have CR := Lib.hid (sys_read (HSL.out.below HB.out) ⟨(L[m]'hml).toArray⟩ (by show (L[m]'hml).toArray.size ≤ maxLen; unfold maxLen; simp; omega))
            have HE1 := Lib.hid e1
            obtain ⟨t3, t4⟩ := take_sum LN m (by omega)
            have HT3 := Lib.hid t3
            have hlg := HLG.out m hml
            rw [HSUM.out] at t4
            rw [hlg] at t3
            generalize (⟨(L[m]'hml).toArray⟩ : ByteArray) = x at hlo CR HE1 t3 hlg
            clear e1 e2 hlc
            go_wp2_with fail
            refine CR.out.mono ?_
            rintro e wx ⟨v, rfl, hrx, -, hbx⟩
            rw [HE1.out]
            obtain ⟨xa, xc, hv⟩ := row_slice hrx
            rw [List.length_map] at hv
            subst hv
            have HBX := Lib.hid (HB.out.trans (hbx.mono HB.out.size))
            obtain ⟨ln, hln⟩ : ∃ ln, ln = (readL s4 x).length := ⟨_, rfl⟩
            rw [← hln] at t3 hlg ⊢
            have hw : IntKind.i64.wrap (((LN.take m).sum : Nat) + (ln : Int)) = (((LN.take (m + 1)).sum : Nat) : Int) := by rw [IntWalk.i64_in _ (by omega), t3]; omega
            clear hrx hbx hlo CR hln hlg t3
            go_wp2
            go_roundw
            case measure => simp [RowKit.intOf]; omega
            case rel => exact ⟨m + 1, by omega, by go_num, rfl, HBX⟩
          · have r1 : ¬ (m : Int) < (L.length : Int) := by omega
            have hsm : (LN.take m).sum = used s4 := by rw [List.take_of_length_le (by omega)]; exact HSUM.out
            rw [hsm]
            have CU2 := Lib.hid (sys_used (HSL.out.below HB.out) (by omega))
            have HSZ := Lib.hid (HSL.out.below HB.out)
            clear hsm
            go_wp2_with fail
            refine CU2.out.mono ?_
            rintro e wz ⟨rfl, hbz⟩
            have HSY := Lib.hid (HSZ.out.below hbz)
            clear hbz CU2
            go_wp2
            go_roundw
            case measure => simp [RowKit.intOf]; omega
            case rel => exact ⟨j + 1, g4, s4, by omega, by omega, by go_num, Lib.hid (HSY.out.mono (by omega)), HRx⟩
      · rw [hE]
        have hq2 : Q - (used s : Nat) < (odata.length : Int) := by omega
        generalize appendS s3 nm odata = s4 at HSx HRx
        clear hE hq
        go_wp2_with fail
        go_quiet (fail)
        obtain ⟨wq, hwq⟩ : ∃ wq, w4.drewN nq = wq := ⟨_, rfl⟩
        have HSx0 := HSx
        have hbq : Below w4.heap.size w4 (w4.drewN nq) := ⟨rfl, rfl, rfl, Nat.le_refl _, fun _ _ => rfl⟩
        have HSx : Hid (Sys P (2 * j + 1 + 1) w wq g4 s4) := Lib.hid (by rw [← hwq]; exact (HSx0.out.below hbq).mono (Nat.le_succ _))
        rw [hwq]
        clear hwq hbq HSx0 k44 hw1
        have hus := room_used HRx.out
        have hsum := lens_sum HRx.out
        have hule : (used s4 : Int) ≤ Q := by rw [hus]; exact HRx.out.u
        have CL := Lib.hid (sys_list HSx.out (by omega) ⟨#[]⟩)
        have HSUM := Lib.hid hsum
        clear hus hsum
        go_wp2_with fail
        refine CL.out.mono ?_
        rintro e wl ⟨vl, rfl, hrl, hbl, hbel⟩
        rw [room_list HRx.out] at hrl
        have HEACH := Lib.hid (fun x hx => room_each HRx.out (x := x) hx)
        obtain ⟨L, hL⟩ : ∃ L, L = namesAB s4 := ⟨_, rfl⟩
        obtain ⟨LN, hLN⟩ : ∃ LN, LN = lensOf s4 := ⟨_, rfl⟩
        have hll : LN.length = L.length := by rw [hLN, hL]; simp [lensOf]
        have HLG := Lib.hid (show ∀ m (hm : m < L.length), LN[m]'(by omega) = (readL s4 ⟨(L[m]'hm).toArray⟩).length from by
          intro m hm
          subst hLN hL
          simp [lensOf])
        rw [← hL] at hrl HEACH
        rw [← hLN] at HSUM
        obtain ⟨la, lc, hvl⟩ := row_slice hrl
        rw [List.length_map] at hvl
        subst hvl
        have HSL := Lib.hid (HSx.out.below hbel)
        have HRL := Lib.hid hrl
        have hL4 : L.length ≤ 2 := by rw [hL]; unfold namesAB; split <;> split <;> simp
        clear hrl hbl hbel CL hL hLN HSx
        go_wp2_with fail
        go_loopw [12, 14] (fun sm i wr => ∃ m : Nat, m ≤ L.length ∧ i = .int .i64 m ∧ sm = .int .i64 ((LN.take m).sum : Nat) ∧ Hid (Below wl.heap.size wl wr)) (fun _ i _ => L.length - (RowKit.intOf i).toNat)
        case atStart => exact ⟨0, Nat.zero_le _, rfl, rfl, Lib.hid (Below.refl _ _)⟩
        case round =>
          obtain ⟨m, hm, rfl, rfl, HB⟩ := hrel
          by_cases hml : m < L.length
          · have r1 : (m : Int) < (L.length : Int) := by omega
            have hlc : ∃ lb, la = some ⟨lb, 0, none⟩ ∧ wl.cell? ⟨lb, m, none⟩ = some (.string ⟨(L[m]'hml).toArray⟩) ∧ lb < wl.heap.size := by
              rcases HRL.out with ⟨_, e2⟩ | ⟨lb, cap, cur, e, h1, h2, h3, h4, h5, h6⟩
              · have : L = [] := by simpa using e2
                rw [this] at hml; exact absurd hml (by simp)
              · simp only [Value.slice.injEq] at e
                refine ⟨lb, e.1, ?_, (Array.getElem?_eq_some_iff.1 h1).1⟩
                have e2 : (L.map encStr)[m]? = some (.string ⟨(L[m]'hml).toArray⟩) := by rw [List.getElem?_map, List.getElem?_eq_getElem hml]; rfl
                rw [← h6, List.getElem?_take] at e2
                rw [World.cell?]
                simp only [h1]
                split at e2
                · simpa using e2
                · cases e2
            obtain ⟨lb, rfl, hlc, hlb⟩ := hlc
            have hlo : wr.cell? ⟨lb, m, none⟩ = some (.string ⟨(L[m]'hml).toArray⟩) := (HB.out.cell (p := ⟨lb, m, none⟩) hlb).trans hlc
            obtain ⟨e1, e2⟩ := HEACH.out _ (List.getElem_mem hml)
            have CR := Lib.hid (sys_read (HSL.out.below HB.out) ⟨(L[m]'hml).toArray⟩ (by show (L[m]'hml).toArray.size ≤ maxLen; unfold maxLen; simp; omega))
            have HE1 := Lib.hid e1
            obtain ⟨t3, t4⟩ := take_sum LN m (by omega)
            have HT3 := Lib.hid t3
            have hlg := HLG.out m hml
            rw [HSUM.out] at t4
            rw [hlg] at t3
            generalize (⟨(L[m]'hml).toArray⟩ : ByteArray) = x at hlo CR HE1 t3 hlg
            clear e1 e2 hlc
            go_wp2_with fail
            refine CR.out.mono ?_
            rintro e wx ⟨v, rfl, hrx, -, hbx⟩
            rw [HE1.out]
            obtain ⟨xa, xc, hv⟩ := row_slice hrx
            rw [List.length_map] at hv
            subst hv
            have HBX := Lib.hid (HB.out.trans (hbx.mono HB.out.size))
            obtain ⟨ln, hln⟩ : ∃ ln, ln = (readL s4 x).length := ⟨_, rfl⟩
            rw [← hln] at t3 hlg ⊢
            have hw : IntKind.i64.wrap (((LN.take m).sum : Nat) + (ln : Int)) = (((LN.take (m + 1)).sum : Nat) : Int) := by rw [IntWalk.i64_in _ (by omega), t3]; omega
            clear hrx hbx hlo CR hln hlg t3
            go_wp2
            go_roundw
            case measure => simp [RowKit.intOf]; omega
            case rel => exact ⟨m + 1, by omega, by go_num, rfl, HBX⟩
          · have r1 : ¬ (m : Int) < (L.length : Int) := by omega
            have hsm : (LN.take m).sum = used s4 := by rw [List.take_of_length_le (by omega)]; exact HSUM.out
            rw [hsm]
            have CU2 := Lib.hid (sys_used (HSL.out.below HB.out) (by omega))
            have HSZ := Lib.hid (HSL.out.below HB.out)
            clear hsm
            go_wp2_with fail
            refine CU2.out.mono ?_
            rintro e wz ⟨rfl, hbz⟩
            have HSY := Lib.hid (HSZ.out.below hbz)
            clear hbz CU2
            go_wp2
            go_roundw
            case measure => simp [RowKit.intOf]; omega
            case rel => exact ⟨j + 1, g4, s4, by omega, by omega, by go_num, Lib.hid (HSY.out.mono (by omega)), HRx⟩
    · have CA := Lib.hid (awake_any wr)
      have HB0 := Lib.hid HS.out.bel
      by_cases hjl2 : j < ops.length
      · have s2 : (j : Int) < (ops.length : Int) := by omega
        have s3 : ¬ (j : Int) < 40 := by omega
        clear hjl
        go_wp2_with fail
        refine CA.out.mono ?_
        rintro e w8 ⟨rfl, hb⟩
        have HB8 := Lib.hid (HB0.out.trans (hb.mono HB0.out.size))
        clear hb
        go_wp2_with fail
        go_ret
        exact ⟨rfl, HB8.out⟩
      · have s2 : ¬ (j : Int) < (ops.length : Int) := by omega
        clear hjl
        go_wp2_with fail
        refine CA.out.mono ?_
        rintro e w8 ⟨rfl, hb⟩
        have HB8 := Lib.hid (HB0.out.trans (hb.mono HB0.out.size))
        clear hb
        go_wp2_with fail
        go_ret
        exact ⟨rfl, HB8.out⟩
end Go.Proofs.Ytijdgmbpkfmciaa.Fs
