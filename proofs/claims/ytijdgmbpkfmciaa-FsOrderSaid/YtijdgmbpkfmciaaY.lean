/- The file system: FsOrder walked. -/
import Derived.Test.YtijdgmbpkfmciaaX
import Derived.Laws.MakeOwn
import Derived.Lib.SliceRun
import Derived.Deep.RegionHeld3
namespace Go.Proofs.Ytijdgmbpkfmciaa.Fs
open Go.RowKit Go.Maps Go.ChangeMaps Go.WideMaps Go.Joins Go.Sort

theorem i64_and_mask (k : Nat) (hk : k < 63) (m : Int) (hm : m = 2 ^ k - 1) (n : Int) : bits .and .i64 n m = n % 2 ^ k := by
  have hp : (2 : Nat) ^ k ≤ 2 ^ 62 := Nat.pow_le_pow_right (by decide) (by omega)
  have hpos : 0 < (2 : Nat) ^ k := Nat.pow_pos (by decide)
  have hc : ((2 : Int) ^ k) = ((2 ^ k : Nat) : Int) := by simp
  have h127 : (BitVec.ofInt 64 m).toNat = 2 ^ k - 1 := by
    rw [BitVec.toNat_ofInt, hm, hc]
    have : ((2 ^ k : Nat) : Int) - 1 = ((2 ^ k - 1 : Nat) : Int) := by omega
    rw [this]
    have : (2 ^ k - 1 : Nat) < 2 ^ 64 := by have : (2:Nat)^62 < 2^64 := by decide
                                            omega
    omega
  have key : (BitVec.ofInt 64 n &&& BitVec.ofInt 64 m).toNat = (n % ((2 ^ 64 : Nat) : Int)).toNat % 2 ^ k := by
    rw [BitVec.toNat_and, BitVec.toNat_ofInt, h127, Nat.and_two_pow_sub_one_eq_mod]
  show IntKind.i64.wrap ((BitVec.ofInt 64 n &&& BitVec.ofInt 64 m).toNat : Nat) = n % 2 ^ k
  have hd : ((2 : Nat) ^ k) ∣ 2 ^ 64 := Nat.pow_dvd_pow 2 (by omega)
  have h1 : (n % ((2 ^ 64 : Nat) : Int)).toNat % 2 ^ k < 2 ^ k := Nat.mod_lt _ hpos
  rw [key, IntKind.wrap_i64, hc]
  have h2 : (((n % ((2 ^ 64 : Nat) : Int)).toNat % 2 ^ k : Nat) : Int) = n % ((2 ^ k : Nat) : Int) := by
    rw [Int.natCast_emod, Int.toNat_of_nonneg (Int.emod_nonneg _ (by decide))]
    exact Int.emod_emod_of_dvd n (Int.ofNat_dvd.2 hd)
  rw [h2]
  have h3 := Int.emod_lt_of_pos n (show (0 : Int) < ((2 ^ k : Nat) : Int) by omega)
  have h4 := Int.emod_nonneg n (show ((2 ^ k : Nat) : Int) ≠ 0 by omega)
  have h5 : ((2 ^ k : Nat) : Int) ≤ 4611686018427387904 := by have : (2:Nat)^62 = 4611686018427387904 := by decide
                                                              omega
  omega
theorem and15 (n : Int) : bits .and .i64 n 15 = n % 16 := i64_and_mask 4 (by decide) 15 (by decide) n
theorem and255 (n : Int) : bits .and .i64 n 255 = n % 256 := i64_and_mask 8 (by decide) 255 (by decide) n

def sizeOf (sizes : List Int) (i : Nat) : Nat := if h : i < sizes.length then ((sizes[i]'h) % 256).toNat else 5
theorem sizeOf_le (sizes : List Int) (i : Nat) : sizeOf sizes i ≤ 255 := by
  unfold sizeOf
  split <;> omega

theorem conv_one (j : Nat) (hj : j < 16) (w : World) : (convert 27 9 (.slice (some ⟨w.heap.size, 0, none⟩) 1 1)).run Try.prog (w.alloc (.cells #[.int .u8 (97 + (j : Int))] 5)) = .ok (.string ⟨#[UInt8.ofNat (97 + j)]⟩) (w.alloc (.cells #[.int .u8 (97 + (j : Int))] 5)) := by
  have h := conv_news (news_cells w [UInt8.ofNat (97 + j)] (0, 0))
  have e : (UInt8.ofNat (97 + j)).toNat = 97 + j := by simp; omega
  have e2 : byteV (UInt8.ofNat (97 + j)) = .int .u8 (97 + (j : Int)) := by unfold byteV; rw [e]; simp
  simp only [List.map_cons, List.map_nil, e2] at h
  exact h

theorem conv_one_drew (j : Nat) (hj : j < 16) (w : World) : (convert 27 9 (.slice (some ⟨w.heap.size, 0, none⟩) 1 1)).run Try.prog (w.alloc (.cells #[.int .u8 (97 + (j : Int))] 5)).drew = .ok (.string ⟨#[UInt8.ofNat (97 + j)]⟩) (w.alloc (.cells #[.int .u8 (97 + (j : Int))] 5)).drew := by
  have h0 := news_cells w [UInt8.ofNat (97 + j)] (0, 0)
  have e : (UInt8.ofNat (97 + j)).toNat = 97 + j := by simp; omega
  have e2 : byteV (UInt8.ofNat (97 + j)) = .int .u8 (97 + (j : Int)) := by unfold byteV; rw [e]; simp
  simp only [List.map_cons, List.map_nil, e2] at h0
  exact conv_news (w := (w.alloc (.cells #[.int .u8 (97 + (j : Int))] 5)).drew) (bs := [UInt8.ofNat (97 + j)]) (by simp only [List.map_cons, List.map_nil, e2]; exact h0.frame fun _ b _ => rfl)
def rowB (bs : List UInt8) : Array Value := (bs.map byteV).toArray
theorem mk_bytes (m : Nat) (hm : m ≤ 1000000) (w : World) : (Instr.makeSlice 27 (.int .i64 (m : Int)) (.int .i64 (m : Int))).run Try.prog w = .ok (.slice (some ⟨w.heap.size, 0, none⟩) m m) (w.alloc (.cells (rowB (List.replicate m 0)) 5)) := by
  obtain ⟨i0, hi, hz0, hz1, hz2⟩ := info_parts info5
  have h := run_makeSlice (P := Try.prog) w 27 5 i0 (.int .u8 0) Try.underlying27 hi hz0 .i64 .i64 m m (by omega) (Int.le_refl _) (by rw [hz1]; simp; omega) (by rw [hz2]; omega) (by omega)
  rw [h]
  have e : madeCells (Value.int .u8 0).cells ((m : Int).toNat * i0.size) = rowB (List.replicate m 0) := by
    rw [hz1]
    apply Array.ext
    · simp [madeCells, rowB]
    · intro k h1 h2
      simp [rowB, madeCells, byteV, Value.cells, Nat.mod_one]
  rw [e]
  simp

def fillB (j m k : Nat) : List UInt8 := bsF j k ++ List.replicate (m - k) 0
theorem fillB_get (j m k : Nat) (hk : k < m) : (fillB j m k)[k]? = some 0 := by
  unfold fillB
  rw [List.getElem?_append_right (by rw [bsF_len]; exact Nat.le_refl _), bsF_len, Nat.sub_self, List.getElem?_replicate, if_pos (by omega)]
theorem fillB_set (j m k : Nat) (hk : k < m) : (rowB (fillB j m k)).setIfInBounds k (.int .u8 ((UInt8.ofNat (j + k)).toNat : Int)) = rowB (fillB j m (k + 1)) := by
  have e : fillB j m (k + 1) = (fillB j m k).set k (UInt8.ofNat (j + k)) := by
    unfold fillB
    have h1 : m - k = (m - (k + 1)) + 1 := by omega
    rw [h1, List.replicate_succ, List.set_append, bsF_len, if_neg (Nat.lt_irrefl _), Nat.sub_self, List.set_cons_zero]
    simp [bsF, List.range_succ]
  rw [e]
  unfold rowB
  rw [List.map_set, ← List.setIfInBounds_toArray]
  rfl

theorem bsF_take (q m K : Nat) (h : K ≤ m) : (bsF q m).take K = bsF q K := by
  unfold bsF
  rw [← List.map_take, List.take_range, Nat.min_eq_left h]
theorem keepN_le (keep : List Int) (q m : Nat) : keepN keep q (bsF q m, 0) ≤ m := by
  unfold keepN
  split
  · simp only [bsF_len]; omega
  · omega
theorem keepN_eq (keep : List Int) (q m : Nat) (h : q < keep.length) : min (max (keep[q]'h) 0) (m : Int) = (keepN keep q (bsF q m, 0) : Nat) := by
  unfold keepN
  rw [dif_pos h]
  simp only [bsF_len]
  omega

set_option maxHeartbeats 4000000 in
set_option maxRecDepth 100000 in
theorem order_walk (n : Int) (zv : Value) (sizes : List Int) (names : Int) (kv : Value) (keep : List Int) (w : World) (_ : -9223372036854775808 ≤ n ∧ n < 9223372036854775808) (hz : News w zv (sizes.map intV)) (hzn : sizes.length ≤ 9223372036854775807) (_ : -9223372036854775808 ≤ names ∧ names < 9223372036854775808)
    (hk : News w kv (keep.map intV)) (hkn : keep.length ≤ 9223372036854775807) :
    Calls Try.prog 3 #[.int .i64 n, zv, .int .i64 names, kv] w fun e w' => e = .returned (.bool true) ∧ Below w.heap.size w w' := by
  have CN := Lib.hid (sys_new 1048576 w w (by omega) (by omega) (Below.refl _ _))
  obtain ⟨za, zc, hzv⟩ := hz.slice
  rw [List.length_map] at hzv
  subst hzv
  obtain ⟨ka, kc, hkv⟩ := hk.slice
  rw [List.length_map] at hkv
  subst hkv
  have HZ := Lib.hid hz
  have HK := Lib.hid hk
  have HZL := Lib.hid hz.lt
  have HKL := Lib.hid hk.lt
  clear hz hk
  have h15 := and15 n
  have h255 := and255
  obtain ⟨N, hN, hN16⟩ : ∃ N : Nat, n % 16 = (N : Int) ∧ N < 16 := ⟨(n % 16).toNat, by omega, by omega⟩
  rw [hN] at h15
  go_enter Try.func3, Try.ntmps3
  go_wp2_with fail
  refine CN.out.mono ?_
  rintro e w1 ⟨P, g, rfl, hgi, HS, -, -⟩
  have HS1 := Lib.hid HS
  clear HS CN hN
  go_wp2_with fail
  go_loopw [11] (fun i wr => ∃ (j : Nat) (gk : Gh) (s : St) (fid : Nat → Nat), j ≤ N ∧ i = .int .i64 j ∧ Hid (Sys P j w wr gk s) ∧ Hid (Ord (sizeOf sizes) fid j s) ∧ Hid (∀ q, q < j → fid q ∈ gk.ids)) (fun i _ => N - (RowKit.intOf i).toNat)
  case atStart => exact ⟨0, g, _, fun _ => 0, Nat.zero_le _, rfl, HS1, Lib.hid (ord_new _ _), Lib.hid (fun q hq => absurd hq (by omega))⟩
  case round =>
    obtain ⟨j, gk, s, fid, hj, rfl, HS, HO, HF⟩ := hrel
    rename World => wo
    by_cases hjn : j < N
    · have q1 : (j : Int) < (N : Int) := by omega
      have q2 : (97 : Int) + (j : Int) < 256 := by omega
      have hcv := conv_one j (by omega)
      obtain ⟨cb, hcb⟩ : ∃ c, c = UInt8.ofNat (97 + j) := ⟨_, rfl⟩
      rw [← hcb] at hcv
      have HCB : Hid (nmF j = ⟨#[102]⟩ ++ ⟨#[cb]⟩) := Lib.hid (by rw [hcb]; rfl)
      clear hcb
      have hm5 : ∀ w : World, (Instr.makeSlice 27 (.int .i64 5) (.int .i64 5)).run Try.prog w = .ok (.slice (some ⟨w.heap.size, 0, none⟩) 5 5) (w.alloc (.cells (rowB [0, 0, 0, 0, 0]) 5)) := mk_bytes 5 (by omega)
      have hz := HZ.out.frame (w' := wo) (fun hx b hb => HS.out.bel.block b (HZL.out hx b hb))
      by_cases hjs : j < sizes.length
      · have q3 : (j : Int) < (sizes.length : Int) := by omega
        have hdc : ∃ a, za = some a ∧ wo.cell? (a.add j) = some (.int .i64 (sizes[j]'hjs)) ∧ a.block < wo.heap.size := by
          rcases hz with ⟨e, e2⟩ | ⟨a, c', e, _, hc⟩
          · have : sizes = [] := by simpa using e2
            rw [this] at hjs; exact absurd hjs (by simp)
          · simp only [Value.slice.injEq] at e
            refine ⟨a, e.1, hc j _ (by rw [List.getElem?_map, List.getElem?_eq_getElem hjs]; rfl), ?_⟩
            have := HZL.out (by intro e0; rw [List.map_eq_nil_iff] at e0; rw [e0] at hjs; exact absurd hjs (by simp)) a.block (by rw [e.1]; simp [blkOf, Value.ownBlock])
            have := HS.out.bel.size
            omega
        obtain ⟨a, rfl, hdc, hab⟩ := hdc
        clear hz
        have hmz : ((sizes[j]'hjs) % 256) = ((sizeOf sizes j : Nat) : Int) := by unfold sizeOf; rw [dif_pos hjs]; omega
        have hml := sizeOf_le sizes j
        have hmk := mk_bytes (sizeOf sizes j) (by omega)
        have hb255 : bits .and .i64 (sizes[j]'hjs) 255 = ((sizeOf sizes j : Nat) : Int) := by rw [h255, hmz]
        obtain ⟨m, hm⟩ : ∃ m, m = sizeOf sizes j := ⟨_, rfl⟩
        rw [← hm] at hmz hml hb255 hmk
        have HM := Lib.hid hm
        clear hm
        generalize (sizes[j]'hjs) = z at *
        have hdc2 : ∀ o o', ((wo.alloc o).alloc o').cell? (a.add j) = some (.int .i64 z) := fun o o' => Go.Lib.cell?_alloc_some _ (Go.Lib.cell?_alloc_some _ hdc)
        clear hmz h255 hdc
        go_wp2_with fail
        obtain ⟨wb, hwb⟩ : ∃ wb, ((wo.alloc (.cells #[.int .u8 (97 + (j : Int))] 5)).alloc (.cells (rowB [0, 0, 0, 0, 0]) 5)).alloc (.cells (rowB (List.replicate m 0)) 5) = wb := ⟨_, rfl⟩
        obtain ⟨nb, hnb⟩ : ∃ nb, wo.heap.size + 1 + 1 = nb := ⟨_, rfl⟩
        have hbb : Hid (Below wo.heap.size wo wb) := Lib.hid (by rw [← hwb]; exact (((Below.refl _ _).alloc (Nat.le_refl _) _).alloc (by simp) _).alloc (by simp; omega) _)
        have hrb : Hid (wb.heap[nb]? = some (.cells (rowB (fillB j m 0)) 5 (0, 0))) := Lib.hid (by
          rw [← hwb, ← hnb]
          have e := (MapKept.heap_alloc ((wo.alloc (.cells #[.int .u8 (97 + (j : Int))] 5)).alloc (.cells (rowB [0, 0, 0, 0, 0]) 5)) (.cells (rowB (List.replicate m 0)) 5)).1
          simpa [fillB, bsF] using e)
        have hnl : wo.heap.size ≤ nb := by omega
        rw [hwb, hnb]
        clear hwb hnb hdc2 hab hb255 hmk hm5 hcv
        go_loopw [59] (fun i wr => ∃ k : Nat, k ≤ m ∧ i = .int .i64 k ∧ Hid (Below wo.heap.size wo wr) ∧ Hid (wr.heap[nb]? = some (.cells (rowB (fillB j m k)) 5 (0, 0)))) (fun i _ => m - (RowKit.intOf i).toNat)
        case atStart => exact ⟨0, Nat.zero_le _, rfl, hbb, hrb⟩
        case round =>
          obtain ⟨k, hk, rfl, HB, HR⟩ := hrel
          by_cases hkm : k < m
          · have p1 : (k : Int) < (m : Int) := by omega
            have p2 : IntKind.u8.wrap ((j : Int) + (k : Int)) = ((UInt8.ofNat (j + k)).toNat : Int) := by rw [IntKind.wrap_u8]; simp
            have hfz := fun o => unfrozen_of_block HR.out o
            have hck : wr.cell? ⟨nb, k, none⟩ = some (byteV 0) := by
              rw [cell_of_block HR.out]
              simp [rowB, fillB_get j m k hkm]
            have hnx := block_setCell (i := k) HR.out (.int .u8 ((UInt8.ofNat (j + k)).toNat : Int))
            rw [fillB_set j m k hkm] at hnx
            have HNX := Lib.hid hnx
            clear hnx
            go_wp2
            go_roundw
            case measure => simp [RowKit.intOf]; omega
            case rel => exact ⟨k + 1, by omega, by go_num, Lib.hid (HB.out.setCell (by exact hnl) _), HNX⟩
          · have p1 : ¬ (k : Int) < (m : Int) := by omega
            obtain rfl : m = k := by omega
            have hnw : News wr (.slice (some ⟨nb, 0, none⟩) m m) ((bsF j m).map byteV) := by
              refine .inr ⟨_, m, by rw [List.length_map, bsF_len], by rw [List.length_map, bsF_len]; exact Nat.le_refl _, fun q u hq => ?_⟩
              rw [add_head, World.cell?]
              simp only [HR.out]
              simpa [rowB, fillB] using hq
            have hnlt : nb < wr.heap.size := (Array.getElem?_eq_some_iff.1 HR.out).1
            have hfree : Free wr gk nb := HS.out.free_new hnl hnlt
            have CC := Lib.hid (sys_create (HS.out.below HB.out) (by omega) (nmF j) (by unfold maxLen; rw [sizeF]; omega))
            obtain ⟨o1, o2, o3, o4⟩ := ord_create HO.out (by omega)
            have HO1 := Lib.hid o1
            have HO2 := Lib.hid o2
            have HO3 := Lib.hid (And.intro o3 o4)
            have HNW := Lib.hid hnw
            have HFR := Lib.hid hfree
            clear o1 o2 o3 o4 hnw hfree
            go_wp2_with fail
            rw [← HCB.out]
            refine CC.out.mono ?_
            rintro e w2 ⟨rfl, f, g2, hfn, hfm, HN⟩
            rw [HO1.out]
            rw [HO2.out] at HN
            rw [if_pos HO3.out] at hfm
            have hall : ∀ q, q < j → fid q ≠ f := fun q hq e => hfn (e ▸ HF.out q hq)
            obtain ⟨a1, a2⟩ := ord_append HO.out (by omega) (sizeOf_le sizes j) f hall
            rw [← HM.out] at a1 a2
            have hfr2 := HN.free HFR.out
            have CA := Lib.hid (sys_append HN.sys (by omega) (nmF j) (by unfold maxLen; rw [sizeF]; omega) (.slice (some ⟨nb, 0, none⟩) m m) (bsF j m) (by rw [bsF_len]; omega) (HNW.out.frame fun _ b hb => by
              have : b = nb := by simpa [blkOf, Value.ownBlock] using hb
              rw [this]; exact hfr2.2) (fun _ b hb => by
              have : b = nb := by simpa [blkOf, Value.ownBlock] using hb
              rw [this]; exact hfr2.1))
            have HA1 := Lib.hid a1
            have HA2 := Lib.hid a2
            have HFM := Lib.hid hfm
            have HNN := Lib.hid HN
            clear a1 a2 hfr2 hfm HN hall
            go_wp2_with fail
            refine CA.out.mono ?_
            rintro e w3 ⟨rfl, g3, HN3⟩
            rw [HA1.out]
            have HNN3 := Lib.hid HN3
            clear HN3
            go_wp2_with fail
            go_roundw
            case measure => simp [RowKit.intOf]; omega
            case rel =>
              refine ⟨j + 1, g3, _, _, by omega, by go_num, Lib.hid HNN3.out.sys, HA2, Lib.hid fun q hq => HNN3.out.ids _ ?_⟩
              by_cases e : q = j
              · rw [if_pos e]; exact HFM.out
              · rw [if_neg e]; exact HNN.out.ids _ (HF.out q (by omega))
      · have q3 : (sizes.length : Int) ≤ (j : Int) := by omega
        obtain ⟨m, hm⟩ : ∃ m, m = sizeOf sizes j := ⟨_, rfl⟩
        have hm' : m = 5 := by rw [hm]; unfold sizeOf; rw [dif_neg hjs]
        have hml : m ≤ 255 := by omega
        have hmk : ∀ w : World, (Instr.makeSlice 27 (.int .i64 5) (.int .i64 5)).run Try.prog w = .ok (.slice (some ⟨w.heap.size, 0, none⟩) m m) (w.alloc (.cells (rowB (List.replicate m 0)) 5)) := by rw [hm']; exact mk_bytes 5 (by omega)
        have HM := Lib.hid hm
        clear hm hm' hz h255 hm5
        go_wp2_with fail
        obtain ⟨wb, hwb⟩ : ∃ wb, (wo.alloc (.cells #[.int .u8 (97 + (j : Int))] 5)).alloc (.cells (rowB (List.replicate m 0)) 5) = wb := ⟨_, rfl⟩
        obtain ⟨nb, hnb⟩ : ∃ nb, wo.heap.size + 1 = nb := ⟨_, rfl⟩
        have hbb : Hid (Below wo.heap.size wo wb) := Lib.hid (by rw [← hwb]; exact ((Below.refl _ _).alloc (Nat.le_refl _) _).alloc (by simp) _)
        have hrb : Hid (wb.heap[nb]? = some (.cells (rowB (fillB j m 0)) 5 (0, 0))) := Lib.hid (by
          rw [← hwb, ← hnb]
          have e := (MapKept.heap_alloc (wo.alloc (.cells #[.int .u8 (97 + (j : Int))] 5)) (.cells (rowB (List.replicate m 0)) 5)).1
          simpa [fillB, bsF] using e)
        have hnl : wo.heap.size ≤ nb := by omega
        rw [hwb, hnb]
        clear hwb hnb hmk hcv
        go_loopw [59] (fun i wr => ∃ k : Nat, k ≤ m ∧ i = .int .i64 k ∧ Hid (Below wo.heap.size wo wr) ∧ Hid (wr.heap[nb]? = some (.cells (rowB (fillB j m k)) 5 (0, 0)))) (fun i _ => m - (RowKit.intOf i).toNat)
        case atStart => exact ⟨0, Nat.zero_le _, rfl, hbb, hrb⟩
        case round =>
          obtain ⟨k, hk, rfl, HB, HR⟩ := hrel
          by_cases hkm : k < m
          · have p1 : (k : Int) < (m : Int) := by omega
            have p2 : IntKind.u8.wrap ((j : Int) + (k : Int)) = ((UInt8.ofNat (j + k)).toNat : Int) := by rw [IntKind.wrap_u8]; simp
            have hfz := fun o => unfrozen_of_block HR.out o
            have hck : wr.cell? ⟨nb, k, none⟩ = some (byteV 0) := by
              rw [cell_of_block HR.out]
              simp [rowB, fillB_get j m k hkm]
            have hnx := block_setCell (i := k) HR.out (.int .u8 ((UInt8.ofNat (j + k)).toNat : Int))
            rw [fillB_set j m k hkm] at hnx
            have HNX := Lib.hid hnx
            clear hnx
            go_wp2
            go_roundw
            case measure => simp [RowKit.intOf]; omega
            case rel => exact ⟨k + 1, by omega, by go_num, Lib.hid (HB.out.setCell (by exact hnl) _), HNX⟩
          · have p1 : ¬ (k : Int) < (m : Int) := by omega
            obtain rfl : m = k := by omega
            have hnw : News wr (.slice (some ⟨nb, 0, none⟩) m m) ((bsF j m).map byteV) := by
              refine .inr ⟨_, m, by rw [List.length_map, bsF_len], by rw [List.length_map, bsF_len]; exact Nat.le_refl _, fun q u hq => ?_⟩
              rw [add_head, World.cell?]
              simp only [HR.out]
              simpa [rowB, fillB] using hq
            have hnlt : nb < wr.heap.size := (Array.getElem?_eq_some_iff.1 HR.out).1
            have hfree : Free wr gk nb := HS.out.free_new hnl hnlt
            have CC := Lib.hid (sys_create (HS.out.below HB.out) (by omega) (nmF j) (by unfold maxLen; rw [sizeF]; omega))
            obtain ⟨o1, o2, o3, o4⟩ := ord_create HO.out (by omega)
            have HO1 := Lib.hid o1
            have HO2 := Lib.hid o2
            have HO3 := Lib.hid (And.intro o3 o4)
            have HNW := Lib.hid hnw
            have HFR := Lib.hid hfree
            clear o1 o2 o3 o4 hnw hfree
            go_wp2_with fail
            rw [← HCB.out]
            refine CC.out.mono ?_
            rintro e w2 ⟨rfl, f, g2, hfn, hfm, HN⟩
            rw [HO1.out]
            rw [HO2.out] at HN
            rw [if_pos HO3.out] at hfm
            have hall : ∀ q, q < j → fid q ≠ f := fun q hq e => hfn (e ▸ HF.out q hq)
            obtain ⟨a1, a2⟩ := ord_append HO.out (by omega) (sizeOf_le sizes j) f hall
            rw [← HM.out] at a1 a2
            have hfr2 := HN.free HFR.out
            have CA := Lib.hid (sys_append HN.sys (by omega) (nmF j) (by unfold maxLen; rw [sizeF]; omega) (.slice (some ⟨nb, 0, none⟩) m m) (bsF j m) (by rw [bsF_len]; omega) (HNW.out.frame fun _ b hb => by
              have : b = nb := by simpa [blkOf, Value.ownBlock] using hb
              rw [this]; exact hfr2.2) (fun _ b hb => by
              have : b = nb := by simpa [blkOf, Value.ownBlock] using hb
              rw [this]; exact hfr2.1))
            have HA1 := Lib.hid a1
            have HA2 := Lib.hid a2
            have HFM := Lib.hid hfm
            have HNN := Lib.hid HN
            clear a1 a2 hfr2 hfm HN hall
            go_wp2_with fail
            refine CA.out.mono ?_
            rintro e w3 ⟨rfl, g3, HN3⟩
            rw [HA1.out]
            have HNN3 := Lib.hid HN3
            clear HN3
            go_wp2_with fail
            go_roundw
            case measure => simp [RowKit.intOf]; omega
            case rel =>
              refine ⟨j + 1, g3, _, _, by omega, by go_num, Lib.hid HNN3.out.sys, HA2, Lib.hid fun q hq => HNN3.out.ids _ ?_⟩
              by_cases e : q = j
              · rw [if_pos e]; exact HFM.out
              · rw [if_neg e]; exact HNN.out.ids _ (HF.out q (by omega))
    · have q1 : ¬ (j : Int) < (N : Int) := by omega
      obtain rfl : j = N := by omega
      have CC := Lib.hid (sys_crash HS.out (by omega) names (.slice ka keep.length kc) keep (HK.out.frame fun hx b hb => HS.out.bel.block b (HKL.out hx b hb)) (fun hx b hb => HS.out.free_old (HKL.out (fun e => hx (List.map_eq_nil_iff.1 e)) b hb)) hkn)
      have HOC := Lib.hid (ord_crash HO.out (by omega) names keep)
      obtain ⟨W, hW⟩ : ∃ W, W = nOf names j := ⟨_, rfl⟩
      have hW1 : min (max names 0) (j : Int) = (W : Int) := by rw [hW]; unfold nOf; omega
      have hW2 : W ≤ j := by rw [hW]; unfold nOf; omega
      rw [← hW] at HOC
      generalize crashS s names keep = sc at CC HOC
      clear hW HF
      go_wp2_with fail
      refine CC.out.mono ?_
      rintro e w2 ⟨rfl, g2, HN⟩
      have CL := Lib.hid (sys_list HN.sys (by omega) ⟨#[]⟩)
      have HN2 := Lib.hid HN.sys
      clear HN
      go_wp2_with fail
      refine CL.out.mono ?_
      rintro e wl ⟨vl, rfl, hrl, hbl, hbel⟩
      rw [ordc_list HOC.out (by omega)] at hrl
      obtain ⟨la, lc, hvl⟩ := row_slice hrl
      rw [List.length_map, List.length_map, List.length_range] at hvl
      subst hvl
      have HSL := Lib.hid (HN2.out.below hbel)
      have HRL := Lib.hid hrl
      have hW3 : ((W : Int) == (W : Int)) = true := by simp
      clear hrl hbl hbel HN2 HS HO CC CL
      go_wp2_with fail
      go_loopw [17] (fun i wr => ∃ q : Nat, q ≤ W ∧ i = .int .i64 q ∧ Hid (Below wl.heap.size wl wr)) (fun i _ => W - (RowKit.intOf i).toNat)
      case atStart => exact ⟨0, Nat.zero_le _, rfl, Lib.hid (Below.refl _ _)⟩
      case round =>
        obtain ⟨q, hq, rfl, HB⟩ := hrel
        rename World => wo
        by_cases hqW : q < W
        · have r1 : (q : Int) < (W : Int) := by omega
          have hlc : ∃ lb, la = some ⟨lb, 0, none⟩ ∧ wl.cell? ⟨lb, q, none⟩ = some (.string (nmF q)) ∧ lb < wl.heap.size := by
            rcases HRL.out with ⟨e, _⟩ | ⟨lb, cap, cur, e, h1, h2, h3, h4, h5, h6⟩
            · simp only [Value.slice.injEq] at e; omega
            · simp only [Value.slice.injEq] at e
              refine ⟨lb, e.1, ?_, (Array.getElem?_eq_some_iff.1 h1).1⟩
              have e2 : (((List.range W).map fun j => (nmF j).data.toList).map encStr)[q]? = some (.string (nmF q)) := by
                simp [hqW, encStr]
              rw [← h6, List.getElem?_take] at e2
              rw [World.cell?]
              simp only [h1]
              split at e2
              · simpa using e2
              · cases e2
          obtain ⟨lb, rfl, hlc, hlb⟩ := hlc
          have hlo : wo.cell? ⟨lb, q, none⟩ = some (.string (nmF q)) := (HB.out.cell (p := ⟨lb, q, none⟩) hlb).trans hlc
          have CR := Lib.hid (sys_read (HSL.out.below HB.out) (nmF q) (by unfold maxLen; rw [sizeF]; omega))
          obtain ⟨e1, e2⟩ := ordc_read HOC.out (by omega) hqW
          have HE1 := Lib.hid e1
          have HE2 := Lib.hid e2
          clear e1 e2 hlc
          go_wp2_with fail
          refine CR.out.mono ?_
          rintro e wx ⟨v, rfl, hrx, -, hbx⟩
          rw [HE1.out]
          obtain ⟨m, hm⟩ : ∃ m, m = sizeOf sizes q := ⟨_, rfl⟩
          have hml : m ≤ 255 := by rw [hm]; exact sizeOf_le sizes q
          obtain ⟨K, hK⟩ : ∃ K, K = keepN keep q (bsF q m, 0) := ⟨_, rfl⟩
          rw [HE2.out, ← hm, ← hK] at hrx
          have hKm : K ≤ m := by rw [hK]; exact keepN_le keep q m
          rw [bsF_take q m K hKm] at hrx
          obtain ⟨xa, xc, hv⟩ := row_slice hrx
          rw [List.length_map, bsF_len] at hv
          subst hv
          have HRX := Lib.hid hrx
          have HBX := Lib.hid (HB.out.trans (hbx.mono HB.out.size))
          have hlx : wx.cell? ⟨lb, q, none⟩ = some (.string (nmF q)) := (hbx.cell (p := ⟨lb, q, none⟩) (Nat.lt_of_lt_of_le hlb HB.out.size)).trans hlo
          have HBW : Hid (Below w.heap.size w wx) := Lib.hid (HSL.out.bel.trans (HBX.out.mono HSL.out.bel.size))
          have hz := HZ.out.frame (w' := wx) (fun hx b hb => HBW.out.block b (HZL.out hx b hb))
          have hk := HK.out.frame (w' := wx) (fun hx b hb => HBW.out.block b (HKL.out hx b hb))
          have hkn2 : K = keepN keep q (bsF q m, 0) := hK
          clear hK hrx hbx hlo CR
          have hcv := conv_one_drew q (by omega)
          have hcv0 := conv_one q (by omega)
          have hu1 : IntKind.u8.wrap (q : Int) = (q : Int) := by rw [IntKind.wrap_u8]; omega
          have hu2 : IntKind.u8.wrap (97 + (q : Int)) = 97 + (q : Int) := by rw [IntKind.wrap_u8]; omega
          obtain ⟨cb, hcb⟩ : ∃ c, c = UInt8.ofNat (97 + q) := ⟨_, rfl⟩
          rw [← hcb] at hcv hcv0
          have HCB : Hid (nmF q = ⟨#[102]⟩ ++ ⟨#[cb]⟩) := Lib.hid (by rw [hcb]; rfl)
          clear hcb
          have q2 : (97 : Int) + (q : Int) < 256 := by omega
          rw [HCB.out] at hlx
          by_cases hqs : q < sizes.length
          · have q3 : (q : Int) < (sizes.length : Int) := by omega
            have hdc : ∃ a, za = some a ∧ wx.cell? (a.add q) = some (.int .i64 (sizes[q]'hqs)) := by
              rcases hz with ⟨e, e2⟩ | ⟨a, c', e, _, hc⟩
              · have : sizes = [] := by simpa using e2
                rw [this] at hqs; exact absurd hqs (by simp)
              · simp only [Value.slice.injEq] at e
                exact ⟨a, e.1, hc q _ (by rw [List.getElem?_map, List.getElem?_eq_getElem hqs]; rfl)⟩
            obtain ⟨a, rfl, hdc⟩ := hdc
            have hmz : ((sizes[q]'hqs) % 256) = (m : Int) := by rw [hm]; unfold sizeOf; rw [dif_pos hqs]; omega
            have hb255 : bits .and .i64 (sizes[q]'hqs) 255 = (m : Int) := by rw [h255, hmz]
            generalize (sizes[q]'hqs) = z at *
            have HM := Lib.hid hm
            clear hm hmz h255 hz
            by_cases hqk : q < keep.length
            · have q4 : (q : Int) < (keep.length : Int) := by omega
              have hec : ∃ a', ka = some a' ∧ wx.cell? (a'.add q) = some (.int .i64 (keep[q]'hqk)) := by
                rcases hk with ⟨e, e2⟩ | ⟨a', c', e, _, hc⟩
                · have : keep = [] := by simpa using e2
                  rw [this] at hqk; exact absurd hqk (by simp)
                · simp only [Value.slice.injEq] at e
                  exact ⟨a', e.1, hc q _ (by rw [List.getElem?_map, List.getElem?_eq_getElem hqk]; rfl)⟩
              obtain ⟨a', rfl, hec⟩ := hec
              have hmn : min (max (keep[q]'hqk) 0) (m : Int) = (K : Int) := by rw [hkn2, keepN_eq keep q m hqk]
              generalize (keep[q]'hqk) = d at *
              clear hkn2 hk
              go_wp2_with fail
              refine wp_region_held_drew (S := (fun w' => w'.cell? ⟨lb, q, none⟩ = some (.string (⟨#[102]⟩ ++ ⟨#[cb]⟩)))) (by kernel_rfl) hlx (fun hHeld => ?_)
              refine wpAnyH_take (i := 0) (oi := { dst := some 130, op := Op.move (Operand.tmp 19), type := 24, pos := "extra.go:45", after := #[], guard := none }) (v := ?_) rfl (by kernel_rfl) (by kernel_rfl) (by kernel_rfl) (fun _ _ _ h => h) (Or.inl ⟨by rfl, ?_⟩) hHeld ?_
              rotate_left
              · intro w hSw; (try dsimp only at hSw); go_simp; (try with_reducible rfl)
              try simp only [Act.put, List.setIfInBounds_toArray, List.set_cons_zero, List.set_cons_succ]
              refine wpAnyH_take (i := 1) (oi := { dst := some 131, op := Op.binOp BinOp.neq 24 (Operand.tmp 130) (Operand.const (Value.int IntKind.i64 0)) 24, type := 4, pos := "extra.go:45", after := #[{ on := 0, ground := Ground.data }], guard := none }) (v := ?_) rfl (by kernel_rfl) (by kernel_rfl) (by kernel_rfl) (fun _ _ _ h => h) (Or.inl ⟨by rfl, ?_⟩) hHeld ?_
              rotate_left
              · intro w hSw; (try dsimp only at hSw); go_simp; (try with_reducible rfl)
              try simp only [Act.put, List.setIfInBounds_toArray, List.set_cons_zero, List.set_cons_succ]
              refine wpAnyH_take (i := 2) (oi := { dst := some 132, op := Op.move (Operand.tmp 131), type := 4, pos := "extra.go:45", after := #[{ on := 1, ground := Ground.data }], guard := none }) (v := ?_) rfl (by kernel_rfl) (by kernel_rfl) (by kernel_rfl) (fun _ _ _ h => h) (Or.inl ⟨by rfl, ?_⟩) hHeld ?_
              rotate_left
              · intro w hSw; (try dsimp only at hSw); go_simp; (try with_reducible rfl)
              try simp only [Act.put, List.setIfInBounds_toArray, List.set_cons_zero, List.set_cons_succ]
              refine wpAnyH_take (i := 3) (oi := { dst := some 133, op := Op.move (Operand.tmp 15), type := 31, pos := "extra.go:45", after := #[{ on := 2, ground := Ground.guard }], guard := some (2, false) }) (v := ?_) rfl (by kernel_rfl) (by kernel_rfl) (by kernel_rfl) (fun _ _ _ h => h) (Or.inl ⟨by rfl, ?_⟩) hHeld ?_
              rotate_left
              · intro w hSw; (try dsimp only at hSw); go_simp; (try with_reducible rfl)
              try simp only [Act.put, List.setIfInBounds_toArray, List.set_cons_zero, List.set_cons_succ]
              refine wpAnyH_take (i := 4) (oi := { dst := some 134, op := Op.move (Operand.tmp 17), type := 3, pos := "extra.go:45", after := #[{ on := 2, ground := Ground.guard }], guard := some (2, false) }) (v := ?_) rfl (by kernel_rfl) (by kernel_rfl) (by kernel_rfl) (fun _ _ _ h => h) (Or.inl ⟨by rfl, ?_⟩) hHeld ?_
              rotate_left
              · intro w hSw; (try dsimp only at hSw); go_simp; (try with_reducible rfl)
              try simp only [Act.put, List.setIfInBounds_toArray, List.set_cons_zero, List.set_cons_succ]
              refine wpAnyH_take (i := 5) (oi := { dst := some 135, op := Op.indexAddr 31 (Operand.tmp 133) (Operand.tmp 134), type := 0, pos := "extra.go:45", after := #[{ on := 3, ground := Ground.data }, { on := 4, ground := Ground.data }, { on := 2, ground := Ground.guard }], guard := some (2, false) }) (v := ?_) rfl (by kernel_rfl) (by kernel_rfl) (by kernel_rfl) (fun _ _ _ h => h) (Or.inl ⟨by rfl, ?_⟩) hHeld ?_
              rotate_left
              · intro w hSw; (try dsimp only at hSw); go_simp; (try with_reducible rfl)
              try simp only [Act.put, List.setIfInBounds_toArray, List.set_cons_zero, List.set_cons_succ]
              refine wpAnyH_take (i := 6) (oi := { dst := some 136, op := Op.load 9 (Operand.tmp 135), type := 9, pos := "extra.go:45", after := #[{ on := 5, ground := Ground.data }, { on := 2, ground := Ground.guard }], guard := some (2, false) }) (v := ?_) rfl (by kernel_rfl) (by kernel_rfl) (by kernel_rfl) (fun _ _ _ h => h) (Or.inl ⟨by rfl, ?_⟩) hHeld ?_
              rotate_left
              · intro w hSw; (try dsimp only at hSw); go_simp; (try with_reducible rfl)
              try simp only [Act.put, List.setIfInBounds_toArray, List.set_cons_zero, List.set_cons_succ]
              refine wpAnyH_take (i := 7) (oi := { dst := some 137, op := Op.move (Operand.tmp 17), type := 3, pos := "extra.go:45", after := #[{ on := 2, ground := Ground.guard }], guard := some (2, false) }) (v := ?_) rfl (by kernel_rfl) (by kernel_rfl) (by kernel_rfl) (fun _ _ _ h => h) (Or.inl ⟨by rfl, ?_⟩) hHeld ?_
              rotate_left
              · intro w hSw; (try dsimp only at hSw); go_simp; (try with_reducible rfl)
              try simp only [Act.put, List.setIfInBounds_toArray, List.set_cons_zero, List.set_cons_succ]
              refine wpAnyH_take (i := 8) (oi := { dst := some 138, op := Op.convert 3 5 (Operand.tmp 137), type := 5, pos := "extra.go:45", after := #[{ on := 7, ground := Ground.data }, { on := 2, ground := Ground.guard }], guard := some (2, false) }) (v := ?_) rfl (by kernel_rfl) (by kernel_rfl) (by kernel_rfl) (fun _ _ _ h => h) (Or.inl ⟨by rfl, ?_⟩) hHeld ?_
              rotate_left
              · intro w hSw; (try dsimp only at hSw); go_simp; (try with_reducible rfl)
              try simp only [Act.put, List.setIfInBounds_toArray, List.set_cons_zero, List.set_cons_succ]
              refine wpAnyH_take (i := 9) (oi := { dst := some 139, op := Op.binOp BinOp.add 5 (Operand.const (Value.int IntKind.u8 97)) (Operand.tmp 138) 5, type := 5, pos := "extra.go:45", after := #[{ on := 8, ground := Ground.data }, { on := 2, ground := Ground.guard }], guard := some (2, false) }) (v := ?_) rfl (by kernel_rfl) (by kernel_rfl) (by kernel_rfl) (fun _ _ _ h => h) (Or.inl ⟨by rfl, ?_⟩) hHeld ?_
              rotate_left
              · intro w hSw; (try dsimp only at hSw); go_simp; (try with_reducible rfl)
              try simp only [Act.put, List.setIfInBounds_toArray, List.set_cons_zero, List.set_cons_succ]
              refine wpAnyH_ready (rs := [10]) (by kernel_rfl) (by simp) ?_
              refine AllReadyH.cons (o := { dst := some 140, op := Op.buildSlice 27 1 #[(0, Operand.tmp 139)], type := 27, pos := "extra.go:45", after := #[{ on := 9, ground := Ground.data }, { on := 2, ground := Ground.guard }], guard := some (2, false) }) rfl (fun K hK => ?_) AllReadyH.nil
              go_simp
              refine hK.out _ _ ?_ (fun hHeld2 => ?_)
              · first | exact Go.Lib.cell?_alloc_some _ hHeld | exact hHeld
              clear hK K hHeld; have hHeld := hHeld2; clear hHeld2
              try simp only [Act.put, List.setIfInBounds_toArray, List.set_cons_zero, List.set_cons_succ]
              refine wpAnyH_ready (rs := [11]) (by kernel_rfl) (by simp) ?_
              refine AllReadyH.cons (o := { dst := some 141, op := Op.convert 27 9 (Operand.tmp 140), type := 9, pos := "extra.go:45", after := #[{ on := 10, ground := Ground.data }, { on := 2, ground := Ground.guard }], guard := some (2, false) }) rfl (fun K hK => ?_) AllReadyH.nil
              go_simp
              refine hK.out _ _ ?_ (fun hHeld2 => ?_)
              · first | exact Go.Lib.cell?_alloc_some _ hHeld | exact hHeld
              clear hK K hHeld; have hHeld := hHeld2; clear hHeld2
              try simp only [Act.put, List.setIfInBounds_toArray, List.set_cons_zero, List.set_cons_succ]
              refine wpAnyH_take (i := 12) (oi := { dst := some 142, op := Op.binOp BinOp.add 9 (Operand.const (Value.string { data := #[102] })) (Operand.tmp 141) 9, type := 9, pos := "extra.go:45", after := #[{ on := 11, ground := Ground.data }, { on := 2, ground := Ground.guard }], guard := some (2, false) }) (v := ?_) rfl (by kernel_rfl) (by kernel_rfl) (by kernel_rfl) (fun _ _ _ h => h) (Or.inl ⟨by rfl, ?_⟩) hHeld ?_
              rotate_left
              · intro w hSw; (try dsimp only at hSw); go_simp; (try with_reducible rfl)
              try simp only [Act.put, List.setIfInBounds_toArray, List.set_cons_zero, List.set_cons_succ]
              refine wpAnyH_take (i := 13) (oi := { dst := some 143, op := Op.binOp BinOp.neq 9 (Operand.tmp 136) (Operand.tmp 142) 9, type := 4, pos := "extra.go:45", after := #[{ on := 6, ground := Ground.data }, { on := 12, ground := Ground.data }, { on := 2, ground := Ground.guard }], guard := some (2, false) }) (v := ?_) rfl (by kernel_rfl) (by kernel_rfl) (by kernel_rfl) (fun _ _ _ h => h) (Or.inl ⟨by rfl, ?_⟩) hHeld ?_
              rotate_left
              · intro w hSw; (try dsimp only at hSw); go_simp; (try with_reducible rfl)
              try simp only [Act.put, List.setIfInBounds_toArray, List.set_cons_zero, List.set_cons_succ]
              refine wpAnyH_take (i := 14) (oi := { dst := some 144, op := Op.pick (Operand.tmp 132) (Operand.const (Value.bool true)) (Operand.tmp 143), type := 4, pos := "extra.go:45", after := #[{ on := 2, ground := Ground.data }, { on := 13, ground := Ground.data }], guard := none }) (v := ?_) rfl (by kernel_rfl) (by kernel_rfl) (by kernel_rfl) (fun _ _ _ h => h) (Or.inl ⟨by rfl, ?_⟩) hHeld ?_
              rotate_left
              · intro w hSw; (try dsimp only at hSw); go_simp; (try with_reducible rfl)
              try simp only [Act.put, List.setIfInBounds_toArray, List.set_cons_zero, List.set_cons_succ]
              refine wpAnyH_take (i := 15) (oi := { dst := some 145, op := Op.move (Operand.tmp 144), type := 4, pos := "extra.go:45", after := #[{ on := 14, ground := Ground.data }, { on := 2, ground := Ground.chain }], guard := none }) (v := ?_) rfl (by kernel_rfl) (by kernel_rfl) (by kernel_rfl) (fun _ _ _ h => h) (Or.inl ⟨by rfl, ?_⟩) hHeld ?_
              rotate_left
              · intro w hSw; (try dsimp only at hSw); go_simp; (try with_reducible rfl)
              try simp only [Act.put, List.setIfInBounds_toArray, List.set_cons_zero, List.set_cons_succ]
              refine wpAnyH_take (i := 16) (oi := { dst := some 146, op := Op.move (Operand.tmp 18), type := 27, pos := "extra.go:45", after := #[{ on := 15, ground := Ground.guard }], guard := some (15, false) }) (v := ?_) rfl (by kernel_rfl) (by kernel_rfl) (by kernel_rfl) (fun _ _ _ h => h) (Or.inl ⟨by rfl, ?_⟩) hHeld ?_
              rotate_left
              · intro w hSw; (try dsimp only at hSw); go_simp; (try with_reducible rfl)
              try simp only [Act.put, List.setIfInBounds_toArray, List.set_cons_zero, List.set_cons_succ]
              refine wpAnyH_take (i := 17) (oi := { dst := some 147, op := Op.call { callee := Callee.builtin Builtin.len, args := #[Operand.tmp 146], argTypes := #[27] }, type := 3, pos := "extra.go:45", after := #[{ on := 16, ground := Ground.data }, { on := 15, ground := Ground.guard }], guard := some (15, false) }) (v := ?_) rfl (by kernel_rfl) (by kernel_rfl) (by kernel_rfl) (fun _ _ _ h => h) (Or.inl ⟨by rfl, ?_⟩) hHeld ?_
              rotate_left
              · intro w hSw; (try dsimp only at hSw); go_simp; (try with_reducible rfl)
              try simp only [Act.put, List.setIfInBounds_toArray, List.set_cons_zero, List.set_cons_succ]
              refine wpAnyH_take (i := 18) (oi := { dst := some 148, op := Op.move (Operand.tmp 21), type := 3, pos := "extra.go:45", after := #[{ on := 15, ground := Ground.guard }], guard := some (15, false) }) (v := ?_) rfl (by kernel_rfl) (by kernel_rfl) (by kernel_rfl) (fun _ _ _ h => h) (Or.inl ⟨by rfl, ?_⟩) hHeld ?_
              rotate_left
              · intro w hSw; (try dsimp only at hSw); go_simp; (try with_reducible rfl)
              try simp only [Act.put, List.setIfInBounds_toArray, List.set_cons_zero, List.set_cons_succ]
              refine wpAnyH_take (i := 19) (oi := { dst := some 149, op := Op.binOp BinOp.neq 3 (Operand.tmp 147) (Operand.tmp 148) 3, type := 4, pos := "extra.go:45", after := #[{ on := 17, ground := Ground.data }, { on := 18, ground := Ground.data }, { on := 15, ground := Ground.guard }], guard := some (15, false) }) (v := ?_) rfl (by kernel_rfl) (by kernel_rfl) (by kernel_rfl) (fun _ _ _ h => h) (Or.inl ⟨by rfl, ?_⟩) hHeld ?_
              rotate_left
              · intro w hSw; (try dsimp only at hSw); go_simp; (try with_reducible rfl)
              try simp only [Act.put, List.setIfInBounds_toArray, List.set_cons_zero, List.set_cons_succ]
              refine wpAnyH_take (i := 20) (oi := { dst := some 150, op := Op.pick (Operand.tmp 145) (Operand.const (Value.bool true)) (Operand.tmp 149), type := 4, pos := "extra.go:45", after := #[{ on := 15, ground := Ground.data }, { on := 19, ground := Ground.data }], guard := none }) (v := ?_) rfl (by kernel_rfl) (by kernel_rfl) (by kernel_rfl) (fun _ _ _ h => h) (Or.inl ⟨by rfl, ?_⟩) hHeld ?_
              rotate_left
              · intro w hSw; (try dsimp only at hSw); go_simp; (try with_reducible rfl)
              try simp only [Act.put, List.setIfInBounds_toArray, List.set_cons_zero, List.set_cons_succ]
              refine wpAnyH_done (by kernel_rfl) ?_ _
              obtain ⟨wy, hwy⟩ : ∃ wy, (wx.alloc (.cells #[.int .u8 (97 + (q : Int))] 5)).drew = wy := ⟨_, rfl⟩
              have hby : Below wx.heap.size wx wy := by rw [← hwy]; exact ((Below.refl _ _).alloc (Nat.le_refl _) _).drew
              rw [hwy]
              have HRY := Lib.hid (HRX.out.frame (w' := wy) fun b hb => hby.block b (row_lt HRX.out b hb))
              have HBY := Lib.hid (HBX.out.trans (hby.mono HBX.out.size))
              clear hwy hby hlx hcv hcv0 hu1 hu2 hdc hb255 q2
              go_wp2_with fail
              go_loop [22] (fun i => ∃ k : Nat, k ≤ K ∧ i = .int .i64 k) (fun i => K - (RowKit.intOf i).toNat)
              case atStart => exact ⟨0, Nat.zero_le _, rfl⟩
              case round =>
                obtain ⟨k, hk, rfl⟩ := hrel
                by_cases hkK : k < K
                · have s1 : (k : Int) < (K : Int) := by omega
                  have s2 : IntKind.u8.wrap ((q : Int) + (k : Int)) = ((UInt8.ofNat (q + k)).toNat : Int) := by rw [IntKind.wrap_u8]; simp
                  have hxc : ∃ xb, xa = some ⟨xb, 0, none⟩ ∧ wy.cell? ⟨xb, k, none⟩ = some (.int .u8 ((UInt8.ofNat (q + k)).toNat : Int)) := by
                    rcases HRY.out with ⟨e, e2⟩ | ⟨xb, cap, cur, e, _⟩
                    · have := congrArg List.length e2
                      rw [List.length_map, bsF_len] at this
                      simp at this; omega
                    · simp only [Value.slice.injEq] at e
                      obtain rfl := e.1
                      refine ⟨xb, rfl, ?_⟩
                      have e3 : ((bsF q K).map byteV).length = K := by rw [List.length_map, bsF_len]
                      have h := row_news (w := wy) (cap := xc) (xs := (bsF q K).map byteV) (by rw [e3]; exact HRY.out) rfl k (.int .u8 ((UInt8.ofNat (q + k)).toNat : Int)) (by simp [bsF, hkK, byteV])
                      rwa [add_head] at h
                  obtain ⟨xb, rfl, hxc⟩ := hxc
                  go_wp2
                  go_round
                  case measure => simp [RowKit.intOf]; omega
                  case rel => exact ⟨k + 1, by omega, by go_num⟩
                · have s1 : ¬ (k : Int) < (K : Int) := by omega
                  go_wp2
                  go_roundw
                  case measure => simp [RowKit.intOf]; omega
                  case rel => exact ⟨q + 1, by omega, by go_num, HBY⟩
            · have q4 : (keep.length : Int) ≤ (q : Int) := by omega
              have hK0 : K = 0 := by rw [hkn2]; unfold keepN; rw [dif_neg hqk]
              subst hK0
              clear hkn2 hk
              go_wp2_with fail
              refine wp_region_held_drew (S := (fun w' => w'.cell? ⟨lb, q, none⟩ = some (.string (⟨#[102]⟩ ++ ⟨#[cb]⟩)))) (by kernel_rfl) hlx (fun hHeld => ?_)
              refine wpAnyH_take (i := 0) (oi := { dst := some 130, op := Op.move (Operand.tmp 19), type := 24, pos := "extra.go:45", after := #[], guard := none }) (v := ?_) rfl (by kernel_rfl) (by kernel_rfl) (by kernel_rfl) (fun _ _ _ h => h) (Or.inl ⟨by rfl, ?_⟩) hHeld ?_
              rotate_left
              · intro w hSw; (try dsimp only at hSw); go_simp; (try with_reducible rfl)
              try simp only [Act.put, List.setIfInBounds_toArray, List.set_cons_zero, List.set_cons_succ]
              refine wpAnyH_take (i := 1) (oi := { dst := some 131, op := Op.binOp BinOp.neq 24 (Operand.tmp 130) (Operand.const (Value.int IntKind.i64 0)) 24, type := 4, pos := "extra.go:45", after := #[{ on := 0, ground := Ground.data }], guard := none }) (v := ?_) rfl (by kernel_rfl) (by kernel_rfl) (by kernel_rfl) (fun _ _ _ h => h) (Or.inl ⟨by rfl, ?_⟩) hHeld ?_
              rotate_left
              · intro w hSw; (try dsimp only at hSw); go_simp; (try with_reducible rfl)
              try simp only [Act.put, List.setIfInBounds_toArray, List.set_cons_zero, List.set_cons_succ]
              refine wpAnyH_take (i := 2) (oi := { dst := some 132, op := Op.move (Operand.tmp 131), type := 4, pos := "extra.go:45", after := #[{ on := 1, ground := Ground.data }], guard := none }) (v := ?_) rfl (by kernel_rfl) (by kernel_rfl) (by kernel_rfl) (fun _ _ _ h => h) (Or.inl ⟨by rfl, ?_⟩) hHeld ?_
              rotate_left
              · intro w hSw; (try dsimp only at hSw); go_simp; (try with_reducible rfl)
              try simp only [Act.put, List.setIfInBounds_toArray, List.set_cons_zero, List.set_cons_succ]
              refine wpAnyH_take (i := 3) (oi := { dst := some 133, op := Op.move (Operand.tmp 15), type := 31, pos := "extra.go:45", after := #[{ on := 2, ground := Ground.guard }], guard := some (2, false) }) (v := ?_) rfl (by kernel_rfl) (by kernel_rfl) (by kernel_rfl) (fun _ _ _ h => h) (Or.inl ⟨by rfl, ?_⟩) hHeld ?_
              rotate_left
              · intro w hSw; (try dsimp only at hSw); go_simp; (try with_reducible rfl)
              try simp only [Act.put, List.setIfInBounds_toArray, List.set_cons_zero, List.set_cons_succ]
              refine wpAnyH_take (i := 4) (oi := { dst := some 134, op := Op.move (Operand.tmp 17), type := 3, pos := "extra.go:45", after := #[{ on := 2, ground := Ground.guard }], guard := some (2, false) }) (v := ?_) rfl (by kernel_rfl) (by kernel_rfl) (by kernel_rfl) (fun _ _ _ h => h) (Or.inl ⟨by rfl, ?_⟩) hHeld ?_
              rotate_left
              · intro w hSw; (try dsimp only at hSw); go_simp; (try with_reducible rfl)
              try simp only [Act.put, List.setIfInBounds_toArray, List.set_cons_zero, List.set_cons_succ]
              refine wpAnyH_take (i := 5) (oi := { dst := some 135, op := Op.indexAddr 31 (Operand.tmp 133) (Operand.tmp 134), type := 0, pos := "extra.go:45", after := #[{ on := 3, ground := Ground.data }, { on := 4, ground := Ground.data }, { on := 2, ground := Ground.guard }], guard := some (2, false) }) (v := ?_) rfl (by kernel_rfl) (by kernel_rfl) (by kernel_rfl) (fun _ _ _ h => h) (Or.inl ⟨by rfl, ?_⟩) hHeld ?_
              rotate_left
              · intro w hSw; (try dsimp only at hSw); go_simp; (try with_reducible rfl)
              try simp only [Act.put, List.setIfInBounds_toArray, List.set_cons_zero, List.set_cons_succ]
              refine wpAnyH_take (i := 6) (oi := { dst := some 136, op := Op.load 9 (Operand.tmp 135), type := 9, pos := "extra.go:45", after := #[{ on := 5, ground := Ground.data }, { on := 2, ground := Ground.guard }], guard := some (2, false) }) (v := ?_) rfl (by kernel_rfl) (by kernel_rfl) (by kernel_rfl) (fun _ _ _ h => h) (Or.inl ⟨by rfl, ?_⟩) hHeld ?_
              rotate_left
              · intro w hSw; (try dsimp only at hSw); go_simp; (try with_reducible rfl)
              try simp only [Act.put, List.setIfInBounds_toArray, List.set_cons_zero, List.set_cons_succ]
              refine wpAnyH_take (i := 7) (oi := { dst := some 137, op := Op.move (Operand.tmp 17), type := 3, pos := "extra.go:45", after := #[{ on := 2, ground := Ground.guard }], guard := some (2, false) }) (v := ?_) rfl (by kernel_rfl) (by kernel_rfl) (by kernel_rfl) (fun _ _ _ h => h) (Or.inl ⟨by rfl, ?_⟩) hHeld ?_
              rotate_left
              · intro w hSw; (try dsimp only at hSw); go_simp; (try with_reducible rfl)
              try simp only [Act.put, List.setIfInBounds_toArray, List.set_cons_zero, List.set_cons_succ]
              refine wpAnyH_take (i := 8) (oi := { dst := some 138, op := Op.convert 3 5 (Operand.tmp 137), type := 5, pos := "extra.go:45", after := #[{ on := 7, ground := Ground.data }, { on := 2, ground := Ground.guard }], guard := some (2, false) }) (v := ?_) rfl (by kernel_rfl) (by kernel_rfl) (by kernel_rfl) (fun _ _ _ h => h) (Or.inl ⟨by rfl, ?_⟩) hHeld ?_
              rotate_left
              · intro w hSw; (try dsimp only at hSw); go_simp; (try with_reducible rfl)
              try simp only [Act.put, List.setIfInBounds_toArray, List.set_cons_zero, List.set_cons_succ]
              refine wpAnyH_take (i := 9) (oi := { dst := some 139, op := Op.binOp BinOp.add 5 (Operand.const (Value.int IntKind.u8 97)) (Operand.tmp 138) 5, type := 5, pos := "extra.go:45", after := #[{ on := 8, ground := Ground.data }, { on := 2, ground := Ground.guard }], guard := some (2, false) }) (v := ?_) rfl (by kernel_rfl) (by kernel_rfl) (by kernel_rfl) (fun _ _ _ h => h) (Or.inl ⟨by rfl, ?_⟩) hHeld ?_
              rotate_left
              · intro w hSw; (try dsimp only at hSw); go_simp; (try with_reducible rfl)
              try simp only [Act.put, List.setIfInBounds_toArray, List.set_cons_zero, List.set_cons_succ]
              refine wpAnyH_ready (rs := [10]) (by kernel_rfl) (by simp) ?_
              refine AllReadyH.cons (o := { dst := some 140, op := Op.buildSlice 27 1 #[(0, Operand.tmp 139)], type := 27, pos := "extra.go:45", after := #[{ on := 9, ground := Ground.data }, { on := 2, ground := Ground.guard }], guard := some (2, false) }) rfl (fun K hK => ?_) AllReadyH.nil
              go_simp
              refine hK.out _ _ ?_ (fun hHeld2 => ?_)
              · first | exact Go.Lib.cell?_alloc_some _ hHeld | exact hHeld
              clear hK K hHeld; have hHeld := hHeld2; clear hHeld2
              try simp only [Act.put, List.setIfInBounds_toArray, List.set_cons_zero, List.set_cons_succ]
              refine wpAnyH_ready (rs := [11]) (by kernel_rfl) (by simp) ?_
              refine AllReadyH.cons (o := { dst := some 141, op := Op.convert 27 9 (Operand.tmp 140), type := 9, pos := "extra.go:45", after := #[{ on := 10, ground := Ground.data }, { on := 2, ground := Ground.guard }], guard := some (2, false) }) rfl (fun K hK => ?_) AllReadyH.nil
              go_simp
              refine hK.out _ _ ?_ (fun hHeld2 => ?_)
              · first | exact Go.Lib.cell?_alloc_some _ hHeld | exact hHeld
              clear hK K hHeld; have hHeld := hHeld2; clear hHeld2
              try simp only [Act.put, List.setIfInBounds_toArray, List.set_cons_zero, List.set_cons_succ]
              refine wpAnyH_take (i := 12) (oi := { dst := some 142, op := Op.binOp BinOp.add 9 (Operand.const (Value.string { data := #[102] })) (Operand.tmp 141) 9, type := 9, pos := "extra.go:45", after := #[{ on := 11, ground := Ground.data }, { on := 2, ground := Ground.guard }], guard := some (2, false) }) (v := ?_) rfl (by kernel_rfl) (by kernel_rfl) (by kernel_rfl) (fun _ _ _ h => h) (Or.inl ⟨by rfl, ?_⟩) hHeld ?_
              rotate_left
              · intro w hSw; (try dsimp only at hSw); go_simp; (try with_reducible rfl)
              try simp only [Act.put, List.setIfInBounds_toArray, List.set_cons_zero, List.set_cons_succ]
              refine wpAnyH_take (i := 13) (oi := { dst := some 143, op := Op.binOp BinOp.neq 9 (Operand.tmp 136) (Operand.tmp 142) 9, type := 4, pos := "extra.go:45", after := #[{ on := 6, ground := Ground.data }, { on := 12, ground := Ground.data }, { on := 2, ground := Ground.guard }], guard := some (2, false) }) (v := ?_) rfl (by kernel_rfl) (by kernel_rfl) (by kernel_rfl) (fun _ _ _ h => h) (Or.inl ⟨by rfl, ?_⟩) hHeld ?_
              rotate_left
              · intro w hSw; (try dsimp only at hSw); go_simp; (try with_reducible rfl)
              try simp only [Act.put, List.setIfInBounds_toArray, List.set_cons_zero, List.set_cons_succ]
              refine wpAnyH_take (i := 14) (oi := { dst := some 144, op := Op.pick (Operand.tmp 132) (Operand.const (Value.bool true)) (Operand.tmp 143), type := 4, pos := "extra.go:45", after := #[{ on := 2, ground := Ground.data }, { on := 13, ground := Ground.data }], guard := none }) (v := ?_) rfl (by kernel_rfl) (by kernel_rfl) (by kernel_rfl) (fun _ _ _ h => h) (Or.inl ⟨by rfl, ?_⟩) hHeld ?_
              rotate_left
              · intro w hSw; (try dsimp only at hSw); go_simp; (try with_reducible rfl)
              try simp only [Act.put, List.setIfInBounds_toArray, List.set_cons_zero, List.set_cons_succ]
              refine wpAnyH_take (i := 15) (oi := { dst := some 145, op := Op.move (Operand.tmp 144), type := 4, pos := "extra.go:45", after := #[{ on := 14, ground := Ground.data }, { on := 2, ground := Ground.chain }], guard := none }) (v := ?_) rfl (by kernel_rfl) (by kernel_rfl) (by kernel_rfl) (fun _ _ _ h => h) (Or.inl ⟨by rfl, ?_⟩) hHeld ?_
              rotate_left
              · intro w hSw; (try dsimp only at hSw); go_simp; (try with_reducible rfl)
              try simp only [Act.put, List.setIfInBounds_toArray, List.set_cons_zero, List.set_cons_succ]
              refine wpAnyH_take (i := 16) (oi := { dst := some 146, op := Op.move (Operand.tmp 18), type := 27, pos := "extra.go:45", after := #[{ on := 15, ground := Ground.guard }], guard := some (15, false) }) (v := ?_) rfl (by kernel_rfl) (by kernel_rfl) (by kernel_rfl) (fun _ _ _ h => h) (Or.inl ⟨by rfl, ?_⟩) hHeld ?_
              rotate_left
              · intro w hSw; (try dsimp only at hSw); go_simp; (try with_reducible rfl)
              try simp only [Act.put, List.setIfInBounds_toArray, List.set_cons_zero, List.set_cons_succ]
              refine wpAnyH_take (i := 17) (oi := { dst := some 147, op := Op.call { callee := Callee.builtin Builtin.len, args := #[Operand.tmp 146], argTypes := #[27] }, type := 3, pos := "extra.go:45", after := #[{ on := 16, ground := Ground.data }, { on := 15, ground := Ground.guard }], guard := some (15, false) }) (v := ?_) rfl (by kernel_rfl) (by kernel_rfl) (by kernel_rfl) (fun _ _ _ h => h) (Or.inl ⟨by rfl, ?_⟩) hHeld ?_
              rotate_left
              · intro w hSw; (try dsimp only at hSw); go_simp; (try with_reducible rfl)
              try simp only [Act.put, List.setIfInBounds_toArray, List.set_cons_zero, List.set_cons_succ]
              refine wpAnyH_take (i := 18) (oi := { dst := some 148, op := Op.move (Operand.tmp 21), type := 3, pos := "extra.go:45", after := #[{ on := 15, ground := Ground.guard }], guard := some (15, false) }) (v := ?_) rfl (by kernel_rfl) (by kernel_rfl) (by kernel_rfl) (fun _ _ _ h => h) (Or.inl ⟨by rfl, ?_⟩) hHeld ?_
              rotate_left
              · intro w hSw; (try dsimp only at hSw); go_simp; (try with_reducible rfl)
              try simp only [Act.put, List.setIfInBounds_toArray, List.set_cons_zero, List.set_cons_succ]
              refine wpAnyH_take (i := 19) (oi := { dst := some 149, op := Op.binOp BinOp.neq 3 (Operand.tmp 147) (Operand.tmp 148) 3, type := 4, pos := "extra.go:45", after := #[{ on := 17, ground := Ground.data }, { on := 18, ground := Ground.data }, { on := 15, ground := Ground.guard }], guard := some (15, false) }) (v := ?_) rfl (by kernel_rfl) (by kernel_rfl) (by kernel_rfl) (fun _ _ _ h => h) (Or.inl ⟨by rfl, ?_⟩) hHeld ?_
              rotate_left
              · intro w hSw; (try dsimp only at hSw); go_simp; (try with_reducible rfl)
              try simp only [Act.put, List.setIfInBounds_toArray, List.set_cons_zero, List.set_cons_succ]
              refine wpAnyH_take (i := 20) (oi := { dst := some 150, op := Op.pick (Operand.tmp 145) (Operand.const (Value.bool true)) (Operand.tmp 149), type := 4, pos := "extra.go:45", after := #[{ on := 15, ground := Ground.data }, { on := 19, ground := Ground.data }], guard := none }) (v := ?_) rfl (by kernel_rfl) (by kernel_rfl) (by kernel_rfl) (fun _ _ _ h => h) (Or.inl ⟨by rfl, ?_⟩) hHeld ?_
              rotate_left
              · intro w hSw; (try dsimp only at hSw); go_simp; (try with_reducible rfl)
              try simp only [Act.put, List.setIfInBounds_toArray, List.set_cons_zero, List.set_cons_succ]
              refine wpAnyH_done (by kernel_rfl) ?_ _
              obtain ⟨wy, hwy⟩ : ∃ wy, (wx.alloc (.cells #[.int .u8 (97 + (q : Int))] 5)).drew = wy := ⟨_, rfl⟩
              have hby : Below wx.heap.size wx wy := by rw [← hwy]; exact ((Below.refl _ _).alloc (Nat.le_refl _) _).drew
              rw [hwy]
              have HRY := Lib.hid (HRX.out.frame (w' := wy) fun b hb => hby.block b (row_lt HRX.out b hb))
              have HBY := Lib.hid (HBX.out.trans (hby.mono HBX.out.size))
              clear hwy hby hlx hcv hcv0 hu1 hu2 hdc hb255 q2
              go_wp2_with fail
              go_loop [22] (fun i => ∃ k : Nat, k ≤ 0 ∧ i = .int .i64 k) (fun i => 0 - (RowKit.intOf i).toNat)
              case atStart => exact ⟨0, Nat.zero_le _, rfl⟩
              case round =>
                obtain ⟨k, hk, rfl⟩ := hrel
                by_cases hkK : k < 0
                · exact absurd hkK (by omega)
                · have s1 : ¬ (k : Int) < (0 : Int) := by omega
                  go_wp2
                  go_roundw
                  case measure => simp [RowKit.intOf]; omega
                  case rel => exact ⟨q + 1, by omega, by go_num, HBY⟩
          · have q3 : (sizes.length : Int) ≤ (q : Int) := by omega
            have hm5 : m = 5 := by rw [hm]; unfold sizeOf; rw [dif_neg hqs]
            subst hm5
            clear hm h255 hz
            by_cases hqk : q < keep.length
            · have q4 : (q : Int) < (keep.length : Int) := by omega
              have hec : ∃ a', ka = some a' ∧ wx.cell? (a'.add q) = some (.int .i64 (keep[q]'hqk)) := by
                rcases hk with ⟨e, e2⟩ | ⟨a', c', e, _, hc⟩
                · have : keep = [] := by simpa using e2
                  rw [this] at hqk; exact absurd hqk (by simp)
                · simp only [Value.slice.injEq] at e
                  exact ⟨a', e.1, hc q _ (by rw [List.getElem?_map, List.getElem?_eq_getElem hqk]; rfl)⟩
              obtain ⟨a', rfl, hec⟩ := hec
              have hmn : min (max (keep[q]'hqk) 0) ((5 : Nat) : Int) = (K : Int) := by rw [hkn2, keepN_eq keep q 5 hqk]
              simp only [Int.cast_ofNat_Int] at hmn
              generalize (keep[q]'hqk) = d at *
              clear hkn2 hk
              go_wp2_with fail
              refine wp_region_held_drew (S := (fun w' => w'.cell? ⟨lb, q, none⟩ = some (.string (⟨#[102]⟩ ++ ⟨#[cb]⟩)))) (by kernel_rfl) hlx (fun hHeld => ?_)
              refine wpAnyH_take (i := 0) (oi := { dst := some 130, op := Op.move (Operand.tmp 19), type := 24, pos := "extra.go:45", after := #[], guard := none }) (v := ?_) rfl (by kernel_rfl) (by kernel_rfl) (by kernel_rfl) (fun _ _ _ h => h) (Or.inl ⟨by rfl, ?_⟩) hHeld ?_
              rotate_left
              · intro w hSw; (try dsimp only at hSw); go_simp; (try with_reducible rfl)
              try simp only [Act.put, List.setIfInBounds_toArray, List.set_cons_zero, List.set_cons_succ]
              refine wpAnyH_take (i := 1) (oi := { dst := some 131, op := Op.binOp BinOp.neq 24 (Operand.tmp 130) (Operand.const (Value.int IntKind.i64 0)) 24, type := 4, pos := "extra.go:45", after := #[{ on := 0, ground := Ground.data }], guard := none }) (v := ?_) rfl (by kernel_rfl) (by kernel_rfl) (by kernel_rfl) (fun _ _ _ h => h) (Or.inl ⟨by rfl, ?_⟩) hHeld ?_
              rotate_left
              · intro w hSw; (try dsimp only at hSw); go_simp; (try with_reducible rfl)
              try simp only [Act.put, List.setIfInBounds_toArray, List.set_cons_zero, List.set_cons_succ]
              refine wpAnyH_take (i := 2) (oi := { dst := some 132, op := Op.move (Operand.tmp 131), type := 4, pos := "extra.go:45", after := #[{ on := 1, ground := Ground.data }], guard := none }) (v := ?_) rfl (by kernel_rfl) (by kernel_rfl) (by kernel_rfl) (fun _ _ _ h => h) (Or.inl ⟨by rfl, ?_⟩) hHeld ?_
              rotate_left
              · intro w hSw; (try dsimp only at hSw); go_simp; (try with_reducible rfl)
              try simp only [Act.put, List.setIfInBounds_toArray, List.set_cons_zero, List.set_cons_succ]
              refine wpAnyH_take (i := 3) (oi := { dst := some 133, op := Op.move (Operand.tmp 15), type := 31, pos := "extra.go:45", after := #[{ on := 2, ground := Ground.guard }], guard := some (2, false) }) (v := ?_) rfl (by kernel_rfl) (by kernel_rfl) (by kernel_rfl) (fun _ _ _ h => h) (Or.inl ⟨by rfl, ?_⟩) hHeld ?_
              rotate_left
              · intro w hSw; (try dsimp only at hSw); go_simp; (try with_reducible rfl)
              try simp only [Act.put, List.setIfInBounds_toArray, List.set_cons_zero, List.set_cons_succ]
              refine wpAnyH_take (i := 4) (oi := { dst := some 134, op := Op.move (Operand.tmp 17), type := 3, pos := "extra.go:45", after := #[{ on := 2, ground := Ground.guard }], guard := some (2, false) }) (v := ?_) rfl (by kernel_rfl) (by kernel_rfl) (by kernel_rfl) (fun _ _ _ h => h) (Or.inl ⟨by rfl, ?_⟩) hHeld ?_
              rotate_left
              · intro w hSw; (try dsimp only at hSw); go_simp; (try with_reducible rfl)
              try simp only [Act.put, List.setIfInBounds_toArray, List.set_cons_zero, List.set_cons_succ]
              refine wpAnyH_take (i := 5) (oi := { dst := some 135, op := Op.indexAddr 31 (Operand.tmp 133) (Operand.tmp 134), type := 0, pos := "extra.go:45", after := #[{ on := 3, ground := Ground.data }, { on := 4, ground := Ground.data }, { on := 2, ground := Ground.guard }], guard := some (2, false) }) (v := ?_) rfl (by kernel_rfl) (by kernel_rfl) (by kernel_rfl) (fun _ _ _ h => h) (Or.inl ⟨by rfl, ?_⟩) hHeld ?_
              rotate_left
              · intro w hSw; (try dsimp only at hSw); go_simp; (try with_reducible rfl)
              try simp only [Act.put, List.setIfInBounds_toArray, List.set_cons_zero, List.set_cons_succ]
              refine wpAnyH_take (i := 6) (oi := { dst := some 136, op := Op.load 9 (Operand.tmp 135), type := 9, pos := "extra.go:45", after := #[{ on := 5, ground := Ground.data }, { on := 2, ground := Ground.guard }], guard := some (2, false) }) (v := ?_) rfl (by kernel_rfl) (by kernel_rfl) (by kernel_rfl) (fun _ _ _ h => h) (Or.inl ⟨by rfl, ?_⟩) hHeld ?_
              rotate_left
              · intro w hSw; (try dsimp only at hSw); go_simp; (try with_reducible rfl)
              try simp only [Act.put, List.setIfInBounds_toArray, List.set_cons_zero, List.set_cons_succ]
              refine wpAnyH_take (i := 7) (oi := { dst := some 137, op := Op.move (Operand.tmp 17), type := 3, pos := "extra.go:45", after := #[{ on := 2, ground := Ground.guard }], guard := some (2, false) }) (v := ?_) rfl (by kernel_rfl) (by kernel_rfl) (by kernel_rfl) (fun _ _ _ h => h) (Or.inl ⟨by rfl, ?_⟩) hHeld ?_
              rotate_left
              · intro w hSw; (try dsimp only at hSw); go_simp; (try with_reducible rfl)
              try simp only [Act.put, List.setIfInBounds_toArray, List.set_cons_zero, List.set_cons_succ]
              refine wpAnyH_take (i := 8) (oi := { dst := some 138, op := Op.convert 3 5 (Operand.tmp 137), type := 5, pos := "extra.go:45", after := #[{ on := 7, ground := Ground.data }, { on := 2, ground := Ground.guard }], guard := some (2, false) }) (v := ?_) rfl (by kernel_rfl) (by kernel_rfl) (by kernel_rfl) (fun _ _ _ h => h) (Or.inl ⟨by rfl, ?_⟩) hHeld ?_
              rotate_left
              · intro w hSw; (try dsimp only at hSw); go_simp; (try with_reducible rfl)
              try simp only [Act.put, List.setIfInBounds_toArray, List.set_cons_zero, List.set_cons_succ]
              refine wpAnyH_take (i := 9) (oi := { dst := some 139, op := Op.binOp BinOp.add 5 (Operand.const (Value.int IntKind.u8 97)) (Operand.tmp 138) 5, type := 5, pos := "extra.go:45", after := #[{ on := 8, ground := Ground.data }, { on := 2, ground := Ground.guard }], guard := some (2, false) }) (v := ?_) rfl (by kernel_rfl) (by kernel_rfl) (by kernel_rfl) (fun _ _ _ h => h) (Or.inl ⟨by rfl, ?_⟩) hHeld ?_
              rotate_left
              · intro w hSw; (try dsimp only at hSw); go_simp; (try with_reducible rfl)
              try simp only [Act.put, List.setIfInBounds_toArray, List.set_cons_zero, List.set_cons_succ]
              refine wpAnyH_ready (rs := [10]) (by kernel_rfl) (by simp) ?_
              refine AllReadyH.cons (o := { dst := some 140, op := Op.buildSlice 27 1 #[(0, Operand.tmp 139)], type := 27, pos := "extra.go:45", after := #[{ on := 9, ground := Ground.data }, { on := 2, ground := Ground.guard }], guard := some (2, false) }) rfl (fun K hK => ?_) AllReadyH.nil
              go_simp
              refine hK.out _ _ ?_ (fun hHeld2 => ?_)
              · first | exact Go.Lib.cell?_alloc_some _ hHeld | exact hHeld
              clear hK K hHeld; have hHeld := hHeld2; clear hHeld2
              try simp only [Act.put, List.setIfInBounds_toArray, List.set_cons_zero, List.set_cons_succ]
              refine wpAnyH_ready (rs := [11]) (by kernel_rfl) (by simp) ?_
              refine AllReadyH.cons (o := { dst := some 141, op := Op.convert 27 9 (Operand.tmp 140), type := 9, pos := "extra.go:45", after := #[{ on := 10, ground := Ground.data }, { on := 2, ground := Ground.guard }], guard := some (2, false) }) rfl (fun K hK => ?_) AllReadyH.nil
              go_simp
              refine hK.out _ _ ?_ (fun hHeld2 => ?_)
              · first | exact Go.Lib.cell?_alloc_some _ hHeld | exact hHeld
              clear hK K hHeld; have hHeld := hHeld2; clear hHeld2
              try simp only [Act.put, List.setIfInBounds_toArray, List.set_cons_zero, List.set_cons_succ]
              refine wpAnyH_take (i := 12) (oi := { dst := some 142, op := Op.binOp BinOp.add 9 (Operand.const (Value.string { data := #[102] })) (Operand.tmp 141) 9, type := 9, pos := "extra.go:45", after := #[{ on := 11, ground := Ground.data }, { on := 2, ground := Ground.guard }], guard := some (2, false) }) (v := ?_) rfl (by kernel_rfl) (by kernel_rfl) (by kernel_rfl) (fun _ _ _ h => h) (Or.inl ⟨by rfl, ?_⟩) hHeld ?_
              rotate_left
              · intro w hSw; (try dsimp only at hSw); go_simp; (try with_reducible rfl)
              try simp only [Act.put, List.setIfInBounds_toArray, List.set_cons_zero, List.set_cons_succ]
              refine wpAnyH_take (i := 13) (oi := { dst := some 143, op := Op.binOp BinOp.neq 9 (Operand.tmp 136) (Operand.tmp 142) 9, type := 4, pos := "extra.go:45", after := #[{ on := 6, ground := Ground.data }, { on := 12, ground := Ground.data }, { on := 2, ground := Ground.guard }], guard := some (2, false) }) (v := ?_) rfl (by kernel_rfl) (by kernel_rfl) (by kernel_rfl) (fun _ _ _ h => h) (Or.inl ⟨by rfl, ?_⟩) hHeld ?_
              rotate_left
              · intro w hSw; (try dsimp only at hSw); go_simp; (try with_reducible rfl)
              try simp only [Act.put, List.setIfInBounds_toArray, List.set_cons_zero, List.set_cons_succ]
              refine wpAnyH_take (i := 14) (oi := { dst := some 144, op := Op.pick (Operand.tmp 132) (Operand.const (Value.bool true)) (Operand.tmp 143), type := 4, pos := "extra.go:45", after := #[{ on := 2, ground := Ground.data }, { on := 13, ground := Ground.data }], guard := none }) (v := ?_) rfl (by kernel_rfl) (by kernel_rfl) (by kernel_rfl) (fun _ _ _ h => h) (Or.inl ⟨by rfl, ?_⟩) hHeld ?_
              rotate_left
              · intro w hSw; (try dsimp only at hSw); go_simp; (try with_reducible rfl)
              try simp only [Act.put, List.setIfInBounds_toArray, List.set_cons_zero, List.set_cons_succ]
              refine wpAnyH_take (i := 15) (oi := { dst := some 145, op := Op.move (Operand.tmp 144), type := 4, pos := "extra.go:45", after := #[{ on := 14, ground := Ground.data }, { on := 2, ground := Ground.chain }], guard := none }) (v := ?_) rfl (by kernel_rfl) (by kernel_rfl) (by kernel_rfl) (fun _ _ _ h => h) (Or.inl ⟨by rfl, ?_⟩) hHeld ?_
              rotate_left
              · intro w hSw; (try dsimp only at hSw); go_simp; (try with_reducible rfl)
              try simp only [Act.put, List.setIfInBounds_toArray, List.set_cons_zero, List.set_cons_succ]
              refine wpAnyH_take (i := 16) (oi := { dst := some 146, op := Op.move (Operand.tmp 18), type := 27, pos := "extra.go:45", after := #[{ on := 15, ground := Ground.guard }], guard := some (15, false) }) (v := ?_) rfl (by kernel_rfl) (by kernel_rfl) (by kernel_rfl) (fun _ _ _ h => h) (Or.inl ⟨by rfl, ?_⟩) hHeld ?_
              rotate_left
              · intro w hSw; (try dsimp only at hSw); go_simp; (try with_reducible rfl)
              try simp only [Act.put, List.setIfInBounds_toArray, List.set_cons_zero, List.set_cons_succ]
              refine wpAnyH_take (i := 17) (oi := { dst := some 147, op := Op.call { callee := Callee.builtin Builtin.len, args := #[Operand.tmp 146], argTypes := #[27] }, type := 3, pos := "extra.go:45", after := #[{ on := 16, ground := Ground.data }, { on := 15, ground := Ground.guard }], guard := some (15, false) }) (v := ?_) rfl (by kernel_rfl) (by kernel_rfl) (by kernel_rfl) (fun _ _ _ h => h) (Or.inl ⟨by rfl, ?_⟩) hHeld ?_
              rotate_left
              · intro w hSw; (try dsimp only at hSw); go_simp; (try with_reducible rfl)
              try simp only [Act.put, List.setIfInBounds_toArray, List.set_cons_zero, List.set_cons_succ]
              refine wpAnyH_take (i := 18) (oi := { dst := some 148, op := Op.move (Operand.tmp 21), type := 3, pos := "extra.go:45", after := #[{ on := 15, ground := Ground.guard }], guard := some (15, false) }) (v := ?_) rfl (by kernel_rfl) (by kernel_rfl) (by kernel_rfl) (fun _ _ _ h => h) (Or.inl ⟨by rfl, ?_⟩) hHeld ?_
              rotate_left
              · intro w hSw; (try dsimp only at hSw); go_simp; (try with_reducible rfl)
              try simp only [Act.put, List.setIfInBounds_toArray, List.set_cons_zero, List.set_cons_succ]
              refine wpAnyH_take (i := 19) (oi := { dst := some 149, op := Op.binOp BinOp.neq 3 (Operand.tmp 147) (Operand.tmp 148) 3, type := 4, pos := "extra.go:45", after := #[{ on := 17, ground := Ground.data }, { on := 18, ground := Ground.data }, { on := 15, ground := Ground.guard }], guard := some (15, false) }) (v := ?_) rfl (by kernel_rfl) (by kernel_rfl) (by kernel_rfl) (fun _ _ _ h => h) (Or.inl ⟨by rfl, ?_⟩) hHeld ?_
              rotate_left
              · intro w hSw; (try dsimp only at hSw); go_simp; (try with_reducible rfl)
              try simp only [Act.put, List.setIfInBounds_toArray, List.set_cons_zero, List.set_cons_succ]
              refine wpAnyH_take (i := 20) (oi := { dst := some 150, op := Op.pick (Operand.tmp 145) (Operand.const (Value.bool true)) (Operand.tmp 149), type := 4, pos := "extra.go:45", after := #[{ on := 15, ground := Ground.data }, { on := 19, ground := Ground.data }], guard := none }) (v := ?_) rfl (by kernel_rfl) (by kernel_rfl) (by kernel_rfl) (fun _ _ _ h => h) (Or.inl ⟨by rfl, ?_⟩) hHeld ?_
              rotate_left
              · intro w hSw; (try dsimp only at hSw); go_simp; (try with_reducible rfl)
              try simp only [Act.put, List.setIfInBounds_toArray, List.set_cons_zero, List.set_cons_succ]
              refine wpAnyH_done (by kernel_rfl) ?_ _
              obtain ⟨wy, hwy⟩ : ∃ wy, (wx.alloc (.cells #[.int .u8 (97 + (q : Int))] 5)).drew = wy := ⟨_, rfl⟩
              have hby : Below wx.heap.size wx wy := by rw [← hwy]; exact ((Below.refl _ _).alloc (Nat.le_refl _) _).drew
              rw [hwy]
              have HRY := Lib.hid (HRX.out.frame (w' := wy) fun b hb => hby.block b (row_lt HRX.out b hb))
              have HBY := Lib.hid (HBX.out.trans (hby.mono HBX.out.size))
              clear hwy hby hlx hcv hcv0 hu1 hu2 q2
              go_wp2_with fail
              go_loop [22] (fun i => ∃ k : Nat, k ≤ K ∧ i = .int .i64 k) (fun i => K - (RowKit.intOf i).toNat)
              case atStart => exact ⟨0, Nat.zero_le _, rfl⟩
              case round =>
                obtain ⟨k, hk, rfl⟩ := hrel
                by_cases hkK : k < K
                · have s1 : (k : Int) < (K : Int) := by omega
                  have s2 : IntKind.u8.wrap ((q : Int) + (k : Int)) = ((UInt8.ofNat (q + k)).toNat : Int) := by rw [IntKind.wrap_u8]; simp
                  have hxc : ∃ xb, xa = some ⟨xb, 0, none⟩ ∧ wy.cell? ⟨xb, k, none⟩ = some (.int .u8 ((UInt8.ofNat (q + k)).toNat : Int)) := by
                    rcases HRY.out with ⟨e, e2⟩ | ⟨xb, cap, cur, e, _⟩
                    · have := congrArg List.length e2
                      rw [List.length_map, bsF_len] at this
                      simp at this; omega
                    · simp only [Value.slice.injEq] at e
                      obtain rfl := e.1
                      refine ⟨xb, rfl, ?_⟩
                      have e3 : ((bsF q K).map byteV).length = K := by rw [List.length_map, bsF_len]
                      have h := row_news (w := wy) (cap := xc) (xs := (bsF q K).map byteV) (by rw [e3]; exact HRY.out) rfl k (.int .u8 ((UInt8.ofNat (q + k)).toNat : Int)) (by simp [bsF, hkK, byteV])
                      rwa [add_head] at h
                  obtain ⟨xb, rfl, hxc⟩ := hxc
                  go_wp2
                  go_round
                  case measure => simp [RowKit.intOf]; omega
                  case rel => exact ⟨k + 1, by omega, by go_num⟩
                · have s1 : ¬ (k : Int) < (K : Int) := by omega
                  go_wp2
                  go_roundw
                  case measure => simp [RowKit.intOf]; omega
                  case rel => exact ⟨q + 1, by omega, by go_num, HBY⟩
            · have q4 : (keep.length : Int) ≤ (q : Int) := by omega
              have hK0 : K = 0 := by rw [hkn2]; unfold keepN; rw [dif_neg hqk]
              subst hK0
              clear hkn2 hk
              go_wp2_with fail
              refine wp_region_held_drew (S := (fun w' => w'.cell? ⟨lb, q, none⟩ = some (.string (⟨#[102]⟩ ++ ⟨#[cb]⟩)))) (by kernel_rfl) hlx (fun hHeld => ?_)
              refine wpAnyH_take (i := 0) (oi := { dst := some 130, op := Op.move (Operand.tmp 19), type := 24, pos := "extra.go:45", after := #[], guard := none }) (v := ?_) rfl (by kernel_rfl) (by kernel_rfl) (by kernel_rfl) (fun _ _ _ h => h) (Or.inl ⟨by rfl, ?_⟩) hHeld ?_
              rotate_left
              · intro w hSw; (try dsimp only at hSw); go_simp; (try with_reducible rfl)
              try simp only [Act.put, List.setIfInBounds_toArray, List.set_cons_zero, List.set_cons_succ]
              refine wpAnyH_take (i := 1) (oi := { dst := some 131, op := Op.binOp BinOp.neq 24 (Operand.tmp 130) (Operand.const (Value.int IntKind.i64 0)) 24, type := 4, pos := "extra.go:45", after := #[{ on := 0, ground := Ground.data }], guard := none }) (v := ?_) rfl (by kernel_rfl) (by kernel_rfl) (by kernel_rfl) (fun _ _ _ h => h) (Or.inl ⟨by rfl, ?_⟩) hHeld ?_
              rotate_left
              · intro w hSw; (try dsimp only at hSw); go_simp; (try with_reducible rfl)
              try simp only [Act.put, List.setIfInBounds_toArray, List.set_cons_zero, List.set_cons_succ]
              refine wpAnyH_take (i := 2) (oi := { dst := some 132, op := Op.move (Operand.tmp 131), type := 4, pos := "extra.go:45", after := #[{ on := 1, ground := Ground.data }], guard := none }) (v := ?_) rfl (by kernel_rfl) (by kernel_rfl) (by kernel_rfl) (fun _ _ _ h => h) (Or.inl ⟨by rfl, ?_⟩) hHeld ?_
              rotate_left
              · intro w hSw; (try dsimp only at hSw); go_simp; (try with_reducible rfl)
              try simp only [Act.put, List.setIfInBounds_toArray, List.set_cons_zero, List.set_cons_succ]
              refine wpAnyH_take (i := 3) (oi := { dst := some 133, op := Op.move (Operand.tmp 15), type := 31, pos := "extra.go:45", after := #[{ on := 2, ground := Ground.guard }], guard := some (2, false) }) (v := ?_) rfl (by kernel_rfl) (by kernel_rfl) (by kernel_rfl) (fun _ _ _ h => h) (Or.inl ⟨by rfl, ?_⟩) hHeld ?_
              rotate_left
              · intro w hSw; (try dsimp only at hSw); go_simp; (try with_reducible rfl)
              try simp only [Act.put, List.setIfInBounds_toArray, List.set_cons_zero, List.set_cons_succ]
              refine wpAnyH_take (i := 4) (oi := { dst := some 134, op := Op.move (Operand.tmp 17), type := 3, pos := "extra.go:45", after := #[{ on := 2, ground := Ground.guard }], guard := some (2, false) }) (v := ?_) rfl (by kernel_rfl) (by kernel_rfl) (by kernel_rfl) (fun _ _ _ h => h) (Or.inl ⟨by rfl, ?_⟩) hHeld ?_
              rotate_left
              · intro w hSw; (try dsimp only at hSw); go_simp; (try with_reducible rfl)
              try simp only [Act.put, List.setIfInBounds_toArray, List.set_cons_zero, List.set_cons_succ]
              refine wpAnyH_take (i := 5) (oi := { dst := some 135, op := Op.indexAddr 31 (Operand.tmp 133) (Operand.tmp 134), type := 0, pos := "extra.go:45", after := #[{ on := 3, ground := Ground.data }, { on := 4, ground := Ground.data }, { on := 2, ground := Ground.guard }], guard := some (2, false) }) (v := ?_) rfl (by kernel_rfl) (by kernel_rfl) (by kernel_rfl) (fun _ _ _ h => h) (Or.inl ⟨by rfl, ?_⟩) hHeld ?_
              rotate_left
              · intro w hSw; (try dsimp only at hSw); go_simp; (try with_reducible rfl)
              try simp only [Act.put, List.setIfInBounds_toArray, List.set_cons_zero, List.set_cons_succ]
              refine wpAnyH_take (i := 6) (oi := { dst := some 136, op := Op.load 9 (Operand.tmp 135), type := 9, pos := "extra.go:45", after := #[{ on := 5, ground := Ground.data }, { on := 2, ground := Ground.guard }], guard := some (2, false) }) (v := ?_) rfl (by kernel_rfl) (by kernel_rfl) (by kernel_rfl) (fun _ _ _ h => h) (Or.inl ⟨by rfl, ?_⟩) hHeld ?_
              rotate_left
              · intro w hSw; (try dsimp only at hSw); go_simp; (try with_reducible rfl)
              try simp only [Act.put, List.setIfInBounds_toArray, List.set_cons_zero, List.set_cons_succ]
              refine wpAnyH_take (i := 7) (oi := { dst := some 137, op := Op.move (Operand.tmp 17), type := 3, pos := "extra.go:45", after := #[{ on := 2, ground := Ground.guard }], guard := some (2, false) }) (v := ?_) rfl (by kernel_rfl) (by kernel_rfl) (by kernel_rfl) (fun _ _ _ h => h) (Or.inl ⟨by rfl, ?_⟩) hHeld ?_
              rotate_left
              · intro w hSw; (try dsimp only at hSw); go_simp; (try with_reducible rfl)
              try simp only [Act.put, List.setIfInBounds_toArray, List.set_cons_zero, List.set_cons_succ]
              refine wpAnyH_take (i := 8) (oi := { dst := some 138, op := Op.convert 3 5 (Operand.tmp 137), type := 5, pos := "extra.go:45", after := #[{ on := 7, ground := Ground.data }, { on := 2, ground := Ground.guard }], guard := some (2, false) }) (v := ?_) rfl (by kernel_rfl) (by kernel_rfl) (by kernel_rfl) (fun _ _ _ h => h) (Or.inl ⟨by rfl, ?_⟩) hHeld ?_
              rotate_left
              · intro w hSw; (try dsimp only at hSw); go_simp; (try with_reducible rfl)
              try simp only [Act.put, List.setIfInBounds_toArray, List.set_cons_zero, List.set_cons_succ]
              refine wpAnyH_take (i := 9) (oi := { dst := some 139, op := Op.binOp BinOp.add 5 (Operand.const (Value.int IntKind.u8 97)) (Operand.tmp 138) 5, type := 5, pos := "extra.go:45", after := #[{ on := 8, ground := Ground.data }, { on := 2, ground := Ground.guard }], guard := some (2, false) }) (v := ?_) rfl (by kernel_rfl) (by kernel_rfl) (by kernel_rfl) (fun _ _ _ h => h) (Or.inl ⟨by rfl, ?_⟩) hHeld ?_
              rotate_left
              · intro w hSw; (try dsimp only at hSw); go_simp; (try with_reducible rfl)
              try simp only [Act.put, List.setIfInBounds_toArray, List.set_cons_zero, List.set_cons_succ]
              refine wpAnyH_ready (rs := [10]) (by kernel_rfl) (by simp) ?_
              refine AllReadyH.cons (o := { dst := some 140, op := Op.buildSlice 27 1 #[(0, Operand.tmp 139)], type := 27, pos := "extra.go:45", after := #[{ on := 9, ground := Ground.data }, { on := 2, ground := Ground.guard }], guard := some (2, false) }) rfl (fun K hK => ?_) AllReadyH.nil
              go_simp
              refine hK.out _ _ ?_ (fun hHeld2 => ?_)
              · first | exact Go.Lib.cell?_alloc_some _ hHeld | exact hHeld
              clear hK K hHeld; have hHeld := hHeld2; clear hHeld2
              try simp only [Act.put, List.setIfInBounds_toArray, List.set_cons_zero, List.set_cons_succ]
              refine wpAnyH_ready (rs := [11]) (by kernel_rfl) (by simp) ?_
              refine AllReadyH.cons (o := { dst := some 141, op := Op.convert 27 9 (Operand.tmp 140), type := 9, pos := "extra.go:45", after := #[{ on := 10, ground := Ground.data }, { on := 2, ground := Ground.guard }], guard := some (2, false) }) rfl (fun K hK => ?_) AllReadyH.nil
              go_simp
              refine hK.out _ _ ?_ (fun hHeld2 => ?_)
              · first | exact Go.Lib.cell?_alloc_some _ hHeld | exact hHeld
              clear hK K hHeld; have hHeld := hHeld2; clear hHeld2
              try simp only [Act.put, List.setIfInBounds_toArray, List.set_cons_zero, List.set_cons_succ]
              refine wpAnyH_take (i := 12) (oi := { dst := some 142, op := Op.binOp BinOp.add 9 (Operand.const (Value.string { data := #[102] })) (Operand.tmp 141) 9, type := 9, pos := "extra.go:45", after := #[{ on := 11, ground := Ground.data }, { on := 2, ground := Ground.guard }], guard := some (2, false) }) (v := ?_) rfl (by kernel_rfl) (by kernel_rfl) (by kernel_rfl) (fun _ _ _ h => h) (Or.inl ⟨by rfl, ?_⟩) hHeld ?_
              rotate_left
              · intro w hSw; (try dsimp only at hSw); go_simp; (try with_reducible rfl)
              try simp only [Act.put, List.setIfInBounds_toArray, List.set_cons_zero, List.set_cons_succ]
              refine wpAnyH_take (i := 13) (oi := { dst := some 143, op := Op.binOp BinOp.neq 9 (Operand.tmp 136) (Operand.tmp 142) 9, type := 4, pos := "extra.go:45", after := #[{ on := 6, ground := Ground.data }, { on := 12, ground := Ground.data }, { on := 2, ground := Ground.guard }], guard := some (2, false) }) (v := ?_) rfl (by kernel_rfl) (by kernel_rfl) (by kernel_rfl) (fun _ _ _ h => h) (Or.inl ⟨by rfl, ?_⟩) hHeld ?_
              rotate_left
              · intro w hSw; (try dsimp only at hSw); go_simp; (try with_reducible rfl)
              try simp only [Act.put, List.setIfInBounds_toArray, List.set_cons_zero, List.set_cons_succ]
              refine wpAnyH_take (i := 14) (oi := { dst := some 144, op := Op.pick (Operand.tmp 132) (Operand.const (Value.bool true)) (Operand.tmp 143), type := 4, pos := "extra.go:45", after := #[{ on := 2, ground := Ground.data }, { on := 13, ground := Ground.data }], guard := none }) (v := ?_) rfl (by kernel_rfl) (by kernel_rfl) (by kernel_rfl) (fun _ _ _ h => h) (Or.inl ⟨by rfl, ?_⟩) hHeld ?_
              rotate_left
              · intro w hSw; (try dsimp only at hSw); go_simp; (try with_reducible rfl)
              try simp only [Act.put, List.setIfInBounds_toArray, List.set_cons_zero, List.set_cons_succ]
              refine wpAnyH_take (i := 15) (oi := { dst := some 145, op := Op.move (Operand.tmp 144), type := 4, pos := "extra.go:45", after := #[{ on := 14, ground := Ground.data }, { on := 2, ground := Ground.chain }], guard := none }) (v := ?_) rfl (by kernel_rfl) (by kernel_rfl) (by kernel_rfl) (fun _ _ _ h => h) (Or.inl ⟨by rfl, ?_⟩) hHeld ?_
              rotate_left
              · intro w hSw; (try dsimp only at hSw); go_simp; (try with_reducible rfl)
              try simp only [Act.put, List.setIfInBounds_toArray, List.set_cons_zero, List.set_cons_succ]
              refine wpAnyH_take (i := 16) (oi := { dst := some 146, op := Op.move (Operand.tmp 18), type := 27, pos := "extra.go:45", after := #[{ on := 15, ground := Ground.guard }], guard := some (15, false) }) (v := ?_) rfl (by kernel_rfl) (by kernel_rfl) (by kernel_rfl) (fun _ _ _ h => h) (Or.inl ⟨by rfl, ?_⟩) hHeld ?_
              rotate_left
              · intro w hSw; (try dsimp only at hSw); go_simp; (try with_reducible rfl)
              try simp only [Act.put, List.setIfInBounds_toArray, List.set_cons_zero, List.set_cons_succ]
              refine wpAnyH_take (i := 17) (oi := { dst := some 147, op := Op.call { callee := Callee.builtin Builtin.len, args := #[Operand.tmp 146], argTypes := #[27] }, type := 3, pos := "extra.go:45", after := #[{ on := 16, ground := Ground.data }, { on := 15, ground := Ground.guard }], guard := some (15, false) }) (v := ?_) rfl (by kernel_rfl) (by kernel_rfl) (by kernel_rfl) (fun _ _ _ h => h) (Or.inl ⟨by rfl, ?_⟩) hHeld ?_
              rotate_left
              · intro w hSw; (try dsimp only at hSw); go_simp; (try with_reducible rfl)
              try simp only [Act.put, List.setIfInBounds_toArray, List.set_cons_zero, List.set_cons_succ]
              refine wpAnyH_take (i := 18) (oi := { dst := some 148, op := Op.move (Operand.tmp 21), type := 3, pos := "extra.go:45", after := #[{ on := 15, ground := Ground.guard }], guard := some (15, false) }) (v := ?_) rfl (by kernel_rfl) (by kernel_rfl) (by kernel_rfl) (fun _ _ _ h => h) (Or.inl ⟨by rfl, ?_⟩) hHeld ?_
              rotate_left
              · intro w hSw; (try dsimp only at hSw); go_simp; (try with_reducible rfl)
              try simp only [Act.put, List.setIfInBounds_toArray, List.set_cons_zero, List.set_cons_succ]
              refine wpAnyH_take (i := 19) (oi := { dst := some 149, op := Op.binOp BinOp.neq 3 (Operand.tmp 147) (Operand.tmp 148) 3, type := 4, pos := "extra.go:45", after := #[{ on := 17, ground := Ground.data }, { on := 18, ground := Ground.data }, { on := 15, ground := Ground.guard }], guard := some (15, false) }) (v := ?_) rfl (by kernel_rfl) (by kernel_rfl) (by kernel_rfl) (fun _ _ _ h => h) (Or.inl ⟨by rfl, ?_⟩) hHeld ?_
              rotate_left
              · intro w hSw; (try dsimp only at hSw); go_simp; (try with_reducible rfl)
              try simp only [Act.put, List.setIfInBounds_toArray, List.set_cons_zero, List.set_cons_succ]
              refine wpAnyH_take (i := 20) (oi := { dst := some 150, op := Op.pick (Operand.tmp 145) (Operand.const (Value.bool true)) (Operand.tmp 149), type := 4, pos := "extra.go:45", after := #[{ on := 15, ground := Ground.data }, { on := 19, ground := Ground.data }], guard := none }) (v := ?_) rfl (by kernel_rfl) (by kernel_rfl) (by kernel_rfl) (fun _ _ _ h => h) (Or.inl ⟨by rfl, ?_⟩) hHeld ?_
              rotate_left
              · intro w hSw; (try dsimp only at hSw); go_simp; (try with_reducible rfl)
              try simp only [Act.put, List.setIfInBounds_toArray, List.set_cons_zero, List.set_cons_succ]
              refine wpAnyH_done (by kernel_rfl) ?_ _
              obtain ⟨wy, hwy⟩ : ∃ wy, (wx.alloc (.cells #[.int .u8 (97 + (q : Int))] 5)).drew = wy := ⟨_, rfl⟩
              have hby : Below wx.heap.size wx wy := by rw [← hwy]; exact ((Below.refl _ _).alloc (Nat.le_refl _) _).drew
              rw [hwy]
              have HRY := Lib.hid (HRX.out.frame (w' := wy) fun b hb => hby.block b (row_lt HRX.out b hb))
              have HBY := Lib.hid (HBX.out.trans (hby.mono HBX.out.size))
              clear hwy hby hlx hcv hcv0 hu1 hu2 q2
              go_wp2_with fail
              go_loop [22] (fun i => ∃ k : Nat, k ≤ 0 ∧ i = .int .i64 k) (fun i => 0 - (RowKit.intOf i).toNat)
              case atStart => exact ⟨0, Nat.zero_le _, rfl⟩
              case round =>
                obtain ⟨k, hk, rfl⟩ := hrel
                by_cases hkK : k < 0
                · exact absurd hkK (by omega)
                · have s1 : ¬ (k : Int) < (0 : Int) := by omega
                  go_wp2
                  go_roundw
                  case measure => simp [RowKit.intOf]; omega
                  case rel => exact ⟨q + 1, by omega, by go_num, HBY⟩
        · have r1 : ¬ (q : Int) < (W : Int) := by omega
          have CA := Lib.hid (awake_any wo)
          have HSW := Lib.hid (HSL.out.bel.trans (HB.out.mono HSL.out.bel.size))
          go_wp2_with fail
          refine CA.out.mono ?_
          rintro e wz ⟨rfl, hbz⟩
          have HBZ := Lib.hid (HSW.out.trans (hbz.mono HSW.out.size))
          clear hbz
          go_wp2_with fail
          go_ret
          exact ⟨rfl, HBZ.out⟩
end Go.Proofs.Ytijdgmbpkfmciaa.Fs
