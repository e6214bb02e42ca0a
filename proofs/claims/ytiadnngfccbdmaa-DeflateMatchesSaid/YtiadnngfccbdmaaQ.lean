/- Deflate: DeflateMatches walked. -/
import Derived.Test.YtiadnngfccbdmaaP
namespace Go.Proofs.Ytiadnngfccbdmaa.Df
open Go.RowKit Go.Joins Go.Maps

/-- What the law's rounds lean on. -/
def Told (bs : List UInt8) (reach : Int) (ms : List (Nat × Nat × Nat)) : Prop := (∃ e, GoodTo bs (min reach 32768) ms e) ∧ (reach ≤ 0 → ms = []) ∧ ms.length ≤ bs.length

/-- Bytes that came in: none of them, or at a place. -/
def Came (w : World) (v : Value) (bs : List UInt8) : Prop := (∃ a c, v = .slice a bs.length c ∧ bs = []) ∨ ∃ k o c, v = .slice (some ⟨k, o, none⟩) bs.length c ∧ bs.length ≤ c ∧ k < w.heap.size ∧ Arr w k o bs
set_option maxHeartbeats 8000000 in
set_option maxRecDepth 100000 in
theorem law_matches (v : Value) (bs : List UInt8) (reach : Int) (w : World) (hv : Came w v bs) (hl : bs.length ≤ 9223372036854775807) (hr : -9223372036854775808 ≤ reach ∧ reach < 9223372036854775808) :
    Calls Try.prog 3 #[v, .int .i64 reach] w fun e w' => e = .returned (.bool true) ∧ Below w.heap.size w w' := by
  obtain ⟨va, vc, hve⟩ : ∃ va vc, v = .slice va bs.length vc := by
    rcases hv with ⟨a, c, e, _⟩ | ⟨k, o, c, e, _⟩
    · exact ⟨_, _, e⟩
    · exact ⟨_, _, e⟩
  subst hve
  have CA : Hid (∀ w, Calls Try.prog 6 #[] w fun e w' => e = .returned (.bool true) ∧ Below w.heap.size w w') := Lib.hid awake_any
  by_cases hbig : 20000 < bs.length
  · have s1 : (20000 : Int) < (bs.length : Int) := by omega
    clear hv
    go_enter Try.func3, Try.ntmps3
    go_wp2_with fail
    refine (CA.out _).mono ?_
    rintro e w1 ⟨rfl, hb⟩
    go_wp2_with fail
    go_ret
    exact ⟨rfl, hb⟩
  · have s1 : ¬ (20000 : Int) < (bs.length : Int) := by omega
    have hl2 : bs.length ≤ 20000 := by omega
    have CM : Hid (Calls Try.prog 7 #[.slice va bs.length vc, .int .i64 reach] w (Matched bs reach w)) := Lib.hid (by
      rcases hv with ⟨_, _, e1, e2⟩ | ⟨k, o, c, e1, hc, hk, hcs⟩
      · subst e2
        exact matches_none va vc reach w hr
      · cases e1
        exact matches_any k o _ bs reach w hcs hk hc (by omega) hr)
    have HV := Lib.hid hv
    clear hv hbig
    go_enter Try.func3, Try.ntmps3
    go_wp2_with fail
    refine CM.out.mono ?_
    rintro e w1 ⟨lv, ms, en, rfl, hG, h0, hml, ⟨la, lc, rfl, hlc, hcells⟩, hB⟩
    have HT : Hid (Told bs reach ms) := Lib.hid ⟨⟨en, hG⟩, h0, hml⟩
    have HC := Lib.hid hcells
    have HB := Lib.hid hB
    have hml2 : ms.length ≤ 20000 := by omega
    clear hG h0 hml hcells hB CM
    go_wp2_with fail
    go_loopw [6, 7] (fun e i wr => ∃ n : Nat, n ≤ ms.length ∧ i = .int .i64 n ∧ e = .int .i64 (endOf ms n : Nat) ∧ Hid (Below w1.heap.size w1 wr)) (fun _ i _ => ms.length - (RowKit.intOf i).toNat)
    case atStart => exact ⟨0, Nat.zero_le _, rfl, by rw [endOf_zero]; rfl, Lib.hid (Below.refl _ _)⟩
    case round =>
      obtain ⟨n, hn, rfl, rfl, HBR⟩ := hrel
      by_cases hlt : n < ms.length
      · have s2 : (n : Int) < (ms.length : Int) := by omega
        obtain ⟨R, hRe⟩ : ∃ R, R = min reach 32768 := ⟨_, rfl⟩
        obtain ⟨en, hG⟩ := HT.out.1
        rw [← hRe] at hG
        have hR1 : R ≤ reach := by omega
        have hR2 : R ≤ 32768 := by omega
        obtain ⟨ga, go⟩ := good_at hG n hlt
        have hce := cells_at ms n hlt
        have hes := endOf_succ ms n hlt
        rcases HC.out with hm0 | ⟨lb, hla, hcs⟩
        · rw [hm0] at hlt; simp at hlt
        have x0 := hcs _ _ hce.1
        have x1 := hcs _ _ hce.2.1
        have x2 := hcs _ _ hce.2.2
        have hlb : lb < w1.heap.size := World.block_lt_of_cell? w1 _ x0
        have y0 := (HBR.out.cell (p := ⟨lb, n * 3, none⟩) hlb).trans x0
        have y1 := (HBR.out.cell (p := ⟨lb, n * 3 + 1, none⟩) hlb).trans x1
        have y2 := (HBR.out.cell (p := ⟨lb, n * 3 + 2, none⟩) hlb).trans x2
        generalize ms[n] = m at ga go y0 y1 y2 hes
        obtain ⟨a, l, d⟩ := m
        simp only at ga go y0 y1 y2 hes
        unfold intV at y0 y1 y2
        generalize endOf ms n = en0 at ga ⊢
        have HES := Lib.hid hes
        have GO := Lib.hid go
        have g1 : ¬ (a : Int) < (en0 : Int) := by omega
        have g2 : ¬ (l : Int) < 3 := by have := go.l3; omega
        have g3 : ¬ (258 : Int) < (l : Int) := by have := go.l258; omega
        have g4 : ¬ (d : Int) < 1 := by have := go.d1; omega
        have g5 : ¬ reach < (d : Int) := by have := go.dr; omega
        have g6 : ¬ (32768 : Int) < (d : Int) := by have := go.d32; omega
        have g7 : ¬ (a : Int) < (d : Int) := by have := go.da; omega
        have g8 : ¬ (bs.length : Int) - (a : Int) < (l : Int) := by have := go.al; omega
        have g9 : IntKind.i64.wrap ((bs.length : Int) - (a : Int)) = (bs.length : Int) - (a : Int) := IntWalk.i64_in _ (by have := go.al; omega)
        have g10 : l ≤ 258 := go.l258
        have g11 : a + l ≤ 20000 := by have := go.al; omega
        subst hla
        clear ga go hce hes x0 x1 x2 hcs hG
        go_wp2_with fail
        have hbs : ∃ k o, va = some ⟨k, o, none⟩ ∧ ∀ j (hj : j < bs.length), wr.cell? ⟨k, o + j, none⟩ = some (byteV (bs[j]'hj)) := by
          rcases HV.out with ⟨_, _, e1, e2⟩ | ⟨k, o, c, e1, hc, hk, hcs⟩
          · have h1 := GO.out.al
            have h2 := GO.out.l3
            rw [e2] at h1
            simp at h1
            omega
          · cases e1
            refine ⟨k, o, rfl, fun j hj => ?_⟩
            exact (HBR.out.cell (p := ⟨k, o + j, none⟩) (show k < w1.heap.size by have := HB.out.size; omega)).trans ((HB.out.cell (p := ⟨k, o + j, none⟩) hk).trans (hcs j hj))
        obtain ⟨k, o, rfl, hbc⟩ := hbs
        have hkr : k < wr.heap.size := World.block_lt_of_cell? wr _ (hbc a (by have := GO.out.al; have := GO.out.l3; omega))
        obtain ⟨w2, hw2⟩ : ∃ w2, wr.alloc (.cells #[.int .i64 a, .int .i64 l, .int .i64 d] 27) = w2 := ⟨_, rfl⟩
        have m0 : w2.cell? ⟨wr.heap.size, 0, none⟩ = some (.int .i64 a) := by rw [← hw2]; simp [go_sem]
        have m1 : w2.cell? ⟨wr.heap.size, 1, none⟩ = some (.int .i64 l) := by rw [← hw2]; simp [go_sem]
        have m2 : w2.cell? ⟨wr.heap.size, 2, none⟩ = some (.int .i64 d) := by rw [← hw2]; simp [go_sem]
        have hbc2 : ∀ j (hj : j < bs.length), w2.cell? ⟨k, o + j, none⟩ = some (byteV (bs[j]'hj)) := fun j hj => by rw [← hw2]; exact Go.Lib.cell?_alloc_some _ (hbc j hj)
        have HBC := Lib.hid hbc2
        have HM := Lib.hid (And.intro m0 (And.intro m1 m2))
        have HB2 : Hid (Below w1.heap.size w1 w2) := Lib.hid (by rw [← hw2]; exact HBR.out.alloc HBR.out.size _)
        rw [hw2]
        obtain ⟨mb, hmb⟩ : ∃ mb, mb = wr.heap.size := ⟨_, rfl⟩
        rw [← hmb] at HM ⊢
        clear hw2 m0 m1 m2 hbc2 hbc hkr hlb y0 y1 y2 g1 g2 g3 g4 g5 g6 g7 g8 g9 hmb HBR
        clear wr
        go_loopw [9] (fun b wr => ∃ t q : Nat, t ≤ l ∧ b = .int .i64 t ∧ Hid (wr = w2.drewN q)) (fun b _ => l - (RowKit.intOf b).toNat)
        case atStart => exact ⟨0, 0, Nat.zero_le _, rfl, Lib.hid rfl⟩
        case round =>
          obtain ⟨t, q, ht, rfl, HQ⟩ := hrel
          obtain ⟨m0, m1, m2⟩ := HM.out
          have n0 : wr.cell? ⟨mb, 0, none⟩ = some (.int .i64 a) := by rw [HQ.out]; exact m0
          have n1 : wr.cell? ⟨mb, 1, none⟩ = some (.int .i64 l) := by rw [HQ.out]; exact m1
          have n2 : wr.cell? ⟨mb, 2, none⟩ = some (.int .i64 d) := by rw [HQ.out]; exact m2
          clear m0 m1 m2
          by_cases htl : t < l
          · have s3 : (t : Int) < (l : Int) := by omega
            have hda : d ≤ a := GO.out.da
            have hal : a + l ≤ bs.length := GO.out.al
            have b1 := HBC.out (a + t) (by omega)
            have b2 := HBC.out (a + t - d) (by omega)
            have heq : bs[a + t]'(by omega) = bs[a + t - d]'(by omega) := by
              have := GO.out.eq t htl
              rw [List.getElem?_eq_getElem (by omega), List.getElem?_eq_getElem (by omega)] at this
              exact Option.some.inj this
            rw [← heq] at b2
            generalize (bs[a + t]'(by omega)) = x at b1 b2
            unfold byteV at b1 b2
            have c1 : wr.cell? ⟨k, o + (a + t), none⟩ = some (.int .u8 x.toNat) := by rw [HQ.out]; exact b1
            have c2 : wr.cell? ⟨k, o + (a + t - d), none⟩ = some (.int .u8 x.toNat) := by rw [HQ.out]; exact b2
            have w1' : IntKind.i64.wrap ((a : Int) + (t : Int)) = (a : Int) + (t : Int) := IntWalk.i64_in _ (by omega)
            have w2' : IntKind.i64.wrap ((a : Int) + (t : Int) - (d : Int)) = (a : Int) + (t : Int) - (d : Int) := IntWalk.i64_in _ (by omega)
            have p1 : (0 : Int) ≤ (a : Int) + (t : Int) := by omega
            have p2 : (0 : Int) ≤ (a : Int) + (t : Int) - (d : Int) := by omega
            have q1 : (a : Int) + (t : Int) < (bs.length : Int) := by omega
            have q2 : (a : Int) + (t : Int) - (d : Int) < (bs.length : Int) := by omega
            have t1 : ((a : Int) + (t : Int)).toNat = a + t := by omega
            have t2 : ((a : Int) + (t : Int) - (d : Int)).toNat = a + t - d := by omega
            clear b1 b2 heq
            go_wp2_with fail
            go_quiet (fail)
            clear w1' w2' t1 t2
            go_wp2
            go_roundw
            case measure => simp [RowKit.intOf]; omega
            case rel => exact ⟨t + 1, q + nq, by omega, by go_num, Lib.hid (by rw [HQ.out, drewN_drewN])⟩
          · have s3 : ¬ (t : Int) < (l : Int) := by omega
            have HBZ : Hid (Below w1.heap.size w1 wr) := Lib.hid (by rw [HQ.out]; exact HB2.out.trans ((Turn.drewN w2 q []).below HB2.out.size (fun b hb => by cases hb)))
            go_wp2_with fail
            go_roundw
            case measure => simp [RowKit.intOf]; omega
            case rel => exact ⟨n + 1, by omega, by go_num, by rw [HES.out]; go_num, HBZ⟩
      · have s2 : ¬ (n : Int) < (ms.length : Int) := by omega
        have HBT : Hid (Below w.heap.size w wr) := Lib.hid (HB.out.trans (HBR.out.mono HB.out.size))
        by_cases hp : 0 < reach
        · go_wp2_with fail
          refine (CA.out _).mono ?_
          rintro e w3 ⟨rfl, hb⟩
          go_wp2_with fail
          go_ret
          exact ⟨rfl, HBT.out.trans (hb.mono HBT.out.size)⟩
        · have hm0 : ms = [] := HT.out.2.1 (by omega)
          subst hm0
          have s3 : reach ≤ 0 := by omega
          go_wp2_with fail
          refine (CA.out _).mono ?_
          rintro e w3 ⟨rfl, hb⟩
          go_wp2_with fail
          go_ret
          exact ⟨rfl, HBT.out.trans (hb.mono HBT.out.size)⟩
end Go.Proofs.Ytiadnngfccbdmaa.Df
