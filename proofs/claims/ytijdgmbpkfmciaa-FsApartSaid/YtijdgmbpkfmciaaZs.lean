/- The file system: FsApart's 'run', any calls on a file system. -/
import Derived.Test.YtijdgmbpkfmciaaZq
import Derived.Test.YtijdgmbpkfmciaaOps
namespace Go.Proofs.Ytijdgmbpkfmciaa.Fs
open Go.RowKit Go.Maps Go.ChangeMaps Go.WideMaps Go.Joins Go.Sort

theorem Next.trans {P n m : Nat} {w0 w w1 w2 : World} {g g1 g2 : Gh} {s1 s2 : St} (h1 : Next P n w0 w w1 g g1 s1) (h2 : Next P m w0 w1 w2 g1 g2 s2) : Next P m w0 w w2 g g2 s2 :=
  ⟨h2.sys, h1.turn.trans h2.turn h1.sub, fun b hb => by
    rcases h2.sub b hb with e | e
    · exact h1.sub b e
    · exact .inr (Nat.le_trans h1.turn.size e), fun f hf => h2.ids f (h1.ids f hf)⟩
theorem Next.refl {P n : Nat} {w0 w : World} {g : Gh} {s : St} (h : Sys P n w0 w g s) : Next P n w0 w w g g s := ⟨h, Turn.refl _ _, fun _ hb => .inl hb, fun _ hf => hf⟩
theorem Next.below {P n : Nat} {w0 w w1 w2 : World} {g g1 : Gh} {s1 : St} (h : Next P n w0 w w1 g g1 s1) (hb : Below w1.heap.size w1 w2) : Next P n w0 w w2 g g1 s1 :=
  ⟨h.sys.below hb, h.turn.trans (Turn.of_below hb []) (fun b hb => by cases hb), h.sub, h.ids⟩
theorem Next.mono {P n m : Nat} {w0 w w1 : World} {g g1 : Gh} {s1 : St} (h : Next P n w0 w w1 g g1 s1) (hn : n ≤ m) : Next P m w0 w w1 g g1 s1 := ⟨h.sys.mono hn, h.turn, h.sub, h.ids⟩

set_option maxHeartbeats 4000000 in
set_option maxRecDepth 100000 in
theorem run_any (P N : Nat) (w0 w : World) (g : Gh) (s0 : St) (h : Sys P N w0 w g s0) (hN : N ≤ 900000) (hok : Okn s0) (ov : Value) (ops : List OpV) (ho : OpsAt w0 ov ops) (_ : ops.length ≤ 9223372036854775807) :
    Calls Try.prog 24 #[.pointer (some ⟨P, 0, none⟩), ov] w fun e w' => e = .returned (.tuple #[]) ∧ ∃ g' s', Next P (N + 25) w0 w w' g g' s' ∧ Okn s' := by
  obtain ⟨oa, ol, oc, hov, hol2⟩ : ∃ oa ol oc, ov = .slice oa ol oc ∧ ol = ops.length := by
    rcases ho with ⟨h1, a, c, h2⟩ | ⟨b, off, c, h1, _⟩
    · exact ⟨a, 0, c, h2, by rw [h1]; rfl⟩
    · exact ⟨_, _, c, h1, rfl⟩
  subst hol2
  subst hov
  have HOP := Lib.hid ho
  have HS0 := Lib.hid (Next.refl h)
  have HK0 := Lib.hid hok
  clear ho h hok
  go_enter Try.func24, Try.ntmps24
  go_wp2_with fail
  go_loopw [4] (fun i wr => ∃ (j : Nat) (gk : Gh) (s : St), j ≤ ops.length ∧ j ≤ 25 ∧ i = .int .i64 j ∧ Hid (Next P (N + j) w0 w wr g gk s) ∧ Hid (Okn s)) (fun i _ => 25 - (RowKit.intOf i).toNat)
  case atStart => exact ⟨0, g, s0, Nat.zero_le _, Nat.zero_le _, rfl, HS0, HK0⟩
  case round =>
    obtain ⟨j, gk, s, hj, hj30, rfl, HS, HK⟩ := hrel
    by_cases hjl : j < ops.length ∧ j < 25
    · obtain ⟨hj1, hj2⟩ := hjl
      have s1 : (j : Int) < (ops.length : Int) := by omega
      have s2 : (j : Int) < 25 := by omega
      rcases HOP.out with ⟨e, _⟩ | ⟨ob, off, c, e, hlc, hob, hat⟩
      · rw [e] at hj1; exact absurd hj1 (by simp)
      simp only [Value.slice.injEq] at e
      obtain ⟨rfl, -, -⟩ := e
      obtain ⟨hra0, hoa⟩ := hat j hj1
      have HOA := Lib.hid hoa
      generalize (ops[j]'hj1) = o at hra0 HOA
      obtain ⟨kind, n, a, b, odv, odata, okv, okeep⟩ := o
      have hra : wr.rangeAt ob (off + j * 6) _ := fun q u hq => (HS.out.sys.bel.cell (p := ⟨ob, off + j * 6 + q, none⟩) hob).trans (hra0 q u hq)
      have c0 : wr.cell? ⟨ob, off + j * 6, none⟩ = some (.int .i64 kind) := hra 0 _ rfl
      have c1 : wr.cell? ⟨ob, off + j * 6 + 1, none⟩ = some (.int .i64 n) := hra 1 _ rfl
      have c2 : wr.cell? ⟨ob, off + j * 6 + 2, none⟩ = some (.string a) := hra 2 _ rfl
      have c3 : wr.cell? ⟨ob, off + j * 6 + 3, none⟩ = some (.string b) := hra 3 _ rfl
      have c4 : wr.cell? ⟨ob, off + j * 6 + 4, none⟩ = some odv := hra 4 _ rfl
      have c5 : wr.cell? ⟨ob, off + j * 6 + 5, none⟩ = some okv := hra 5 _ rfl
      obtain ⟨oda, odc, e1⟩ := HOA.out.data.slice
      rw [List.length_map] at e1
      obtain ⟨oka, okc, e2⟩ := HOA.out.keep.slice
      rw [List.length_map] at e2
      simp only at e1 e2
      subst e1
      subst e2
      have hBB : Below w0.heap.size w0 (wr.alloc (.cells #[.int .i64 kind, .int .i64 n, .string a, .string b, .slice oda odata.length odc, .slice oka okeep.length okc] 39)) := HS.out.sys.bel.alloc (HS.out.sys.bel.size) _
      have HNA := Lib.hid (HS.out.below ((Below.refl wr.heap.size wr).alloc (Nat.le_refl _) (.cells #[.int .i64 kind, .int .i64 n, .string a, .string b, .slice oda odata.length odc, .slice oka okeep.length okc] 39)))
      have HSA := Lib.hid HNA.out.sys
      have HOW := Lib.hid (HOA.out.below hBB)
      have fD : odata ≠ [] → ∀ q ∈ blkOf (.slice oda odata.length odc), Free (wr.alloc (.cells #[.int .i64 kind, .int .i64 n, .string a, .string b, .slice oda odata.length odc, .slice oka okeep.length okc] 39)) gk q := fun hx q hq => HSA.out.free_old (HOA.out.data.lt (fun e => hx (List.map_eq_nil_iff.1 e)) q hq)
      have fK : okeep ≠ [] → ∀ q ∈ blkOf (.slice oka okeep.length okc), Free (wr.alloc (.cells #[.int .i64 kind, .int .i64 n, .string a, .string b, .slice oda odata.length odc, .slice oka okeep.length okc] 39)) gk q := fun hx q hq => HSA.out.free_old (HOA.out.keep.lt (fun e => hx (List.map_eq_nil_iff.1 e)) q hq)
      have FD := Lib.hid fD
      have FK := Lib.hid fK
      have hodl := HOA.out.dlen
      have hokl := HOA.out.klen
      have hasz := HOA.out.asz
      have hbsz := HOA.out.bsz
      simp only at hodl hokl hasz hbsz
      clear hra hra0 hoa hat hBB fD fK
      by_cases hk0 : kind = 0
      · subst hk0
        have C := Lib.hid (sys_create HSA.out (by omega) a hasz)
        go_wp2_with fail
        refine C.out.mono ?_
        rintro e w' ⟨rfl, f, g', hf, -, HN⟩
        have HN' := Lib.hid (HNA.out.trans HN)
        clear HN hf C
        go_wp2
        go_roundw
        case measure => simp [RowKit.intOf]; omega
        case rel => exact ⟨j + 1, g', _, by omega, by omega, by go_num, Lib.hid (HN'.out.mono (by omega)), Lib.hid (okn_create HK.out a _)⟩
      by_cases hk1 : kind = 1
      · subst hk1
        have C := Lib.hid (sys_append HSA.out (by omega) a hasz (.slice oda odata.length odc) odata hodl HOW.out.data FD.out)
        go_wp2_with fail
        refine C.out.mono ?_
        rintro e w' ⟨rfl, g', HN⟩
        have HN' := Lib.hid (HNA.out.trans HN)
        clear HN C
        go_wp2
        go_roundw
        case measure => simp [RowKit.intOf]; omega
        case rel => exact ⟨j + 1, g', _, by omega, by omega, by go_num, Lib.hid (HN'.out.mono (by omega)), Lib.hid (okn_append HK.out a _)⟩
      by_cases hk3 : kind = 3
      · subst hk3
        have C := Lib.hid (sys_sync HSA.out a hasz)
        go_wp2_with fail
        refine C.out.mono ?_
        rintro e w' ⟨rfl, g', HN⟩
        have HN' := Lib.hid (HNA.out.trans HN)
        clear HN C
        go_wp2
        go_roundw
        case measure => simp [RowKit.intOf]; omega
        case rel => exact ⟨j + 1, g', _, by omega, by omega, by go_num, Lib.hid (HN'.out.mono (by omega)), Lib.hid (okn_sync HK.out a)⟩
      by_cases hk4 : kind = 4
      · subst hk4
        have C := Lib.hid (sys_rename HSA.out (by omega) a b hasz hbsz)
        go_wp2_with fail
        refine C.out.mono ?_
        rintro e w' ⟨rfl, g', HN⟩
        have HN' := Lib.hid (HNA.out.trans HN)
        clear HN C
        go_wp2
        go_roundw
        case measure => simp [RowKit.intOf]; omega
        case rel => exact ⟨j + 1, g', _, by omega, by omega, by go_num, Lib.hid (HN'.out.mono (by omega)), Lib.hid (okn_rename HK.out a b)⟩
      by_cases hk5 : kind = 5
      · subst hk5
        have C := Lib.hid (sys_remove HSA.out (by omega) a hasz)
        go_wp2_with fail
        refine C.out.mono ?_
        rintro e w' ⟨rfl, g', HN⟩
        have HN' := Lib.hid (HNA.out.trans HN)
        clear HN C
        go_wp2
        go_roundw
        case measure => simp [RowKit.intOf]; omega
        case rel => exact ⟨j + 1, g', _, by omega, by omega, by go_num, Lib.hid (HN'.out.mono (by omega)), Lib.hid (okn_remove HK.out a)⟩
      by_cases hk6 : kind = 6
      · subst hk6
        have C := Lib.hid (sys_syncNames HSA.out)
        go_wp2_with fail
        refine C.out.mono ?_
        rintro e w' ⟨rfl, g', HN⟩
        have HN' := Lib.hid (HNA.out.trans HN)
        clear HN C
        go_wp2
        go_roundw
        case measure => simp [RowKit.intOf]; omega
        case rel => exact ⟨j + 1, g', _, by omega, by omega, by go_num, Lib.hid (HN'.out.mono (by omega)), Lib.hid (okn_syncNames HK.out HSA.out.inv)⟩
      by_cases hk7 : kind = 7
      · subst hk7
        have C := Lib.hid (sys_crash HSA.out (by omega) n (.slice oka okeep.length okc) okeep HOW.out.keep FK.out hokl)
        go_wp2_with fail
        refine C.out.mono ?_
        rintro e w' ⟨rfl, g', HN⟩
        have HN' := Lib.hid (HNA.out.trans HN)
        clear HN C
        go_wp2
        go_roundw
        case measure => simp [RowKit.intOf]; omega
        case rel => exact ⟨j + 1, g', _, by omega, by omega, by go_num, Lib.hid (HN'.out.mono (by omega)), Lib.hid (okn_crash HK.out _ _)⟩
      go_wp2
      go_roundw
      case measure => simp [RowKit.intOf]; omega
      case rel => exact ⟨j + 1, gk, s, by omega, by omega, by go_num, Lib.hid (HNA.out.mono (by omega)), HK⟩
    · have s1 : ¬ ((j : Int) < (ops.length : Int) ∧ (j : Int) < 25) := by omega
      have HSE := Lib.hid (HS.out.mono (m := N + 25) (by omega))
      by_cases hjl2 : j < ops.length
      · have s2 : (j : Int) < (ops.length : Int) := by omega
        have s3 : ¬ (j : Int) < 25 := by omega
        clear s1 hjl
        go_wp2_with fail
        refine bodyPost_end (v := .tuple #[]) (by simp [results, Try.results24]) rfl ?_
        exact ⟨rfl, gk, s, HSE.out, HK.out⟩
      · have s2 : ¬ (j : Int) < (ops.length : Int) := by omega
        clear s1 hjl
        go_wp2_with fail
        refine bodyPost_end (v := .tuple #[]) (by simp [results, Try.results24]) rfl ?_
        exact ⟨rfl, gk, s, HSE.out, HK.out⟩
end Go.Proofs.Ytijdgmbpkfmciaa.Fs
