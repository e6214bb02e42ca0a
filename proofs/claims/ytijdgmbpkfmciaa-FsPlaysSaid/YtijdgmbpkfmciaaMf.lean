/- FsPlays walked: it answers true, whatever the script. -/
import Derived.Test.YtijdgmbpkfmciaaMe
import Derived.Test.YtijdgmbpkfmciaaZu
import Derived.Test.YtijdgmbpkfmciaaOps
import Derived.SizedLaws
/- FsPlays: Same walked. -/
namespace Go.Proofs.Ytijdgmbpkfmciaa.Fs
open Go.RowKit Go.Maps Go.ChangeMaps Go.WideMaps Go.Joins Go.Sort Go.WideShapes

theorem Duo.below {P n : Nat} {w0 W W' : World} {g : Gh} {s : St} {r : RG} {R : RS} {T : Nat → Option Nat} (h : Duo P n w0 W g s r R T) (hb : Below W.heap.size W W') : Duo P n w0 W' g s r R T := h.turn (Turn.of_below hb []) (fun b hb => by cases hb)
theorem rlisted_small {P n : Nat} {w0 w : World} {g : Gh} {s : St} {r : RG} {R : RS} {T : Nat → Option Nat} (h : Duo P n w0 w g s r R T) (p : ByteArray) : ∀ x ∈ rlisted R p, x.length ≤ 9223372036854775807 := fun x hx => by
  obtain ⟨y, hy, rfl⟩ := List.mem_map.1 (List.mem_filter.1 hx).1
  have := h.names y hy
  rw [← size_list]; exact this
set_option maxHeartbeats 4000000 in
set_option maxRecDepth 100000 in
theorem same_any (P n : Nat) (w0 w : World) (g : Gh) (s : St) (r : RG) (R : RS) (T : Nat → Option Nat) (h : Duo P n w0 w g s r R T) (hn : n ≤ 99000) :
    Calls Try.prog 31 #[.pointer (some ⟨P, 0, none⟩), .pointer (some ⟨r.p, 0, none⟩)] w fun e w' => e = .returned (.bool true) ∧ Below w.heap.size w w' := by
  have HD := Lib.hid h
  have hse : rlisted R noName = listed s noName := sim_listed h.sim (ck_owns h.sys.rep.nm) noName
  have hsm := rlisted_small h noName
  have C := Lib.hid (rlist_any r R noName w h.rep (by have := h.rb.now; omega) (by decide) h.names)
  have hll : (listed s noName).length ≤ 1000000 := by
    rw [← hse]
    have h1 : (rlisted R noName).length ≤ R.now.length := by unfold rlisted; exact Nat.le_trans (List.length_filter_le _ _) (by simp)
    have := h.rb.now; omega
  rw [hse] at hsm
  rw [hse] at C
  obtain ⟨L, hL⟩ : ∃ L, L = listed s noName := ⟨_, rfl⟩
  rw [← hL] at C hsm hll
  have HL := Lib.hid hL
  clear h hL hse
  go_enter Try.func31, Try.ntmps31
  go_wp2_with fail
  go_at_call 30
  refine C.out.mono ?_
  rintro e w1 ⟨lv, rfl, hown, hbl⟩
  obtain ⟨la, lc, rfl⟩ := owned_slice hown
  have HOWN := Lib.hid (owned_zero hown)
  have HDW : Hid (∀ W, Below w1.heap.size w1 W → Duo P n w0 W g s r R T) := Lib.hid fun W hb => HD.out.below (hbl.trans (hb.mono hbl.size))
  have HRW : Hid (∀ W, Below w1.heap.size w1 W → W.ownsRow 0 9 1 (.slice la L.length lc) L.length (L.map encStr)) := Lib.hid fun W hb => owned_frame HOWN.out fun b hm => hb.block b (owned_lt HOWN.out b hm)
  have HBL := Lib.hid hbl
  clear C hown hbl
  have CL : Hid (∀ W, Below w1.heap.size w1 W → Calls Try.prog 13 #[.pointer (some ⟨P, 0, none⟩), .string noName] W fun e w' => ∃ a c, e = .returned (.slice a L.length c) ∧ Hid (Row w' 9 (.slice a L.length c) (L.map encStr)) ∧ Below w1.heap.size w1 w') := Lib.hid fun W hb => (sys_list (HDW.out W hb).sys (by omega) noName).mono fun e w' ⟨v, h1, h2, _, h4⟩ => by
    rw [← HL.out] at h2
    obtain ⟨va, vc, hv⟩ := row_slice h2
    rw [List.length_map] at hv
    subst hv
    exact ⟨va, vc, h1, Lib.hid h2, hb.trans (h4.mono hb.size)⟩
  have CT : Hid (∀ W v, Below w1.heap.size w1 W → Hid (Row W 9 v (L.map encStr)) → Calls Try.prog 26 #[v, .slice la L.length lc] W fun e w' => e = .returned (.bool true) ∧ Below w1.heap.size w1 w') := Lib.hid fun W v hb hr => (texts_any v (.slice la L.length lc) L L W (news_row hr.out) (news_owned (HRW.out W hb)) (by omega)).mono fun e w' ⟨h1, h2⟩ => ⟨by rw [h1]; simp, hb.trans (h2.mono hb.size)⟩
  have CU : Hid (∀ W, Below w1.heap.size w1 W → Calls Try.prog 16 #[.pointer (some ⟨P, 0, none⟩)] W fun e w' => e = .returned (.int .i64 (used s : Nat)) ∧ Below w1.heap.size w1 w') := Lib.hid fun W hb => (sys_used (HDW.out W hb).sys (by omega)).mono fun e w' ⟨h1, h2⟩ => ⟨h1, hb.trans (h2.mono hb.size)⟩
  have CV : Hid (∀ W, Below w1.heap.size w1 W → Calls Try.prog 51 #[.pointer (some ⟨r.p, 0, none⟩)] W fun e w' => e = .returned (.int .i64 (used s : Nat)) ∧ Below w1.heap.size w1 w') := Lib.hid fun W hb => (rused_any r R W (HDW.out W hb).rep (by have := HD.out.rb.now; omega) HD.out.rb.ix (by have := HD.out.fl; omega) (fun y hy => (HD.out.fs y hy).2)).mono fun e w' ⟨h1, m, h2⟩ => ⟨by rw [h1, sim_used HD.out.sim (ck_owns HD.out.sys.rep.nm) (flat_owns HD.out.sys.rep.nm)], hb.trans (by subst h2; exact ⟨rfl, rfl, rfl, Nat.le_refl _, fun _ _ => rfl⟩)⟩
  have CD : Hid (∀ W, Below w1.heap.size w1 W → Calls Try.prog 23 #[.pointer (some ⟨P, 0, none⟩)] W fun e w' => e = .returned (.bool s.dead) ∧ Below w1.heap.size w1 w') := Lib.hid fun W hb => (sys_dead (HDW.out W hb).sys).mono fun e w' ⟨h1, h2⟩ => ⟨h1, by subst h2; exact hb⟩
  have HS : Hid (∀ W, Below w1.heap.size w1 W → W.cell? ⟨r.p, 6, none⟩ = some (.bool s.dead)) := Lib.hid fun W hb => by
    obtain ⟨-, -, -, -, -, -, c6, -⟩ := r_cells (HDW.out W hb).rep.cells
    rw [c6, HD.out.sim.de]
  have hb0 : Below w1.heap.size w1 w1.drew := (Below.refl _ _).drew
  go_wp2_with fail
  go_region_held3 (fun w' => w'.cell? ⟨r.p, 6, none⟩ = some (.bool s.dead)) ((exact HS.out _ (by assumption))) (first
    | (go_at_call 13; refine (CL.out _ (by assumption)).mono ?_; rintro e W1 ⟨v1a, v1c, rfl, hr1, hb1⟩)
    | (go_at_call 26; refine (CT.out _ _ (by assumption) (by assumption)).mono ?_; rintro e W2 ⟨rfl, hb2⟩)
    | (go_at_call 16; refine (CU.out _ (by assumption)).mono ?_; rintro e W3 ⟨rfl, hb3⟩)
    | (go_at_call 51; refine (CV.out _ (by assumption)).mono ?_; rintro e W4 ⟨rfl, hb4⟩)
    | (go_at_call 23; refine (CD.out _ (by assumption)).mono ?_; rintro e W5 ⟨rfl, hb5⟩))
  all_goals
    have HE : Hid (Below w1.heap.size w1 _) := Lib.hid hb5
    go_wp2_with fail
    go_loopw [6] (fun i wr => ∃ j : Nat, j ≤ L.length ∧ i = .int .i64 j ∧ Hid (Below w1.heap.size w1 wr)) (fun i _ => L.length - (RowKit.intOf i).toNat)
    case atStart => exact ⟨0, Nat.zero_le _, rfl, HE⟩
    case round =>
      obtain ⟨j, hj, rfl, HI⟩ := hrel
      by_cases hjl : j < L.length
      · have s1 : (j : Int) < (L.length : Int) := by omega
        have hD := HDW.out wr HI.out
        obtain ⟨lb, rfl, hcap, hcells, hfz, hlt⟩ := owned_cell (HRW.out wr HI.out) (by omega)
        have hl := hcells j (.string ⟨(L[j]'hjl).toArray⟩) (by rw [List.getElem?_map, List.getElem?_eq_getElem hjl]; rfl)
        have hs0 := hsm (L[j]'hjl) (List.getElem_mem hjl)
        obtain ⟨nm, hnm⟩ : ∃ nm : ByteArray, nm = ⟨(L[j]'hjl).toArray⟩ := ⟨_, rfl⟩
        rw [← hnm] at hl
        have hsz : nm.size ≤ maxLen := by rw [hnm]; show (L[j]'hjl).toArray.size ≤ maxLen; unfold maxLen; simp; omega
        have C1 := Lib.hid (sys_read hD.sys nm hsz)
        have hso := sim_of HD.out.sim nm
        have hsr0 := sim_read HD.out.sim nm
        have hsr : rreadL R nm = ⟨(readL s nm).toArray⟩ := by rw [← hsr0]
        clear hnm hs0 hD hcells hsr0
        go_wp2_with fail
        go_at_call 14
        refine C1.out.mono ?_
        rintro e V1 ⟨v, rfl, hrow, hfr, hb1'⟩
        have HV1 := Lib.hid (HI.out.trans (hb1'.mono HI.out.size))
        have HN1 := Lib.hid (news_row hrow)
        have hl2 := (hb1'.cell (p := ⟨lb, j, none⟩) hlt).trans hl
        obtain ⟨xa, xc, hv⟩ := HN1.out.slice
        rw [List.length_map] at hv
        subst hv
        have C2 := Lib.hid (rread_any r R nm V1 (HDW.out V1 HV1.out).rep (by unfold maxLen at hsz; exact hsz) HD.out.rb (by omega))
        clear hrow hfr hb1' C1
        go_wp2_with fail
        go_at_call 45
        refine C2.out.mono ?_
        rintro e V2 ⟨rfl, m, hm⟩
        have HV2 : Hid (Below w1.heap.size w1 V2) := Lib.hid (by rw [hm]; exact HV1.out.trans ⟨rfl, rfl, rfl, Nat.le_refl _, fun _ _ => rfl⟩)
        have HN2 := Lib.hid (HN1.out.frame (w' := V2) fun _ b _ => by rw [hm]; rfl)
        have hcv := conv_news HN2.out
        rw [hso, hsr]
        clear hm C2
        go_wp2_with fail
        go_round
        case rel => exact ⟨j + 1, by omega, by go_num, HV2⟩
        case measure => simp [RowKit.intOf]; omega
      · have s1 : ¬ (j : Int) < (L.length : Int) := by omega
        go_wp2_with fail
        go_ret
        exact ⟨rfl, HBL.out.trans (HI.out.mono HBL.out.size)⟩
end Go.Proofs.Ytijdgmbpkfmciaa.Fs

/- FsPlays: each call's bytes are no more than a process can hold. -/
namespace Go.Proofs.Ytijdgmbpkfmciaa.Fs
open Go.ChangeShapes Go.WideShapes Go.ChangeAt Go.RowKit Go.Deep

section
variable {H : Type}
theorem weights_mem_all {P : Program} {e : TypeId} : ∀ {l : List (DataW H)} {d : DataW H}, d ∈ l → ∀ n ∈ d.weights P e, n ∈ DataW.weightsAll P e l
  | x :: l, d, hd, n, hn => by
    rw [DataW.weightsAll, List.mem_append]
    rcases List.mem_cons.1 hd with rfl | hd
    · exact .inl hn
    · exact .inr (weights_mem_all hd n hn)
variable {enc : TypeId × Value → H} {W : World} {base b0 : Nat} {held : Bool} {v : Value} {d : DataW H} {p : List MemPlace}
set_option maxRecDepth 100000 in
theorem bytes_of_trod {n : Nat} {y : DataW H × List MemPlace} {a : Option Addr} {l c : Nat} (h : DataW.trod enc Try.prog W b0 (fun _ => true) held n 27 [.slice a l c] = some y) (hw : ∀ n ∈ y.1.weights Try.prog 27, n ≤ reachBytes) : l ≤ 140737488351232 := by
  rcases open_ints Try.underlying27 Try.underlying5 (by kernel_rfl) h with ⟨hcs, _⟩ | ⟨x, l', c', zs, hcs, _, hl, hm, hz, hx, _, _⟩
  · simp only [List.cons.injEq, Value.slice.injEq] at hcs
    obtain ⟨⟨_, rfl, _⟩, _⟩ := hcs
    exact Nat.zero_le _
  · obtain ⟨rfl, rfl, rfl⟩ : a = some x ∧ l = l' ∧ c = c' := by simpa using hcs
    have := hw ((zs.take l).length + (zs.drop l).length) (by
      rw [hx]
      simp [DataW.weights, Try.underlying27, lits, show Try.prog.bytesOf 5 = 1 from by kernel_rfl])
    unfold reachBytes at this
    simp at hz this
    omega
set_option maxRecDepth 100000 in
theorem ops_sized {ts : List TypeId} {ds : List (DataW H)} (hsz : (DataW.weightsEach Try.prog ts ds).all (· ≤ reachBytes) = true) {j : Nat} (ht : ts[j]? = some 37) (hd : ds[j]? = some d)
    (_hv : Value.okWide Try.prog W .any base 37 v) (h : DataW.Trod enc Try.prog W b0 (fun _ => true) held 37 v d p) : ∃ l : List OpV, OpsAt W v l ∧ l.length ≤ 9223372036854775807 ∧ ∀ o ∈ l, o.data.length ≤ 140737488351232 := by
  obtain ⟨l, hl, hlen⟩ := ops_news _hv h
  refine ⟨l, hl, hlen, fun o ho => ?_⟩
  obtain ⟨a0, len0, cap0, rfl⟩ := okWide_slice Try.underlying37 _hv
  obtain ⟨fuel, hf⟩ := h
  obtain ⟨i, hi, rfl⟩ := List.getElem_of_mem ho
  rcases hl with ⟨rfl, _⟩ | ⟨b, off, c, he, hlc, hb, hat⟩
  · exact absurd hi (by simp)
  simp only [Value.slice.injEq] at he
  obtain ⟨rfl, rfl, rfl⟩ := he
  obtain ⟨hra, hoa⟩ := hat i hi
  have hc4 : W.cell? ⟨b, off + i * 6 + 4, none⟩ = some (l[i]'hi).dv := hra 4 _ rfl
  obtain ⟨da, dc, hdv⟩ := hoa.data.slice
  rw [List.length_map] at hdv
  obtain ⟨f0, f1, f2, f3, f4, f5, hu, t0, t1, t2, t3, t4, t5, hone⟩ := fields39
  rcases open_slice_fields Try.underlying37 hu hone (by kernel_rfl) hf with ⟨hcs, _⟩ | ⟨a, len, cap, m, D, Pl, hcs, _, hl', hm, hmm, hx, hfs⟩
  · simp [Value.cells] at hcs
  · obtain ⟨rfl, rfl, rfl⟩ : (⟨b, off, none⟩ : Addr) = a ∧ l.length = len ∧ cap0 = cap := by simpa [Value.cells] using hcs
    have him : i < m := by rw [hmm]; simp; omega
    obtain ⟨ys, n, hDi, _, hyl, hfld⟩ := hfs i him
    obtain ⟨v4, y4, c4, hy4, e4⟩ := hfld 4 f4 rfl
    rw [t4] at e4
    have hv4 : v4 = (l[i]'hi).dv := by
      rw [Go.Addr.add_mid] at c4
      have e : off + (i * 6 + 4) = off + i * 6 + 4 := by omega
      have c4' : W.cell? ⟨b, off + i * 6 + 4, none⟩ = some v4 := by rw [← e]; exact c4
      rw [hc4] at c4'
      exact (Option.some.inj c4').symm
    rw [hv4, hdv] at e4
    refine bytes_of_trod e4 fun q hq => ?_
    simp only [Prod.mk.injEq] at hx
    have h1 : q ∈ DataW.weights Try.prog 39 (D i) := by
      rw [hDi, DataW.weights, hu]
      exact DataW.weights_mem_each (j := 4) (t := 27) (d := y4.1) (by simp [t4]) (by simp [hy4]) q hq
    have h2 : q ∈ DataW.weights Try.prog 37 d := by
      rw [hx.1, DataW.weights, Try.underlying37]
      refine List.mem_cons_of_mem _ (List.mem_append.2 (.inl (weights_mem_all (List.mem_map.2 ⟨i, List.mem_range.2 hi, rfl⟩) q h1)))
    have h3 := List.all_eq_true.1 hsz _ (DataW.weights_mem_each ht hd q h2)
    simpa using h3
end
end Go.Proofs.Ytijdgmbpkfmciaa.Fs

/- FsPlays: walked. -/
namespace Go.Proofs.Ytijdgmbpkfmciaa.Fs
open Go.RowKit Go.Maps Go.ChangeMaps Go.WideMaps Go.Joins Go.Sort Go.WideShapes

theorem do_any (P n : Nat) (w0 w : World) (g : Gh) (s : St) (r : RG) (R : RS) (T : Nat → Option Nat) (h : Duo P n w0 w g s r R T) (hn : n ≤ 99000) (o : OpV) (ho : OpAt w0 o) (hds : o.data.length ≤ 140737488351232) :
    Calls Try.prog 28 #[.pointer (some ⟨P, 0, none⟩), .pointer (some ⟨r.p, 0, none⟩), .agg (opCells o).toArray] w (DoPost P n w0 w g r) := by
  by_cases k0 : o.kind = 0
  · exact do_create P n w0 w g s r R T h hn o ho k0
  by_cases k1 : o.kind = 1
  · exact do_append P n w0 w g s r R T h hn o ho k1 hds
  by_cases k2 : o.kind = 2
  · exact do_read P n w0 w g s r R T h hn o ho k2
  by_cases k3 : o.kind = 3
  · exact do_sync P n w0 w g s r R T h hn o ho k3
  by_cases k4 : o.kind = 4
  · exact do_rename P n w0 w g s r R T h hn o ho k4
  by_cases k5 : o.kind = 5
  · exact do_remove P n w0 w g s r R T h hn o ho k5
  by_cases k6 : o.kind = 6
  · exact do_syncNames P n w0 w g s r R T h hn o ho k6
  by_cases k7 : o.kind = 7
  · exact do_crash P n w0 w g s r R T h hn o ho k7
  by_cases k8 : o.kind = 8
  · exact do_fuse P n w0 w g s r R T h hn o ho k8
  exact do_none P n w0 w g s r R T h hn o ho ⟨k0, k1, k2, k3, k4, k5, k6, k7, k8⟩
theorem new_bad (q : Int) (w : World) (h : q < 0 ∨ 16777216 < q) : Calls Try.prog 9 #[.int .i64 q] w fun e w' => e = .returned (.tuple #[.pointer none, .int .i64 1]) ∧ w' = w := by
  by_cases h0 : q < 0
  · go_enter Try.func9, Try.ntmps9
    go_wp2_with fail
    go_ret2
    exact ⟨rfl, rfl⟩
  · have h3 : (16777216 : Int) < q := by omega
    go_enter Try.func9, Try.ntmps9
    go_wp2_with fail
    go_ret2
    exact ⟨rfl, rfl⟩
theorem duo_start {P : Nat} {w0 w : World} {g : Gh} {q : Int} {r : RG} (h1 : Sys P 0 w0 w g (newS q)) (h2 : RRep w r { quota := q, files := [], now := [], lasts := [], wait := [], fuse := -1, dead := false }) (ha : ∀ b ∈ rfoot r, b ∉ foot g) (hb : ∀ b ∈ rfoot r, w0.heap.size ≤ b) :
    Duo P 0 w0 w g (newS q) r { quota := q, files := [], now := [], lasts := [], wait := [], fuse := -1, dead := false } (fun _ => none) :=
  ⟨h1, h2, ha, hb, sim_empty _ _, Nat.le_refl _, fun y hy => by cases hy⟩

set_option maxHeartbeats 4000000 in
set_option maxRecDepth 100000 in
theorem plays_bad (q : Int) (ov : Value) (ops : List OpV) (w : World) (h : q < 0 ∨ 16777216 < q) (ho : OpsAt w ov ops) :
    Calls Try.prog 8 #[.int .i64 q, ov] w fun e w' => e = .returned (.bool true) ∧ Below w.heap.size w w' := by
  obtain ⟨oa, ol, oc, hov, hol2⟩ : ∃ oa ol oc, ov = .slice oa ol oc ∧ ol = ops.length := by
    rcases ho with ⟨h1, a, c, h2⟩ | ⟨b, off, c, h1, _⟩
    · exact ⟨a, 0, c, h2, by rw [h1]; rfl⟩
    · exact ⟨_, _, c, h1, rfl⟩
  subst hol2
  subst hov
  have C1 := Lib.hid (new_bad q w h)
  have C2 := Lib.hid (rnew_bad q w h)
  clear ho h
  go_enter Try.func8, Try.ntmps8
  go_wp2_with fail
  go_at_call 9
  refine C1.out.mono ?_
  rintro e w1 ⟨rfl, rfl⟩
  go_wp2_with fail
  go_at_call 27
  refine C2.out.mono ?_
  rintro e w2 ⟨rfl, rfl⟩
  go_wp2_with fail
  refine (awake_any _).mono ?_
  rintro e w3 ⟨rfl, hbl⟩
  have HBL := Lib.hid hbl
  clear hbl C1 C2
  go_wp2_with fail
  go_loopw [5, 9] (fun f i wr => f = .pointer none ∧ i = .int .i64 0 ∧ Hid (wr = w3)) (fun _ _ _ => 0)
  case atStart => exact ⟨rfl, rfl, Lib.hid rfl⟩
  case round =>
    obtain ⟨rfl, rfl, HI⟩ := hrel
    by_cases hl : (0 : Int) < (ops.length : Int)
    · go_wp2_with fail
      go_ret
      exact ⟨rfl, by rw [HI.out]; exact HBL.out⟩
    · go_wp2_with fail
      go_ret
      exact ⟨rfl, by rw [HI.out]; exact HBL.out⟩
set_option maxHeartbeats 4000000 in
set_option maxRecDepth 100000 in
theorem plays_good (q : Int) (ov : Value) (ops : List OpV) (w : World) (h0 : 0 ≤ q) (h1 : q ≤ 16777216) (ho : OpsAt w ov ops) (hlen : ops.length ≤ 9223372036854775807) (hds : ∀ o ∈ ops, o.data.length ≤ 140737488351232) :
    Calls Try.prog 8 #[.int .i64 q, ov] w fun e w' => e = .returned (.bool true) ∧ Below w.heap.size w w' := by
  obtain ⟨oa, ol, oc, hov, hol2⟩ : ∃ oa ol oc, ov = .slice oa ol oc ∧ ol = ops.length := by
    rcases ho with ⟨h1, a, c, h2⟩ | ⟨b, off, c, h1, _⟩
    · exact ⟨a, 0, c, h2, by rw [h1]; rfl⟩
    · exact ⟨_, _, c, h1, rfl⟩
  subst hol2
  subst hov
  have HOP := Lib.hid ho
  have C1 := Lib.hid (sys_new q w w h0 h1 (Below.refl _ _))
  clear ho
  go_enter Try.func8, Try.ntmps8
  go_wp2_with fail
  go_at_call 9
  refine C1.out.mono ?_
  rintro e w1 ⟨P, g, rfl, hids, hsys, hturn, hnewg⟩
  have C2 := Lib.hid (rnew_any q w1 h0 h1)
  have HS1 := Lib.hid hsys
  clear hsys hturn hnewg hids C1
  go_wp2_with fail
  go_at_call 27
  refine C2.out.mono ?_
  rintro e w2 ⟨r, rfl, hrep, hbl, hnewr⟩
  have HD2 := Lib.hid (duo_start (HS1.out.below hbl) hrep (fun b hb hm => by have := hnewr b hb; have := HS1.out.rep.lt b hm; omega) (fun b hb => by have := hnewr b hb; have := HS1.out.bel.size; omega))
  clear hrep hbl hnewr C2
  go_wp2_with fail
  refine (awake_any _).mono ?_
  rintro e w3 ⟨rfl, hbl⟩
  have HD3 := Lib.hid (HD2.out.below hbl)
  clear hbl
  go_wp2_with fail
  go_loopw [5, 7, 9] (fun f x i wr => ∃ (j P : Nat) (g : Gh) (s : St) (r : RG) (R : RS) (T : Nat → Option Nat), j ≤ ops.length ∧ j ≤ 60 ∧ f = .pointer (some ⟨P, 0, none⟩) ∧ x = .pointer (some ⟨r.p, 0, none⟩) ∧ i = .int .i64 j ∧ Hid (Duo P j w wr g s r R T)) (fun _ _ i _ => 60 - (RowKit.intOf i).toNat)
  case atStart => exact ⟨0, P, g, _, r, _, _, Nat.zero_le _, Nat.zero_le _, rfl, rfl, rfl, HD3⟩
  case round =>
    clear HD3 HD2 HS1
    obtain ⟨j, P, g, s, r, R, T, hj, hj60, rfl, rfl, rfl, HD⟩ := hrel
    by_cases hjl : j < ops.length ∧ j < 60
    · obtain ⟨hj1, hj2⟩ := hjl
      have s1 : (j : Int) < (ops.length : Int) := by omega
      have s2 : (j : Int) < 60 := by omega
      have HOPS := Lib.hid hds
      rcases HOP.out with ⟨e, _⟩ | ⟨ob, off, c, e, hlc, hob, hat⟩
      · rw [e] at hj1; exact absurd hj1 (by simp)
      simp only [Value.slice.injEq] at e
      obtain ⟨rfl, -, -⟩ := e
      obtain ⟨hra0, hoa⟩ := hat j hj1
      have HOA := Lib.hid hoa
      have hds' := hds _ (List.getElem_mem hj1)
      generalize (ops[j]'hj1) = o at hra0 HOA hds'
      obtain ⟨kind, on, a, b, odv, odata, okv, okeep⟩ := o
      have hra : wr.rangeAt ob (off + j * 6) _ := fun q u hq => (HD.out.sys.bel.cell (p := ⟨ob, off + j * 6 + q, none⟩) hob).trans (hra0 q u hq)
      have c0 : wr.cell? ⟨ob, off + j * 6, none⟩ = some (.int .i64 kind) := hra 0 _ rfl
      have c1 : wr.cell? ⟨ob, off + j * 6 + 1, none⟩ = some (.int .i64 on) := hra 1 _ rfl
      have c2 : wr.cell? ⟨ob, off + j * 6 + 2, none⟩ = some (.string a) := hra 2 _ rfl
      have c3 : wr.cell? ⟨ob, off + j * 6 + 3, none⟩ = some (.string b) := hra 3 _ rfl
      have c4 : wr.cell? ⟨ob, off + j * 6 + 4, none⟩ = some odv := hra 4 _ rfl
      have c5 : wr.cell? ⟨ob, off + j * 6 + 5, none⟩ = some okv := hra 5 _ rfl
      obtain ⟨oda, odc, e1⟩ := HOA.out.data.slice
      rw [List.length_map] at e1
      obtain ⟨oka, okc, e2⟩ := HOA.out.keep.slice
      rw [List.length_map] at e2
      simp only at e1 e2
      subst e1
      subst e2
      clear hra hra0 hoa hat
      have HWA := Lib.hid (HD.out.below ((Below.refl wr.heap.size wr).alloc (Nat.le_refl _) (.cells #[.int .i64 kind, .int .i64 on, .string a, .string b, .slice oda odata.length odc, .slice oka okeep.length okc] 39)))
      have hasz := HOA.out.asz
      simp only at hasz hds'
      have hasz : a.size ≤ 9223372036854775807 := by unfold maxLen at hasz; exact hasz
      have C := Lib.hid (do_any P j w _ g s r R T HWA.out (by omega) ⟨kind, on, a, b, .slice oda odata.length odc, odata, .slice oka okeep.length okc, okeep⟩ HOA.out hds')
      have hng : wr.heap.size ∉ foot g := fun hm => by have := HD.out.sys.rep.lt _ hm; omega
      have hnr : wr.heap.size ∉ rfoot r := fun hm => by have := HD.out.rep.lt _ hm; omega
      have HB0 := Lib.hid (bx_new wr kind on a b (.slice oda odata.length odc) (.slice oka okeep.length okc))
      go_wp2_with fail
      go_at_call 28
      refine C.out.mono ?_
      rintro e V ⟨rfl, ⟨g1, s1, r1, R1, T1, hd1, hrp⟩, hkp⟩
      have hbx := bx_of HB0.out (hkp wr.heap.size (by simp) hng hnr)
      have hltV : wr.heap.size < V.heap.size := World.block_lt_of_cell? V _ hbx.1
      have HDU := Lib.hid hd1
      have HBX := Lib.hid hbx
      clear hd1 hkp C HWA HB0 HOP hob
      by_cases hk9 : kind = 9
      · obtain rfl := hk9
        have b0 := HBX.out.1
        have CC := Lib.hid (sys_copy HDU.out.sys (by omega))
        go_wp2_with fail
        go_at_call 25
        refine CC.out.mono ?_
        rintro e V2 ⟨P2, g2, s2, Tc, rfl, hsys2, hbl2, hnew2, halike⟩
        have CR := Lib.hid (rcopy_any r1 R1 V2 (HDU.out.rep.below hbl2) (by have := HDU.out.rb.now; omega) (by have := HDU.out.lasts; omega) (by have := HDU.out.rb.wait; omega) (by have := HDU.out.fl; omega))
        rw [hrp] at CR
        obtain ⟨T2, hsim2⟩ := sim_copy HDU.out.sim HDU.out.sys.inv hsys2.inv hsys2.rep.ls.isMap halike
        have HS2 := Lib.hid hsys2
        have HBL2 := Lib.hid hbl2
        have HSM2 := Lib.hid hsim2
        clear hsys2 hbl2 hnew2 halike hsim2 CC b0
        go_wp2_with fail
        go_at_call 29
        refine CR.out.mono ?_
        rintro e V3 ⟨r3, rfl, hrep3, hbl3, hnew3⟩
        have hd3 : Duo P2 (j + 1) w V3 g2 s2 r3 R1 T2 := ⟨HS2.out.below hbl3, hrep3, fun b hb hm => by have := hnew3 b hb; have := HS2.out.rep.lt b hm; omega, fun b hb => by have := hnew3 b hb; have := HS2.out.bel.size; omega, HSM2.out, HDU.out.fl, HDU.out.fs⟩
        have HBXV : Hid (wr.heap.size < V3.heap.size ∧ V3.cell? ⟨wr.heap.size, 2, none⟩ = some (.string a)) := Lib.hid ⟨by have := HBL2.out.size; have := hbl3.size; omega, (hbl3.cell (p := ⟨wr.heap.size, 2, none⟩) (by have := HBL2.out.size; show wr.heap.size < V2.heap.size; omega)).trans ((HBL2.out.cell (p := ⟨wr.heap.size, 2, none⟩) hltV).trans HBX.out.2.2.1)⟩
        have HDU2 := Lib.hid hd3
        clear hd3 hrep3 hbl3 hnew3 CR HS2 HBL2 HSM2 HDU HBX HD hltV
        obtain ⟨L, hL⟩ : ∃ L, L = listed s2 a := ⟨_, rfl⟩
        have hLr : rlisted R1 a = L := by rw [hL]; exact sim_listed HDU2.out.sim (ck_owns HDU2.out.sys.rep.nm) a
        have hll : L.length ≤ 1000000 := by
          rw [← hLr]
          have h1 : (rlisted R1 a).length ≤ R1.now.length := by unfold rlisted; exact Nat.le_trans (List.length_filter_le _ _) (by simp)
          have := HDU2.out.rb.now; omega
        have HL := Lib.hid hL
        have HLR := Lib.hid hLr
        clear hL hLr
        have HDW : Hid (∀ W, Below V3.heap.size V3 W → Duo P2 (j + 1) w W g2 s2 r3 R1 T2) := Lib.hid fun W hb => HDU2.out.below hb
        have CL : Hid (∀ W, Below V3.heap.size V3 W → Calls Try.prog 13 #[.pointer (some ⟨P2, 0, none⟩), .string a] W fun e w' => ∃ x c, e = .returned (.slice x L.length c) ∧ Hid (News w' (.slice x L.length c) (L.map encStr)) ∧ Below V3.heap.size V3 w') := Lib.hid fun W hb => (sys_list (HDW.out W hb).sys (by omega) a).mono fun e w' ⟨v, h1, h2, _, h4⟩ => by
          rw [← HL.out] at h2
          obtain ⟨va, vc, hv⟩ := row_slice h2
          rw [List.length_map] at hv
          subst hv
          exact ⟨va, vc, h1, Lib.hid (news_row h2), hb.trans (h4.mono hb.size)⟩
        have CQ : Hid (∀ W x c, Below V3.heap.size V3 W → Hid (News W (.slice x L.length c) (L.map encStr)) → Calls Try.prog 30 #[.pointer (some ⟨r3.p, 0, none⟩), .string a] W fun e w' => ∃ y d, e = .returned (.slice y L.length d) ∧ Hid (News w' (.slice x L.length c) (L.map encStr)) ∧ Hid (News w' (.slice y L.length d) (L.map encStr)) ∧ Below V3.heap.size V3 w') := Lib.hid fun W x c hb hn => (rlist_any r3 R1 a W (HDW.out W hb).rep (by have := HDU2.out.rb.now; omega) hasz HDU2.out.names).mono fun e w' ⟨v, h1, h2, h3⟩ => by
          rw [HLR.out] at h2
          obtain ⟨va, vc, hv⟩ := owned_slice h2
          subst hv
          exact ⟨va, vc, h1, Lib.hid (hn.out.frame fun hx b hm => h3.block b (hn.out.lt hx b hm)), Lib.hid (news_owned h2), hb.trans (h3.mono hb.size)⟩
        have CT : Hid (∀ W u v, Below V3.heap.size V3 W → Hid (News W u (L.map encStr)) → Hid (News W v (L.map encStr)) → Calls Try.prog 26 #[u, v] W fun e w' => e = .returned (.bool true) ∧ Below V3.heap.size V3 w') := Lib.hid fun W u v hb hu hv => (texts_any u v L L W hu.out hv.out (by omega)).mono fun e w' ⟨h1, h2⟩ => ⟨by rw [h1]; simp, hb.trans (h2.mono hb.size)⟩
        have CS : Hid (∀ W, Below V3.heap.size V3 W → Calls Try.prog 31 #[.pointer (some ⟨P2, 0, none⟩), .pointer (some ⟨r3.p, 0, none⟩)] W fun e w' => e = .returned (.bool true) ∧ Below V3.heap.size V3 w') := Lib.hid fun W hb => (same_any P2 (j + 1) w W g2 s2 r3 R1 T2 (HDW.out W hb) (by omega)).mono fun e w' ⟨h1, h2⟩ => ⟨h1, hb.trans (h2.mono hb.size)⟩
        have HS : Hid (∀ W, Below V3.heap.size V3 W → W.cell? ⟨wr.heap.size, 2, none⟩ = some (.string a)) := Lib.hid fun W hb => (hb.cell (p := ⟨wr.heap.size, 2, none⟩) HBXV.out.1).trans HBXV.out.2
        have hb0 : Below V3.heap.size V3 V3.drew := (Below.refl _ _).drew
        go_wp2_with fail
        go_region_held3 (fun w' => w'.cell? ⟨wr.heap.size, 2, none⟩ = some (.string a)) ((exact HS.out _ (by assumption))) (first
          | (go_at_call 13; refine (CL.out _ (by assumption)).mono ?_; rintro e W1 ⟨x1, d1, rfl, hn1, hb1⟩)
          | (go_at_call 30; refine (CQ.out _ _ _ (by assumption) (by assumption)).mono ?_; rintro e W2 ⟨x2, d2, rfl, hn2, hn3, hb2⟩)
          | (go_at_call 26; refine (CT.out _ _ _ (by assumption) (by assumption) (by assumption)).mono ?_; rintro e W3 ⟨rfl, hb3⟩)
          | (go_at_call 31; refine (CS.out _ (by assumption)).mono ?_; rintro e W4 ⟨rfl, hb4⟩))
        all_goals
          have HE := Lib.hid (HDW.out _ hb4)
          go_wp2_with fail
          go_roundw
          case measure => simp [RowKit.intOf]; omega
          case rel => exact ⟨j + 1, P2, g2, s2, r3, R1, T2, by omega, by omega, rfl, rfl, by go_num, HE⟩
      · have b0 := HBX.out.1
        have HBXV : Hid (wr.heap.size < V.heap.size ∧ V.cell? ⟨wr.heap.size, 2, none⟩ = some (.string a)) := Lib.hid ⟨hltV, HBX.out.2.2.1⟩
        clear HD HBX
        obtain ⟨L, hL⟩ : ∃ L, L = listed s1 a := ⟨_, rfl⟩
        have hLr : rlisted R1 a = L := by rw [hL]; exact sim_listed HDU.out.sim (ck_owns HDU.out.sys.rep.nm) a
        have hll : L.length ≤ 1000000 := by
          rw [← hLr]
          have h1 : (rlisted R1 a).length ≤ R1.now.length := by unfold rlisted; exact Nat.le_trans (List.length_filter_le _ _) (by simp)
          have := HDU.out.rb.now; omega
        have HL := Lib.hid hL
        have HLR := Lib.hid hLr
        clear hL hLr
        have HDW : Hid (∀ W, Below V.heap.size V W → Duo P (j + 1) w W g1 s1 r1 R1 T1) := Lib.hid fun W hb => HDU.out.below hb
        have CL : Hid (∀ W, Below V.heap.size V W → Calls Try.prog 13 #[.pointer (some ⟨P, 0, none⟩), .string a] W fun e w' => ∃ x c, e = .returned (.slice x L.length c) ∧ Hid (News w' (.slice x L.length c) (L.map encStr)) ∧ Below V.heap.size V w') := Lib.hid fun W hb => (sys_list (HDW.out W hb).sys (by omega) a).mono fun e w' ⟨v, h1, h2, _, h4⟩ => by
          rw [← HL.out] at h2
          obtain ⟨va, vc, hv⟩ := row_slice h2
          rw [List.length_map] at hv
          subst hv
          exact ⟨va, vc, h1, Lib.hid (news_row h2), hb.trans (h4.mono hb.size)⟩
        have CQ : Hid (∀ W x c, Below V.heap.size V W → Hid (News W (.slice x L.length c) (L.map encStr)) → Calls Try.prog 30 #[.pointer (some ⟨r1.p, 0, none⟩), .string a] W fun e w' => ∃ y d, e = .returned (.slice y L.length d) ∧ Hid (News w' (.slice x L.length c) (L.map encStr)) ∧ Hid (News w' (.slice y L.length d) (L.map encStr)) ∧ Below V.heap.size V w') := Lib.hid fun W x c hb hn => (rlist_any r1 R1 a W (HDW.out W hb).rep (by have := HDU.out.rb.now; omega) hasz HDU.out.names).mono fun e w' ⟨v, h1, h2, h3⟩ => by
          rw [HLR.out] at h2
          obtain ⟨va, vc, hv⟩ := owned_slice h2
          subst hv
          exact ⟨va, vc, h1, Lib.hid (hn.out.frame fun hx b hm => h3.block b (hn.out.lt hx b hm)), Lib.hid (news_owned h2), hb.trans (h3.mono hb.size)⟩
        have CT : Hid (∀ W u v, Below V.heap.size V W → Hid (News W u (L.map encStr)) → Hid (News W v (L.map encStr)) → Calls Try.prog 26 #[u, v] W fun e w' => e = .returned (.bool true) ∧ Below V.heap.size V w') := Lib.hid fun W u v hb hu hv => (texts_any u v L L W hu.out hv.out (by omega)).mono fun e w' ⟨h1, h2⟩ => ⟨by rw [h1]; simp, hb.trans (h2.mono hb.size)⟩
        have CS : Hid (∀ W, Below V.heap.size V W → Calls Try.prog 31 #[.pointer (some ⟨P, 0, none⟩), .pointer (some ⟨r1.p, 0, none⟩)] W fun e w' => e = .returned (.bool true) ∧ Below V.heap.size V w') := Lib.hid fun W hb => (same_any P (j + 1) w W g1 s1 r1 R1 T1 (HDW.out W hb) (by omega)).mono fun e w' ⟨h1, h2⟩ => ⟨h1, hb.trans (h2.mono hb.size)⟩
        have HS : Hid (∀ W, Below V.heap.size V W → W.cell? ⟨wr.heap.size, 2, none⟩ = some (.string a)) := Lib.hid fun W hb => (hb.cell (p := ⟨wr.heap.size, 2, none⟩) HBXV.out.1).trans HBXV.out.2
        rw [hrp] at CQ CS
        have hb0 : Below V.heap.size V V.drew := (Below.refl _ _).drew
        go_wp2_with fail
        go_region_held3 (fun w' => w'.cell? ⟨wr.heap.size, 2, none⟩ = some (.string a)) ((exact HS.out _ (by assumption))) (first
          | (go_at_call 13; refine (CL.out _ (by assumption)).mono ?_; rintro e W1 ⟨x1, d1, rfl, hn1, hb1⟩)
          | (go_at_call 30; refine (CQ.out _ _ _ (by assumption) (by assumption)).mono ?_; rintro e W2 ⟨x2, d2, rfl, hn2, hn3, hb2⟩)
          | (go_at_call 26; refine (CT.out _ _ _ (by assumption) (by assumption) (by assumption)).mono ?_; rintro e W3 ⟨rfl, hb3⟩)
          | (go_at_call 31; refine (CS.out _ (by assumption)).mono ?_; rintro e W4 ⟨rfl, hb4⟩))
        all_goals
          have HE := Lib.hid (HDW.out _ hb4)
          go_wp2_with fail
          go_roundw
          case measure => simp [RowKit.intOf]; omega
          case rel => exact ⟨j + 1, P, g1, s1, r1, R1, T1, by omega, by omega, rfl, by rw [hrp], by go_num, HE⟩
    · have s1 : ¬ ((j : Int) < (ops.length : Int) ∧ (j : Int) < 60) := by omega
      by_cases hjl2 : j < ops.length
      · have s2 : (j : Int) < (ops.length : Int) := by omega
        have s3 : ¬ (j : Int) < 60 := by omega
        clear s1 hjl
        go_wp2_with fail
        go_ret
        exact ⟨rfl, HD.out.sys.bel⟩
      · have s2 : ¬ (j : Int) < (ops.length : Int) := by omega
        clear s1 hjl
        go_wp2_with fail
        go_ret
        exact ⟨rfl, HD.out.sys.bel⟩
theorem law_plays (q : Int) (ov : Value) (ops : List OpV) (w : World) (_ : -9223372036854775808 ≤ q ∧ q < 9223372036854775808) (ho : OpsAt w ov ops) (hlen : ops.length ≤ 9223372036854775807) (hds : ∀ o ∈ ops, o.data.length ≤ 140737488351232) :
    Calls Try.prog 8 #[.int .i64 q, ov] w fun e w' => e = .returned (.bool true) ∧ Below w.heap.size w w' := by
  by_cases h : 0 ≤ q ∧ q ≤ 16777216
  · exact plays_good q ov ops w h.1 h.2 ho hlen hds
  · exact plays_bad q ov ops w (by omega) ho
end Go.Proofs.Ytijdgmbpkfmciaa.Fs
