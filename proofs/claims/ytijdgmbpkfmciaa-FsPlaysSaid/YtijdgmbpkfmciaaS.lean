/- The file system: Crash walked (begun). -/
import Derived.Test.YtijdgmbpkfmciaaR
namespace Go.Proofs.Ytijdgmbpkfmciaa.Fs
open Go.RowKit Go.Maps Go.ChangeMaps Go.WideMaps Go.Joins Go.Sort

theorem chg_cell {w : World} {ca : Option Addr} {cc : Nat} {cs : List Chg} (h : w.ownsRow 0 73 1 (.slice ca cs.length cc) cs.length (cs.map chgV)) {k : Nat} (hk : k < cs.length) :
    ∃ b, ca = some ⟨b, 0, none⟩ ∧ w.cell? ⟨b, k, none⟩ = some (chgV (cs[k]'hk)) := by
  obtain ⟨h0, h⟩ := h
  rcases h with ⟨h1, h2⟩ | ⟨g, cap, cur, h1, h2, h3, h4, h5, h6, h7⟩
  · omega
  · refine ⟨g, by cases h1; rfl, ?_⟩
    have e : (cs.map chgV)[k]? = some (chgV (cs[k]'hk)) := by rw [List.getElem?_map, List.getElem?_eq_getElem hk]; rfl
    rw [← h7, List.getElem?_take] at e
    rw [World.cell?]
    simp only [h3]
    split at e
    · simpa using e
    · cases e

def intV (i : Int) : Value := .int .i64 i

theorem cutUpto_names (data : List Int) (D : Dm) (L : List (List UInt8)) (s : St) : ∀ k, (cutUpto data D L s k).names = s.names ∧ (cutUpto data D L s k).lasting = s.lasting ∧ (cutUpto data D L s k).changes = s.changes ∧ (cutUpto data D L s k).quota = s.quota
  | 0 => ⟨rfl, rfl, rfl, rfl⟩
  | k + 1 => cutUpto_names data D L s k
theorem cut_ok (data : List Int) (i : Nat) (x : List UInt8 × Nat) (_ : x.2 ≤ x.1.length) (n : Nat) (hn : x.1.length ≤ n) : (cutFile data i x).2 ≤ (cutFile data i x).1.length ∧ (cutFile data i x).1.length ≤ n := by
  unfold cutFile
  refine ⟨Nat.le_refl _, ?_⟩
  simp only [List.length_take]
  omega
theorem cutUpto_ok (data : List Int) (D : Dm) (L : List (List UInt8)) (s : St) (n : Nat) (h : ∀ f, (s.files f).2 ≤ (s.files f).1.length ∧ (s.files f).1.length ≤ n) : ∀ k f, ((cutUpto data D L s k).files f).2 ≤ ((cutUpto data D L s k).files f).1.length ∧ ((cutUpto data D L s k).files f).1.length ≤ n
  | 0, f => h f
  | k + 1, f => by
    have ih := cutUpto_ok data D L s n h k
    simp only [cutUpto, setFile]
    split
    · exact cut_ok data k _ (ih _).1 n (ih _).2
    · exact ih f
theorem cutUpto_next (data : List Int) (D : Dm) (L : List (List UInt8)) (s : St) (k f : Nat) (hk : k < L.length) (hf : look D ⟨(L[k]'hk).toArray⟩ = f + 1) :
    cutUpto data D L s (k + 1) = setFile (cutUpto data D L s k) f (cutFile data k ((cutUpto data D L s k).files f)) := by
  have e : L.getD k [] = L[k]'hk := by simp [hk]
  simp only [cutUpto, e, hf, Nat.add_sub_cancel]
def StrMap (D : Dm) : Prop := ∃ es, D = .map es ∧ ∀ p ∈ es, ∃ x, p.1 = .string x
theorem strMap_of_owns {w : World} {m n : Nat} {D : Dm} (h : w.ownsMap Try.prog 9 ptrR m n D) : StrMap D := by
  obtain ⟨es, he, hk⟩ := h.keysOf
  refine ⟨es, he, fun p hp => ?_⟩
  obtain ⟨v, hv⟩ := hk p hp
  obtain ⟨x, _, e, _⟩ := string_of_keyOf Try.underlying9 hv
  exact ⟨_, e⟩
theorem strKeys_has {D : Dm} (hD : StrMap D) {x : List UInt8} : x ∈ strKeys D ↔ Maps.has D (.string x) = true := by
  obtain ⟨es, rfl, hk⟩ := hD
  rw [has_eq, List.any_eq_true]
  unfold strKeys
  simp only [List.mem_map]
  constructor
  · rintro ⟨p, hp, rfl⟩
    obtain ⟨y, hy⟩ := hk p hp
    exact ⟨p, hp, by rw [hy]; simp [Lit.sameKey, strOf]⟩
  · rintro ⟨p, hp, hq⟩
    obtain ⟨y, hy⟩ := hk p hp
    refine ⟨p, hp, ?_⟩
    rw [hy] at hq ⊢
    simpa [Lit.sameKey, strOf] using hq
theorem keysOf_len {D : Dm} (hD : StrMap D) : (keysOf D).length = Maps.size D := by
  obtain ⟨es, rfl, _⟩ := hD
  rw [keysOf, List.length_mergeSort, Maps.size_eq]
  simp [strKeys]
theorem mem_keysOf {D : Dm} (hD : StrMap D) {x : List UInt8} : x ∈ keysOf D ↔ Maps.has D (.string x) = true := by
  rw [← strKeys_has hD, keysOf, List.mem_mergeSort]

theorem row_take {w : World} {a : Option Addr} {c n : Nat} {bs : List UInt8} (h : Row w 5 (.slice a bs.length c) (bs.map byteV)) (hn : n ≤ bs.length) : n ≤ c ∧ Row w 5 (.slice a n n) ((bs.take n).map byteV) := by
  rcases h with ⟨h1, h2⟩ | ⟨b, cap, cur, h1, h2, h3, h4, h5, h6, h7⟩
  · have e : bs = [] := by simpa using h2
    subst e
    cases h1
    have : n = 0 := by simpa using hn
    subst this
    exact ⟨Nat.le_refl _, .inl ⟨rfl, rfl⟩⟩
  · rw [List.length_map] at h1 h3 h6 h7
    cases h1
    have hl : ((bs.take n).map byteV).length = n := by simp; omega
    refine ⟨by omega, .inr ⟨b, n, cur, by rw [hl], h2, by omega, by omega, by omega, .inr hl.symm, ?_⟩⟩
    rw [hl, List.map_take, ← h7, List.take_take, Nat.min_eq_left hn]
theorem keepN_in {data : List Int} {k : Nat} {x : List UInt8 × Nat} (h : k < data.length) (hx : x.2 ≤ x.1.length) : ∃ K : Nat, min (max (data[k]'h) 0) ((x.1.length : Int) - (x.2 : Int)) = (K : Int) ∧ x.2 + K ≤ x.1.length ∧ keepN data k x = K := by
  refine ⟨(min (max (data[k]'h) 0) ((x.1.length : Int) - (x.2 : Int))).toNat, by omega, by omega, ?_⟩
  unfold keepN
  rw [dif_pos h]
theorem keepN_out {data : List Int} {k : Nat} {x : List UInt8 × Nat} (h : ¬ k < data.length) : keepN data k x = 0 := by
  unfold keepN
  rw [dif_neg h]
theorem cut_eq {data : List Int} {k K : Nat} {x : List UInt8 × Nat} (h : keepN data k x = K) (hK : x.2 + K ≤ x.1.length) : cutFile data k x = (x.1.take (x.2 + K), x.2 + K) := by
  unfold cutFile
  rw [h]
  simp [hK]

theorem blk_same (a : Option Addr) (n c n' c' : Nat) : ∀ b ∈ blkOf (.slice a n c), b ∈ blkOf (.slice a n' c') := by
  intro b hb
  cases a with
  | none => simp [blkOf, Value.ownBlock] at hb
  | some a => simpa [blkOf, Value.ownBlock] using hb
theorem foot_setGh {g : Gh} {f : Nat} {v : Value} (hf : f ∈ g.ids) (h : ∀ b ∈ blkOf v, b ∈ blkOf (g.bv f)) : ∀ b ∈ foot (setGh g f v), b ∈ foot g := by
  intro b hb
  rw [mem_foot] at hb ⊢
  rcases hb with h1 | h1 | h1 | h1 | h1 | ⟨k, hk, h1⟩
  · exact .inl h1
  · exact .inr (.inl h1)
  · exact .inr (.inr (.inl h1))
  · exact .inr (.inr (.inr (.inl h1)))
  · exact .inr (.inr (.inr (.inr (.inl h1))))
  · refine .inr (.inr (.inr (.inr (.inr ?_))))
    by_cases e : k = f
    · subst e
      simp only [setGh, if_pos] at h1
      exact ⟨k, hf, h b h1⟩
    · simp only [setGh, if_neg e] at h1
      exact ⟨k, hk, h1⟩
theorem left_crashed {w1 w2 : World} {g : Gh} {s : St} (h : Rep w1 g s) (hl : w2.ownsMap Try.prog 9 ptrR w1.heap.size (Maps.size s.names) s.names) (hb : Below w1.heap.size w1 w2) :
    Left w1 ((((w2.setCell ⟨g.p, 2, none⟩ (.map (some w1.heap.size))).setCell ⟨g.p, 3, none⟩ (.slice none 0 0)).setCell ⟨g.p, 5, none⟩ (.bool false)).setCell ⟨g.p, 4, none⟩ (.int .i64 (-1))) g g.ids { s with lasting := s.names, changes := [], dead := false, fuse := -1 } := by
  obtain ⟨g', hp, hids, hrep, hturn, hsub⟩ := left_synced (w := w1) h (Turn.refl _ _) (Nat.le_refl _) hl hb
  rw [← hp] at hrep hturn ⊢
  refine ⟨g', hp, hids, ?_, ?_, hsub⟩
  · exact rep_own (s' := { s with lasting := s.names, changes := [], dead := false, fuse := -1 }) hrep ((turn_set _ g'.p 5 _).trans (turn_set _ g'.p 4 _) (fun b hb => .inl hb)) rfl rfl rfl rfl (by rw [block_setCell (block_setCell hrep.cells _)]; rfl)
  · have hone : ∀ b ∈ [g'.p], b ∈ foot g := fun b hb => by rw [List.mem_singleton.1 hb, hp]; exact mem_foot.2 (.inl rfl)
    exact (hturn.trans ((turn_set _ g'.p 5 _).mono fun b hb => .inl (hone b hb)) (fun b hb => .inl hb)).trans ((turn_set _ g'.p 4 _).mono fun b hb => .inl (hone b hb)) (fun b hb => .inl hb)

set_option maxHeartbeats 4000000 in
set_option maxRecDepth 100000 in
theorem crash_any (g : Gh) (s : St) (names : Int) (dv : Value) (data : List Int) (w : World) (h : Rep w g s) (hcl : s.changes.length ≤ 1000000000)
    (hsm : ∀ c ∈ s.changes, small c) (hrs : ∀ k, Maps.size (replay s.lasting (s.changes.take k)) ≤ 1000000000) (hI : ∀ k, IdsD (replay s.lasting (s.changes.take k)) g.ids)
    (hsyn : ∀ f, (s.files f).2 ≤ (s.files f).1.length) (hlen : ∀ f, (s.files f).1.length ≤ 1000000000) (hdv : News w dv (data.map intV)) (hdl : data ≠ [] → ∀ b ∈ blkOf dv, b < w.heap.size ∧ b ∉ foot g) (hdn : data.length ≤ 9223372036854775807) :
    Calls Try.prog 12 #[.pointer (some ⟨g.p, 0, none⟩), .int .i64 names, dv] w fun e w' => e = .returned (.tuple #[]) ∧ Left w w' g g.ids (crashS s names data) := by
  obtain ⟨da, dc, hdv0⟩ := hdv.slice
  rw [List.length_map] at hdv0
  subst hdv0
  have HDV := Lib.hid hdv
  have HDL := Lib.hid hdl
  have HSY := Lib.hid hsyn
  have HLE := Lib.hid hlen
  clear hdv hdl hsyn hlen
  obtain ⟨-, -, c2, -, -, -, -⟩ := fs_cells h.cells
  have cM := cloneM_any g.l _ _ w h.ls
  have HR := Lib.hid h
  have CM := Lib.hid cM
  have hlp := h.lt g.p (mem_foot.2 (.inl rfl))
  clear cM h
  go_enter Try.func12, Try.ntmps12
  go_wp2_with (first
    | (go_at_call 36; refine CM.out.mono ?_; rintro e w1 ⟨rfl, hl, -, hb⟩; obtain ⟨-, d1, d2, d3, -, -, df⟩ := fs_cells ((hb.block g.p hlp).trans HR.out.cells); have hLN := left_names HR.out hl hb; have HLN := Lib.hid hLN; clear hl hLN))
  have hT2 : Turn w (w1.setCell ⟨g.p, 1, none⟩ (.map (some w.heap.size))) [g.p] := (Turn.of_below hb [g.p]).trans (turn_set w1 g.p 1 _) (fun b hb => .inl hb)
  generalize w1.setCell ⟨g.p, 1, none⟩ (.map (some w.heap.size)) = w2 at HLN hT2 ⊢
  have hR2 := HLN.out.1
  obtain ⟨-, k1, -, k3, -, -, kf⟩ := fs_cells hR2.cells
  have hrow := hR2.ch
  obtain ⟨ca, cl, cc, hcv⟩ := slice_of_row hrow
  have hcl' : s.changes.length = cl := owned_len (hcv ▸ hrow)
  subst hcl'
  rw [show ({ g with m := w.heap.size } : Gh).cv = g.cv from rfl] at hcv
  rw [show ({ g with m := w.heap.size } : Gh).cv = g.cv from rfl, hcv] at k3
  rw [show ({ g with m := w.heap.size } : Gh).p = g.p from rfl] at k1 k3
  obtain ⟨N, hN, hNl⟩ : ∃ N : Nat, min (max names 0) (s.changes.length : Int) = (N : Int) ∧ N ≤ s.changes.length := ⟨(min (max names 0) (s.changes.length : Int)).toNat, by omega, by omega⟩
  have hN1 : (N : Int) ≤ (s.changes.length : Int) := by omega
  have hN2 : (0 : Int) ≤ (N : Int) := by omega
  have HR2 := Lib.hid hR2
  have HCV := Lib.hid hcv
  clear hR2 hrow hcv
  have hcc : s.changes.length ≤ cc := by
    rcases (HCV.out ▸ HR2.out.ch : w2.ownsRow 0 73 1 (.slice ca s.changes.length cc) _ _).2 with ⟨e, e2⟩ | ⟨_, _, _, e, _, _, e3, _⟩
    · simp only [Value.slice.injEq] at e; omega
    · cases e; exact e3
  have hNc : (N : Int) ≤ (cc : Int) := by omega
  go_quiet (fail)
  have hRq : Rep (w2.drewN nq) { g with m := w.heap.size } { s with names := s.lasting } := HR2.out.frame (fun b _ => rfl) (Nat.le_refl _)
  have HRQ := Lib.hid hRq
  clear hRq
  have hTq : Turn w (w2.drewN nq) [g.p] := ⟨hT2.os, hT2.tape, hT2.output, hT2.size, hT2.block⟩
  generalize w2.drewN nq = wq at HRQ hTq ⊢
  clear k1 k3 kf
  go_wp2_with fail
  go_loopw [34] (fun i wr => ∃ k : Nat, k ≤ N ∧ i = .int .i64 k ∧ Hid (Rep wr { g with m := w.heap.size } { s with names := replay s.lasting (s.changes.take k) }) ∧ Turn w wr [g.p]) (fun i _ => N - (RowKit.intOf i).toNat)
  case atStart => exact ⟨0, Nat.zero_le _, rfl, HRQ, hTq⟩
  case round =>
    obtain ⟨k, hk, rfl, HK, hTk⟩ := hrel
    by_cases hlt : k < N
    · have g1 : (k : Int) < (N : Int) := by omega
      have hkl : k < s.changes.length := by omega
      obtain ⟨b, hcab, hcell⟩ := chg_cell (HCV.out ▸ HK.out.ch : wr.ownsRow 0 73 1 (.slice ca s.changes.length cc) _ _) hkl
      subst hcab
      have HNX := Lib.hid (replay_next s.lasting s.changes k hkl)
      have hsc := hsm _ (List.getElem_mem hkl)
      generalize s.changes[k]'hkl = c at hcell HNX hsc
      obtain ⟨-, r1, -⟩ := fs_cells HK.out.cells
      have hmap := HK.out.nm
      have hsk := hrs k
      have HKD : Hid (Rep wr.drew { g with m := w.heap.size } { s with names := replay s.lasting (s.changes.take k) }) := Lib.hid (HK.out.frame (fun b _ => rfl) (Nat.le_refl _))
      rw [chgV_eq] at hcell
      cases c with
      | create nm f =>
        rw [show tyOf (.create nm f) = 68 from rfl, show rcv (.create nm f) = .agg #[.string nm, .pointer (some ⟨f, 0, none⟩)] from rfl] at hcell
        have hah := ahead68
        have hme := meth68
        go_wp2_with fail
        go_still_tail 8, (by kernel_rfl)
        change wpList _ _ _ _ _ wr.drew
        go_wp2_with fail
        refine (apply_any (.create nm f) w.heap.size _ _ wr.drew hmap (by unfold maxLen; omega) hsc).mono ?_
        rintro e w3 ⟨rfl, ho3, ht3⟩
        have HO := Lib.hid (rep_names (w := wr.drew) (w' := w3) (HKD.out) ht3 ho3)
        clear ho3
        go_wp2
        go_roundw
        case rel => exact ⟨k + 1, by omega, by go_num, Lib.hid (by rw [HNX.out]; exact HO.out), hTk.trans ((Turn.drew wr [w.heap.size]).trans ht3 (fun b hb => .inl hb)) (fun b hb => .inr (by rw [List.mem_singleton.1 hb]; exact Nat.le_refl _))⟩
        case measure => simp [RowKit.intOf]; omega
      | rename a b' =>
        rw [show tyOf (.rename a b') = 80 from rfl, show rcv (.rename a b') = .agg #[.string a, .string b'] from rfl] at hcell
        have hah := ahead80
        have hme := meth80
        go_wp2_with fail
        go_still_tail 8, (by kernel_rfl)
        change wpList _ _ _ _ _ wr.drew
        go_wp2_with fail
        refine (apply_any (.rename a b') w.heap.size _ _ wr.drew hmap (by unfold maxLen; omega) hsc).mono ?_
        rintro e w3 ⟨rfl, ho3, ht3⟩
        have HO := Lib.hid (rep_names (w := wr.drew) (w' := w3) (HKD.out) ht3 ho3)
        clear ho3
        go_wp2
        go_roundw
        case rel => exact ⟨k + 1, by omega, by go_num, Lib.hid (by rw [HNX.out]; exact HO.out), hTk.trans ((Turn.drew wr [w.heap.size]).trans ht3 (fun b hb => .inl hb)) (fun b hb => .inr (by rw [List.mem_singleton.1 hb]; exact Nat.le_refl _))⟩
        case measure => simp [RowKit.intOf]; omega
      | remove a =>
        rw [show tyOf (.remove a) = 82 from rfl, show rcv (.remove a) = .agg #[.string a] from rfl] at hcell
        have hah := ahead82
        have hme := meth82
        go_wp2_with fail
        go_still_tail 8, (by kernel_rfl)
        change wpList _ _ _ _ _ wr.drew
        go_wp2_with fail
        refine (apply_any (.remove a) w.heap.size _ _ wr.drew hmap (by unfold maxLen; omega) hsc).mono ?_
        rintro e w3 ⟨rfl, ho3, ht3⟩
        have HO := Lib.hid (rep_names (w := wr.drew) (w' := w3) (HKD.out) ht3 ho3)
        clear ho3
        go_wp2
        go_roundw
        case rel => exact ⟨k + 1, by omega, by go_num, Lib.hid (by rw [HNX.out]; exact HO.out), hTk.trans ((Turn.drew wr [w.heap.size]).trans ht3 (fun b hb => .inl hb)) (fun b hb => .inr (by rw [List.mem_singleton.1 hb]; exact Nat.le_refl _))⟩
        case measure => simp [RowKit.intOf]; omega
    · rename World => ws
      have g2 : ¬ (k : Int) < (N : Int) := by omega
      obtain rfl : k = N := by omega
      obtain ⟨D', hD'⟩ : ∃ D', D' = replay s.lasting (s.changes.take k) := ⟨_, rfl⟩
      have HID := Lib.hid (hI k)
      have hsz := hrs k
      rw [← hD'] at HK HID hsz
      have HD := Lib.hid hD'
      clear hD' hrs
      have hT0 := hTk.size
      have CS := Lib.hid (sorted_any { g with m := w.heap.size } { s with names := D' } ws HK.out hsz)
      have HM := Lib.hid (show ∀ x ∈ keysOf D', ∃ f ∈ g.ids, look D' ⟨x.toArray⟩ = f + 1 ∧ x.length ≤ maxLen from fun x hx => by
        obtain ⟨f, hf, hl⟩ := HID.out ⟨x.toArray⟩ (by simpa [kl] using (mem_keysOf (strMap_of_owns HK.out.nm)).1 hx)
        exact ⟨f, hf, hl, strKeys_le HK.out.nm Try.underlying9 x (by simpa [keysOf, List.mem_mergeSort] using hx)⟩)
      go_wp2_with fail
      refine CS.out.mono ?_
      rintro e w3 ⟨v, rfl, hrow0, hb3⟩
      have hrow : w3.ownsRow ws.heap.size 9 1 v (keysOf D').length ((keysOf D').map encStr) := hrow0
      clear hrow0 CS
      obtain ⟨L, hL⟩ : ∃ L, L = keysOf D' := ⟨_, rfl⟩
      have hLl : L.length ≤ 1000000000 := by rw [hL, keysOf_len (strMap_of_owns HK.out.nm)]; exact hsz
      rw [← hL] at hrow HM
      have HLL := Lib.hid hL
      clear hL
      have hrc := row_cells hrow
      obtain ⟨va, vl, vc, rfl⟩ := slice_of_row (ownsRow_zero hrow)
      obtain rfl : vl = L.length := by
        rcases hrc with ⟨e, e2⟩ | ⟨_, _, e, _⟩
        · rw [e2]; cases e; rfl
        · cases e; rfl
      have HR3 : Hid (Rep w3 { g with m := w.heap.size } { s with names := D' }) := Lib.hid (HK.out.frame (fun b hb => hb3.block b (HK.out.lt b hb)) hb3.size)
      have HLT := Lib.hid HK.out.lt
      have HRC := Lib.hid hrc
      have hz3 := hb3.size
      have HTW := Lib.hid (hTk.trans (Turn.of_below hb3 []) (fun b hb => by cases hb))
      have HDN : Hid (data ≠ [] → ∀ b ∈ blkOf (.slice da data.length dc), b < w3.heap.size ∧ b ∉ foot { g with m := w.heap.size }) := Lib.hid fun hx b hb => by
        obtain ⟨h1, h2⟩ := HDL.out hx b hb
        exact ⟨by omega, fun hm => (HLN.out.2 b hm).elim h2 (by omega)⟩
      have HDV3 : Hid (News w3 (.slice da data.length dc) (data.map intV)) := Lib.hid (HDV.out.frame fun hx b hb => have hx' := (fun e => hx (by rw [e]; rfl)); HTW.out.block b (HDL.out hx' b hb).1 (fun hm => (HDL.out hx' b hb).2 (mem_foot.2 (.inl (List.mem_singleton.1 hm)))))
      clear hrc hrow
      go_wp2_with fail
      go_loopw [51] (fun i wr => ∃ (j : Nat) (gk : Gh), j ≤ L.length ∧ i = .int .i64 j ∧ Hid (Rep wr gk (cutUpto data D' L { s with names := D' } j)) ∧ Hid (gk.p = g.p ∧ gk.ids = g.ids ∧ ∀ b ∈ foot gk, b ∈ foot { g with m := w.heap.size }) ∧ Turn w3 wr (foot { g with m := w.heap.size })) (fun i _ => L.length - (RowKit.intOf i).toNat)
      case atStart => exact ⟨0, _, Nat.zero_le _, rfl, HR3, Lib.hid ⟨rfl, rfl, fun b hb => hb⟩, Turn.refl _ _⟩
      case round =>
        obtain ⟨j, gk, hj, rfl, HQ, HG, hTq⟩ := hrel
        by_cases hjl : j < L.length
        · have q1 : (j : Int) < (L.length : Int) := by omega
          rcases HRC.out with ⟨-, e⟩ | ⟨gb, c, e, hcc, hbb, hgs, hcs⟩
          · rw [e] at hjl; exact absurd hjl (by simp)
          cases e
          have hcell : wr.cell? ⟨gb, j, none⟩ = some (encStr (L[j]'hjl)) := (World.cell?_of_block (hTq.block gb hgs (fun hm => by have := HLT.out gb hm; omega))).trans (hcs j hjl)
          obtain ⟨f, hfi, hlook, hxl⟩ := HM.out _ (List.getElem_mem hjl)
          have HNX := Lib.hid (cutUpto_next data D' L { s with names := D' } j f hjl hlook)
          have hnm := (cutUpto_names data D' L { s with names := D' } j).1
          obtain ⟨hok1, hok2⟩ := cutUpto_ok data D' L { s with names := D' } 1000000000 (fun f => ⟨HSY.out f, HLE.out f⟩) j f
          obtain ⟨hgp, hgi, hgf⟩ := HG.out
          generalize cutUpto data D' L { s with names := D' } j = sk at *
          obtain ⟨-, m1, -⟩ := fs_cells HQ.out.cells
          rw [hgp] at m1
          obtain ⟨hLk, -⟩ := look_run HQ.out.nm (s := ⟨(L[j]'hjl).toArray⟩) (by show (L[j]'hjl).toArray.size ≤ maxLen; simpa using hxl)
          rw [hnm, show look ({ s with names := D' } : St).names _ = look D' ⟨(L[j]'hjl).toArray⟩ from rfl, hlook, show ptrV (f + 1) = .pointer (some ⟨f, 0, none⟩) from rfl] at hLk
          rw [show encStr (L[j]'hjl) = .string ⟨(L[j]'hjl).toArray⟩ from rfl] at hcell
          obtain ⟨hfc, hfr⟩ := HQ.out.fl f (by rw [hgi]; exact hfi)
          obtain ⟨f0, f1, ff⟩ := file_cells hfc
          obtain ⟨ua, uc, hv⟩ := row_slice hfr
          rw [List.length_map] at hv
          rw [hv] at f0 hfr
          have HV := Lib.hid hv
          have HFC := Lib.hid hfc
          have HFR := Lib.hid hfr
          clear hv hfc hfr hnm hlook hgp hgi hgf hcs
          generalize (⟨(L[j]'hjl).toArray⟩ : ByteArray) = x at hcell hLk
          by_cases hjd : j < data.length
          · obtain ⟨K, hK, hKl, hKN⟩ := keepN_in (x := sk.files f) hjd hok1
            have q2 : (j : Int) < (data.length : Int) := by omega
            have HKN := Lib.hid (cut_eq hKN hKl)
            have hdc : ∃ a, da = some a ∧ wr.cell? (a.add j) = some (.int .i64 (data[j]'hjd)) := by
              have := HDV3.out.frame (w' := wr) fun hx b hb => have hx' := (fun e => hx (by rw [e]; rfl)); hTq.block b (HDN.out hx' b hb).1 (HDN.out hx' b hb).2
              rcases this with ⟨e, e2⟩ | ⟨a, c', e, _, hc⟩
              · have : data = [] := by simpa using e2
                rw [this] at hjd; exact absurd hjd (by simp)
              · simp only [Value.slice.injEq] at e
                refine ⟨a, e.1, hc j _ (by rw [List.getElem?_map, List.getElem?_eq_getElem hjd]; rfl)⟩
            obtain ⟨a, rfl, hdc⟩ := hdc
            obtain ⟨n, hn⟩ : ∃ n, n = (sk.files f).2 + K := ⟨_, rfl⟩
            rw [← hn] at hKl HKN
            have ht := row_take HFR.out hKl
            have hcap := ht.1
            have HT := Lib.hid ht.2
            generalize data[j]'hjd = d at hK hdc
            clear hKN ht
            have hw1 : IntKind.i64.wrap (((sk.files f).1.length : Int) - ((sk.files f).2 : Int)) = ((sk.files f).1.length : Int) - ((sk.files f).2 : Int) := IntWalk.i64_in _ (by omega)
            have hw2 : IntKind.i64.wrap (((sk.files f).2 : Int) + (K : Int)) = (n : Int) := by rw [IntWalk.i64_in _ (by omega)]; omega
            have q3 : (0 : Int) ≤ (n : Int) := by omega
            have q4 : (n : Int) ≤ (uc : Int) := by omega
            clear hn
            go_wp2_with fail
            go_quiet (fail)
            obtain ⟨wz, hwz⟩ : ∃ wz, wr.drewN nq = wz := ⟨_, rfl⟩
            have z0 : wz.cell? ⟨f, 0, none⟩ = some (.slice ua (sk.files f).1.length uc) := by rw [← hwz]; exact f0
            have z1 : wz.cell? ⟨f, 1, none⟩ = some (.int .i64 ((sk.files f).2 : Nat)) := by rw [← hwz]; exact f1
            have zf : ∀ o, wz.frozen? ⟨f, o, none⟩ = false := by rw [← hwz]; exact ff
            have zQ : Hid (Rep wz gk sk) := Lib.hid (by rw [← hwz]; exact HQ.out.frame (fun b _ => rfl) (Nat.le_refl _))
            have zT : Turn w3 wz (foot { g with m := w.heap.size }) := by rw [← hwz]; exact ⟨hTq.os, hTq.tape, hTq.output, hTq.size, hTq.block⟩
            have zR : Hid (Row wz 5 (.slice ua n n) (((sk.files f).1.take n).map byteV)) := Lib.hid (by rw [← hwz]; exact HT.out.frame fun b _ => rfl)
            have zC : Hid (wz.heap[f]? = some (.cells #[gk.bv f, .int .i64 ((sk.files f).2 : Nat)] 66 (0, 0))) := Lib.hid (by rw [← hwz]; exact HFC.out)
            rw [hwz]
            clear hwz hdc f0 f1 ff m1 hLk hcell HT HQ hTq HFC
            obtain ⟨wy, hwy⟩ : ∃ wy, wz.drew = wy := ⟨_, rfl⟩
            have hQy : Rep wy gk sk := by rw [← hwy]; exact zQ.out.frame (fun b _ => rfl) (Nat.le_refl _)
            have hTy : Turn w3 wy (foot { g with m := w.heap.size }) := by rw [← hwy]; exact ⟨zT.os, zT.tape, zT.output, zT.size, zT.block⟩
            have y0 : wy.cell? ⟨f, 0, none⟩ = some (.slice ua (sk.files f).1.length uc) := by rw [← hwy]; exact z0
            have y1 : wy.cell? ⟨f, 1, none⟩ = some (.int .i64 ((sk.files f).2 : Nat)) := by rw [← hwy]; exact z1
            have yf : ∀ o, wy.frozen? ⟨f, o, none⟩ = false := by rw [← hwy]; exact zf
            have HYC : Hid (wy.heap[f]? = some (.cells #[gk.bv f, .int .i64 ((sk.files f).2 : Nat)] 66 (0, 0))) := Lib.hid (by rw [← hwy]; exact zC.out)
            have HYR : Hid (Row wy 5 (.slice ua n n) (((sk.files f).1.take n).map byteV)) := Lib.hid (by rw [← hwy]; exact zR.out.frame fun b _ => rfl)
            have HQY := Lib.hid hQy
            clear hQy zQ zR zC zT
            go_wp2_with fail
            go_still_tail 13, (by kernel_rfl)
            refine wpStill_step (fun K hK => ?_)
            go_simp
            refine ⟨_, clipB_any ua n uc wy hcap, hK _ ?_⟩
            clear hK K
            change wpList _ _ _ _ _ wz.drew
            rw [hwy]
            clear hwy z0 z1 zf
            go_wp2
            go_roundw
            case measure => simp [RowKit.intOf]; omega
            case rel =>
              obtain ⟨hgp, hgi, hgf⟩ := HG.out
              have hfk : f ∈ gk.ids := by rw [hgi]; exact hfi
              have hts : Turn wy ((wy.setCell ⟨f, 0, none⟩ (.slice ua n n)).setCell ⟨f, 1, none⟩ (.int .i64 (n : Nat))) [f] := (turn_set wy f 0 _).trans (turn_set _ f 1 _) (fun b hb => .inl hb)
              have hbs : ∀ b ∈ blkOf (.slice ua n n), b ∈ blkOf (gk.bv f) := by rw [HV.out]; exact blk_same ua _ _ _ _
              have hfin := Rep.newfile (v := .slice ua n n) (x := ((sk.files f).1.take n, n)) HQY.out hfk hts (fun b hb => .inl (by simpa using hb)) (by rw [block_setCell (block_setCell HYC.out _)]; rfl)
                (HYR.out.frame fun b hb => by
                  have hne : b ≠ f := fun e => (((apart_iff gk).1 HQY.out.apart).2.2.2.1 f hfk b (hbs b hb)).2 (e ▸ hfk)
                  rw [set_other _ 1 _ hne, set_other _ 0 _ hne]) (fun b hb => .inl (hbs b hb))
              refine ⟨j + 1, setGh gk f (.slice ua n n), by omega, by go_num, Lib.hid (by rw [HNX.out, HKN.out]; exact hfin.1), Lib.hid ⟨hgp, hgi, fun b hb => hgf b (foot_setGh hfk hbs b hb)⟩,
                hTy.trans (hts.mono (F' := foot { g with m := w.heap.size }) fun b hb => .inl (hgf b (mem_foot.2 (.inr (.inr (.inr (.inr (.inl (by rw [List.mem_singleton.1 hb]; exact hfk)))))))) ) (fun b hb => .inl hb)⟩
          · have q2 : (data.length : Int) ≤ (j : Int) := by omega
            have hKN := keepN_out (x := sk.files f) hjd
            obtain ⟨K, hK0⟩ : ∃ K : Nat, K = 0 := ⟨0, rfl⟩
            have hKl : (sk.files f).2 + K ≤ (sk.files f).1.length := by omega
            have HKN := Lib.hid (cut_eq (hKN.trans hK0.symm) hKl)
            obtain ⟨n, hn⟩ : ∃ n, n = (sk.files f).2 + K := ⟨_, rfl⟩
            rw [← hn] at hKl HKN
            have hn2 : (sk.files f).2 = n := by omega
            have ht := row_take HFR.out hKl
            have hcap := ht.1
            have HT := Lib.hid ht.2
            have hw2 : IntKind.i64.wrap (n : Int) = (n : Int) := IntWalk.i64_in _ (by omega)
            rw [hn2] at f1
            have HN2 := Lib.hid hn2
            clear hn2 hKN hK0 hn ht
            have q3 : (0 : Int) ≤ (n : Int) := by omega
            have q4 : (n : Int) ≤ (uc : Int) := by omega
            go_wp2_with fail
            rename World => wz
            have z0 := f0
            have z1 := f1
            have zf := ff
            have zQ := HQ
            have zT := hTq
            have zR := HT
            have zC : Hid (wz.heap[f]? = some (.cells #[gk.bv f, .int .i64 ((sk.files f).2 : Nat)] 66 (0, 0))) := HFC
            clear f0 f1 ff m1 hLk hcell HT HQ hTq HFC
            obtain ⟨wy, hwy⟩ : ∃ wy, wz.drew = wy := ⟨_, rfl⟩
            have hQy : Rep wy gk sk := by rw [← hwy]; exact zQ.out.frame (fun b _ => rfl) (Nat.le_refl _)
            have hTy : Turn w3 wy (foot { g with m := w.heap.size }) := by rw [← hwy]; exact ⟨zT.os, zT.tape, zT.output, zT.size, zT.block⟩
            have y0 : wy.cell? ⟨f, 0, none⟩ = some (.slice ua (sk.files f).1.length uc) := by rw [← hwy]; exact z0
            have y1 : wy.cell? ⟨f, 1, none⟩ = some (.int .i64 (n : Nat)) := by rw [← hwy]; exact z1
            have yf : ∀ o, wy.frozen? ⟨f, o, none⟩ = false := by rw [← hwy]; exact zf
            have HYC : Hid (wy.heap[f]? = some (.cells #[gk.bv f, .int .i64 ((sk.files f).2 : Nat)] 66 (0, 0))) := Lib.hid (by rw [← hwy]; exact zC.out)
            have HYR : Hid (Row wy 5 (.slice ua n n) (((sk.files f).1.take n).map byteV)) := Lib.hid (by rw [← hwy]; exact zR.out.frame fun b _ => rfl)
            have HQY := Lib.hid hQy
            clear hQy zQ zR zC zT
            go_wp2_with fail
            go_still_tail 13, (by kernel_rfl)
            refine wpStill_step (fun K hK => ?_)
            go_simp
            refine ⟨_, clipB_any ua n uc wy hcap, hK _ ?_⟩
            clear hK K
            change wpList _ _ _ _ _ wz.drew
            rw [hwy]
            clear hwy z0 z1 zf
            go_wp2
            go_roundw
            case measure => simp [RowKit.intOf]; omega
            case rel =>
              obtain ⟨hgp, hgi, hgf⟩ := HG.out
              have hfk : f ∈ gk.ids := by rw [hgi]; exact hfi
              have hts : Turn wy ((wy.setCell ⟨f, 0, none⟩ (.slice ua n n)).setCell ⟨f, 1, none⟩ (.int .i64 (n : Nat))) [f] := (turn_set wy f 0 _).trans (turn_set _ f 1 _) (fun b hb => .inl hb)
              have hbs : ∀ b ∈ blkOf (.slice ua n n), b ∈ blkOf (gk.bv f) := by rw [HV.out]; exact blk_same ua _ _ _ _
              have hfin := Rep.newfile (v := .slice ua n n) (x := ((sk.files f).1.take n, n)) HQY.out hfk hts (fun b hb => .inl (by simpa using hb)) (by rw [block_setCell (block_setCell HYC.out _)]; rfl)
                (HYR.out.frame fun b hb => by
                  have hne : b ≠ f := fun e => (((apart_iff gk).1 HQY.out.apart).2.2.2.1 f hfk b (hbs b hb)).2 (e ▸ hfk)
                  rw [set_other _ 1 _ hne, set_other _ 0 _ hne]) (fun b hb => .inl (hbs b hb))
              refine ⟨j + 1, setGh gk f (.slice ua n n), by omega, by go_num, Lib.hid (by rw [HNX.out, HKN.out]; exact hfin.1), Lib.hid ⟨hgp, hgi, fun b hb => hgf b (foot_setGh hfk hbs b hb)⟩,
                hTy.trans (hts.mono (F' := foot { g with m := w.heap.size }) fun b hb => .inl (hgf b (mem_foot.2 (.inr (.inr (.inr (.inr (.inl (by rw [List.mem_singleton.1 hb]; exact hfk)))))))) ) (fun b hb => .inl hb)⟩
        · have q1 : ¬ (j : Int) < (L.length : Int) := by omega
          obtain rfl : j = L.length := by omega
          obtain ⟨hgp, hgi, hgf⟩ := HG.out
          have hsn := (cutUpto_names data D' L { s with names := D' } L.length).1
          have hlq := HQ.out.lt gk.p (mem_foot.2 (.inl rfl))
          have hcq := HQ.out.cells
          rw [hgp] at hcq hlq
          obtain ⟨-, m1, -⟩ := fs_cells hcq
          have CM2 := Lib.hid (cloneM_any gk.m _ _ wr HQ.out.nm)
          have HCQ := Lib.hid hcq
          have HSN := Lib.hid hsn
          clear hcq hsn hgp hgi hgf
          go_wp2_with (first
            | (go_at_call 36; refine CM2.out.mono ?_; rintro e w5 ⟨rfl, hl5, -, hb5⟩; obtain ⟨-, -, d2, d3, d4, d5, df⟩ := fs_cells ((hb5.block g.p hlq).trans HCQ.out); have HL5 := Lib.hid hl5; have HB5 := Lib.hid hb5; clear hl5 hb5))
          refine bodyPost_end (v := .tuple #[]) (by simp [results, Try.results12]) rfl ⟨rfl, ?_⟩
          obtain ⟨hgp, hgi, hgf⟩ := HG.out
          have hfin := left_crashed HQ.out HL5.out HB5.out
          rw [hgp, hgi] at hfin
          have hcr : crashS s names data = { cutUpto data D' L { s with names := D' } L.length with lasting := (cutUpto data D' L { s with names := D' } L.length).names, changes := [], dead := false, fuse := -1 } := by
            unfold crashS
            simp only [hN, Int.toNat_natCast, ← HD.out, ← HLL.out, HSN.out]
          rw [hcr]
          exact Left.of hgp ((HTW.out.mono fun b hb => .inl (one_foot b hb)).trans hTq (fun b hb => HLN.out.2 b hb)) (fun b hb => HLN.out.2 b (hgf b hb)) hfin
end Go.Proofs.Ytijdgmbpkfmciaa.Fs
