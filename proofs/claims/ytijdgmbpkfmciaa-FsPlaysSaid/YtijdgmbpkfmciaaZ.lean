/- The file system: FsRenames in plain words: what 'put' leaves. -/
import Derived.Test.YtijdgmbpkfmciaaX
namespace Go.Proofs.Ytijdgmbpkfmciaa.Fs
open Go.RowKit Go.Maps Go.ChangeMaps Go.WideMaps Go.Joins Go.Sort

def nmT : ByteArray := ⟨#[116, 109, 112]⟩
def nmI : ByteArray := ⟨#[105, 116]⟩
theorem namedT : namedE false [nmT] = 0 := by decide
theorem namedI : namedE false [nmI] = 0 := by decide
theorem namedTI : namedE false [nmT, nmI] = 0 := by decide
theorem namedDead (l : List ByteArray) : namedE true l = 50 := by simp [namedE]
theorem nmTI : nmI ≠ nmT := by decide

def put1 (s : St) (f : Nat) : Int × St := (createE s nmT, createS s nmT f)
def put2 (s : St) (b : List UInt8) (f : Nat) : Int × St := if (put1 s f).1 = 0 then (appendE (put1 s f).2 nmT b.length, appendS (put1 s f).2 nmT b) else put1 s f
def put3 (s : St) (b : List UInt8) (f : Nat) : Int × St := if (put2 s b f).1 = 0 then (syncE (put2 s b f).2 nmT, syncS (put2 s b f).2 nmT) else put2 s b f
def put4 (s : St) (b : List UInt8) (f : Nat) : Int × St := if (put3 s b f).1 = 0 then (renameE (put3 s b f).2 nmT nmI, renameS (put3 s b f).2 nmT nmI) else put3 s b f
def putR (s : St) (b : List UInt8) (f : Nat) : Int × St := if (put4 s b f).1 = 0 then (syncNamesE (put4 s b f).2, syncNamesS (put4 s b f).2) else put4 s b f

/-- Where 'put' begins. -/
structure Calm (s : St) : Prop where
  d : s.dead = false
  c : s.changes = []
  l : s.lasting = s.names
  t : look s.names nmT = 0
  td : Tidy s.names
  sz : Maps.size s.names ≤ 1
  q : s.quota = 1048576
  m : ∀ f, (s.files f).1.length ≤ 100000
  f0 : -1 ≤ s.fuse

def cT (f : Nat) : Chg := .create nmT f
def rTI : Chg := .rename nmT nmI
/-- Some steps in: what the names may be, what the files are; x: the new file's; cs: the changes. -/
structure Mid (A : St) (f : Nat) (x : List UInt8 × Nat) (cs : List Chg) (s : St) : Prop where
  d : s.dead = false
  c : s.changes = cs
  l : s.lasting = A.names
  n : s.names = replay A.names cs
  q : s.quota = 1048576
  fl : ∀ k, s.files k = if k = f then x else A.files k
  f0 : -1 ≤ s.fuse
  fu : A.fuse = -1 → s.fuse = -1
/-- The same, or dead there. -/
structure Died (A : St) (f : Nat) (x : List UInt8 × Nat) (cs : List Chg) (s : St) : Prop where
  d : s.dead = true
  c : s.changes = cs
  l : s.lasting = A.names
  fl : ∀ k, s.files k = if k = f then x else A.files k
  fu : A.fuse ≠ -1

theorem burn_cases (f : Int) (_ : -1 ≤ f) : (f = 0 ∧ burnV f = 50) ∨ (f ≠ 0 ∧ burnV f = 0 ∧ -1 ≤ burnF f ∧ (f = -1 → burnF f = -1)) := by
  by_cases e : f = 0
  · exact .inl ⟨e, by simp [burnV, e]⟩
  · refine .inr ⟨e, by simp [burnV, e], ?_, ?_⟩
    · unfold burnF; rw [if_neg e]; omega
    · intro e'; unfold burnF; rw [if_neg e]; omega

theorem step1 {A : St} (h : Calm A) (f : Nat) : (createE A nmT = 0 ∧ Mid A f ([], 0) [cT f] (createS A nmT f)) ∨ (createE A nmT = 50 ∧ Died A f ([], 0) [] (createS A nmT f)) := by
  have h1 : namedE A.dead [nmT] = 0 := by rw [h.d]; exact namedT
  have hE : createE A nmT = burnV A.fuse := by unfold createE; rw [if_pos h1, if_pos h.t]
  have hS : createS A nmT f = changed (addFile A f) (cT f) := by unfold createS; rw [if_pos ⟨h1, h.t⟩]; rfl
  rw [hE, hS]
  rcases burn_cases A.fuse h.f0 with ⟨e, e2⟩ | ⟨e, e2, e3, e4⟩
  · refine .inr ⟨e2, ?_⟩
    unfold changed
    rw [if_pos (show (addFile A f).fuse = 0 from e)]
    exact ⟨rfl, h.c, h.l, fun k => rfl, by rw [e]; decide⟩
  · refine .inl ⟨e2, ?_⟩
    unfold changed
    rw [if_neg (show (addFile A f).fuse ≠ 0 from e)]
    exact ⟨h.d, by show A.changes ++ [cT f] = _; rw [h.c]; rfl, h.l, rfl, h.q, fun k => rfl, e3, e4⟩

theorem mid_look {A : St} (h : Calm A) (f : Nat) : look (replay A.names [cT f]) nmT = f + 1 := look_put_same h.td.isMap nmT _
theorem mid_of {A s : St} {f : Nat} {x : List UInt8 × Nat} (h : Calm A) (hm : Mid A f x [cT f] s) : ofE s nmT = 0 ∧ look s.names nmT = f + 1 := by
  have hl : look s.names nmT = f + 1 := by rw [hm.n]; exact mid_look h f
  refine ⟨?_, hl⟩
  unfold ofE
  rw [hm.d, namedT, if_pos rfl, hl]
  simp
theorem step2 {A s : St} {f : Nat} (h : Calm A) (hm : Mid A f ([], 0) [cT f] s) (b : List UInt8) (hb : b.length ≤ 100000) :
    (appendE s nmT b.length = 0 ∧ Mid A f (b, 0) [cT f] (appendS s nmT b)) ∨ (appendE s nmT b.length = 50 ∧ Died A f ([], 0) [cT f] (appendS s nmT b)) := by
  obtain ⟨h1, h2⟩ := mid_of h hm
  have hlen : ∀ k, (s.files k).1.length ≤ 100000 := fun k => by
    rw [hm.fl]; split
    · simp
    · exact h.m k
  have hsz : Maps.size s.names ≤ 2 := by
    rw [hm.n]
    show Maps.size (A.names.put _ _) ≤ 2
    rw [size_put h.td]
    have := h.sz
    split <;> omega
  have hu := used_small hlen (by rw [hm.n]; exact (h.td.put (kl_isKey _) _).isMap) hsz
  have hq : fitsQ s b.length := by unfold fitsQ; rw [hm.q]; omega
  have hE : appendE s nmT b.length = burnV s.fuse := by unfold appendE; rw [if_pos h1, if_pos hq]
  rw [hE]
  unfold appendS
  rw [if_pos h1, if_pos hq, h2, Nat.add_sub_cancel]
  rcases burn_cases s.fuse hm.f0 with ⟨e, e2⟩ | ⟨e, e2, e3, e4⟩
  · refine .inr ⟨e2, ?_⟩
    rw [if_pos e]
    exact ⟨by show (s.dead || s.fuse == 0) = true; rw [e]; simp, hm.c, hm.l, hm.fl, fun e' => by have := hm.fu e'; rw [e] at this; exact absurd this (by decide)⟩
  · refine .inl ⟨e2, ?_⟩
    rw [if_neg e]
    refine ⟨by show (s.dead || s.fuse == 0) = false; rw [hm.d, beq_eq_false_iff_ne.2 e]; rfl, hm.c, hm.l, hm.n, hm.q, fun k => ?_, e3, fun e' => e4 (hm.fu e')⟩
    show (if k = f then _ else s.files k) = _
    have hff := hm.fl f
    rw [if_pos rfl] at hff
    by_cases ek : k = f
    · rw [if_pos ek, if_pos ek, hff]; simp
    · rw [if_neg ek, if_neg ek, hm.fl, if_neg ek]
theorem step3 {A s : St} {f : Nat} {b : List UInt8} (h : Calm A) (hm : Mid A f (b, 0) [cT f] s) :
    (syncE s nmT = 0 ∧ Mid A f (b, b.length) [cT f] (syncS s nmT)) ∨ (syncE s nmT = 50 ∧ Died A f (b, 0) [cT f] (syncS s nmT)) := by
  obtain ⟨h1, h2⟩ := mid_of h hm
  have hE : syncE s nmT = burnV s.fuse := by unfold syncE; rw [if_pos h1]
  rw [hE]
  unfold syncS
  rw [if_pos h1, h2, Nat.add_sub_cancel]
  rcases burn_cases s.fuse hm.f0 with ⟨e, e2⟩ | ⟨e, e2, e3, e4⟩
  · refine .inr ⟨e2, ?_⟩
    rw [if_pos e]
    exact ⟨by show (s.dead || s.fuse == 0) = true; rw [e]; simp, hm.c, hm.l, hm.fl, fun e' => by have := hm.fu e'; rw [e] at this; exact absurd this (by decide)⟩
  · refine .inl ⟨e2, ?_⟩
    rw [if_neg e]
    refine ⟨by show (s.dead || s.fuse == 0) = false; rw [hm.d, beq_eq_false_iff_ne.2 e]; rfl, hm.c, hm.l, hm.n, hm.q, fun k => ?_, e3, fun e' => e4 (hm.fu e')⟩
    show (if k = f then _ else s.files k) = _
    have hff := hm.fl f
    rw [if_pos rfl] at hff
    by_cases ek : k = f
    · rw [if_pos ek, if_pos ek, hff]
    · rw [if_neg ek, if_neg ek, hm.fl, if_neg ek]
theorem step4 {A s : St} {f : Nat} {x : List UInt8 × Nat} (h : Calm A) (hm : Mid A f x [cT f] s) :
    (renameE s nmT nmI = 0 ∧ Mid A f x [cT f, rTI] (renameS s nmT nmI)) ∨ (renameE s nmT nmI = 50 ∧ Died A f x [cT f] (renameS s nmT nmI)) := by
  obtain ⟨h1, h2⟩ := mid_of h hm
  have hn : namedE s.dead [nmT, nmI] = 0 := by rw [hm.d]; exact namedTI
  have hl : look s.names nmT ≠ 0 := by omega
  have hE : renameE s nmT nmI = burnV s.fuse := by unfold renameE; rw [if_pos hn, if_neg hl]
  rw [hE]
  unfold renameS
  rw [if_pos hn, if_neg hl, if_neg (fun e => nmTI e.symm)]
  unfold changed
  rcases burn_cases s.fuse hm.f0 with ⟨e, e2⟩ | ⟨e, e2, e3, e4⟩
  · refine .inr ⟨e2, ?_⟩
    rw [if_pos e]
    exact ⟨rfl, hm.c, hm.l, hm.fl, fun e' => by have := hm.fu e'; rw [e] at this; exact absurd this (by decide)⟩
  · refine .inl ⟨e2, ?_⟩
    rw [if_neg e]
    exact ⟨hm.d, by show s.changes ++ [rTI] = _; rw [hm.c]; rfl, hm.l, by show app s.names rTI = _; rw [hm.n]; rfl, hm.q, hm.fl, e3, fun e' => e4 (hm.fu e')⟩
/-- Put through. -/
structure Thru (A : St) (f : Nat) (b : List UInt8) (s : St) : Prop where
  d : s.dead = false
  c : s.changes = []
  l : s.lasting = s.names
  n : s.names = replay A.names [cT f, rTI]
  q : s.quota = 1048576
  fl : ∀ k, s.files k = if k = f then (b, b.length) else A.files k
  f0 : -1 ≤ s.fuse
  fu : A.fuse = -1 → s.fuse = -1
theorem step5 {A s : St} {f : Nat} {b : List UInt8} (hm : Mid A f (b, b.length) [cT f, rTI] s) :
    (syncNamesE s = 0 ∧ Thru A f b (syncNamesS s)) ∨ (syncNamesE s = 50 ∧ Died A f (b, b.length) [cT f, rTI] (syncNamesS s)) := by
  have hE : syncNamesE s = burnV s.fuse := by unfold syncNamesE; rw [hm.d]; simp
  rw [hE]
  unfold syncNamesS
  rw [if_neg (by rw [hm.d]; simp)]
  rcases burn_cases s.fuse hm.f0 with ⟨e, e2⟩ | ⟨e, e2, e3, e4⟩
  · refine .inr ⟨e2, ?_⟩
    rw [if_pos e]
    exact ⟨by show (s.dead || s.fuse == 0) = true; rw [e]; simp, hm.c, hm.l, hm.fl, fun e' => by have := hm.fu e'; rw [e] at this; exact absurd this (by decide)⟩
  · refine .inl ⟨e2, ?_⟩
    rw [if_neg e]
    exact ⟨by show (s.dead || s.fuse == 0) = false; rw [hm.d, beq_eq_false_iff_ne.2 e]; rfl, rfl, rfl, hm.n, hm.q, hm.fl, e3, fun e' => e4 (hm.fu e')⟩

/-- 'put', told. -/
def PutTold (A : St) (f : Nat) (b : List UInt8) (r : Int × St) : Prop :=
  (r.1 = 0 ∧ Thru A f b r.2) ∨ (r.1 = 50 ∧ ∃ x cs, Died A f x cs r.2 ∧ (cs = [] ∨ cs = [cT f] ∨ cs = [cT f, rTI] ∧ x = (b, b.length)))
theorem put_told {A : St} (h : Calm A) (f : Nat) (b : List UInt8) (hb : b.length ≤ 100000) : PutTold A f b (putR A b f) := by
  have n50 : (50 : Int) ≠ 0 := by decide
  rcases step1 h f with ⟨a1, a2⟩ | ⟨a1, a2⟩
  · have e1 : put2 A b f = (appendE (createS A nmT f) nmT b.length, appendS (createS A nmT f) nmT b) := by unfold put2; rw [if_pos (show (put1 A f).1 = 0 from a1)]; rfl
    rcases step2 h a2 b hb with ⟨b1, b2⟩ | ⟨b1, b2⟩
    · have e2 : put3 A b f = (syncE (appendS (createS A nmT f) nmT b) nmT, syncS (appendS (createS A nmT f) nmT b) nmT) := by unfold put3; rw [e1, if_pos b1]
      rcases step3 h b2 with ⟨c1, c2⟩ | ⟨c1, c2⟩
      · have e3 : put4 A b f = (renameE (syncS (appendS (createS A nmT f) nmT b) nmT) nmT nmI, renameS (syncS (appendS (createS A nmT f) nmT b) nmT) nmT nmI) := by unfold put4; rw [e2, if_pos c1]
        rcases step4 h c2 with ⟨d1, d2⟩ | ⟨d1, d2⟩
        · have e4 : putR A b f = (syncNamesE (renameS (syncS (appendS (createS A nmT f) nmT b) nmT) nmT nmI), syncNamesS (renameS (syncS (appendS (createS A nmT f) nmT b) nmT) nmT nmI)) := by unfold putR; rw [e3, if_pos d1]
          rw [e4]
          rcases step5 d2 with ⟨g1, g2⟩ | ⟨g1, g2⟩
          · exact .inl ⟨g1, g2⟩
          · exact .inr ⟨g1, _, _, g2, .inr (.inr ⟨rfl, rfl⟩)⟩
        · have e4 : putR A b f = put4 A b f := by unfold putR; rw [e3, if_neg (by rw [d1]; exact n50)]
          rw [e4, e3]
          exact .inr ⟨d1, _, _, d2, .inr (.inl rfl)⟩
      · have e3 : put4 A b f = put3 A b f := by unfold put4; rw [e2, if_neg (by rw [c1]; exact n50)]
        have e4 : putR A b f = put3 A b f := by unfold putR; rw [e3, e2, if_neg (by rw [c1]; exact n50)]
        rw [e4, e2]
        exact .inr ⟨c1, _, _, c2, .inr (.inl rfl)⟩
    · have e2 : put3 A b f = put2 A b f := by unfold put3; rw [e1, if_neg (by rw [b1]; exact n50)]
      have e3 : put4 A b f = put2 A b f := by unfold put4; rw [e2, e1, if_neg (by rw [b1]; exact n50)]
      have e4 : putR A b f = put2 A b f := by unfold putR; rw [e3, e1, if_neg (by rw [b1]; exact n50)]
      rw [e4, e1]
      exact .inr ⟨b1, _, _, b2, .inr (.inl rfl)⟩
  · have e1 : put2 A b f = put1 A f := by unfold put2; rw [if_neg (by show createE A nmT ≠ 0; rw [a1]; exact n50)]
    have e2 : put3 A b f = put1 A f := by unfold put3; rw [e1, if_neg (by show createE A nmT ≠ 0; rw [a1]; exact n50)]
    have e3 : put4 A b f = put1 A f := by unfold put4; rw [e2, if_neg (by show createE A nmT ≠ 0; rw [a1]; exact n50)]
    have e4 : putR A b f = put1 A f := by unfold putR; rw [e3, if_neg (by show createE A nmT ≠ 0; rw [a1]; exact n50)]
    rw [e4]
    exact .inr ⟨a1, _, _, a2, .inl rfl⟩

theorem replay_it {D : Dm} (hD : Tidy D) (f : Nat) : look (replay D [cT f]) nmI = look D nmI ∧ look (replay D [cT f, rTI]) nmI = f + 1 ∧ look (replay D [cT f, rTI]) nmT = 0 := by
  have h1 : look (replay D [cT f]) nmT = f + 1 := look_put_same hD.isMap nmT _
  refine ⟨look_put_other nmTI _, ?_, ?_⟩
  · show look (app (replay D [cT f]) rTI) nmI = f + 1
    show look (((replay D [cT f]).put (kl nmI) (.lit (.int .i64 (look (replay D [cT f]) nmT)))).del (kl nmT)) nmI = f + 1
    rw [look_del_other nmTI, look_put_same (replay_tidy hD _).isMap, h1]
  · show look (((replay D [cT f]).put (kl nmI) _).del (kl nmT)) nmT = 0
    exact look_del_same nmT

/-- A file that lasts whole is not cut. -/
theorem cut_whole (data : List Int) (i : Nat) (b : List UInt8) : cutFile data i (b, b.length) = (b, b.length) := by
  unfold cutFile
  have : b.take (b.length + keepN data i (b, b.length)) = b := List.take_of_length_le (by omega)
  rw [this]
theorem cutUpto_whole (data : List Int) (D : Dm) (L : List (List UInt8)) (s : St) (f : Nat) (b : List UInt8) (h : s.files f = (b, b.length)) : ∀ k, (cutUpto data D L s k).files f = (b, b.length)
  | 0 => h
  | k + 1 => by
    have ih := cutUpto_whole data D L s f b h k
    show (if f = _ then _ else (cutUpto data D L s k).files f) = _
    split
    · rename_i e
      show cutFile data k ((cutUpto data D L s k).files _) = _
      rw [← e, ih, cut_whole]
    · exact ih
/-- Behind a crash a name stands where it stood behind some beginning of the changes; a whole file is whole. -/
theorem crash_tells (s : St) (names : Int) (data : List Int) (nm : ByteArray) (hok : namedE false [nm] = 0) (f : Nat) (b : List UInt8)
    (h : ∃ N, N = (min (max names 0) (s.changes.length : Int)).toNat ∧ look (replay s.lasting (s.changes.take N)) nm = f + 1) (hf : s.files f = (b, b.length)) :
    ofE (crashS s names data) nm = 0 ∧ readL (crashS s names data) nm = b := by
  obtain ⟨N, hN, hl⟩ := h
  have hn : (crashS s names data).names = replay s.lasting (s.changes.take N) := by rw [hN]; exact (cutUpto_names data _ _ _ _).1
  have hE : ofE (crashS s names data) nm = 0 := by
    unfold ofE
    rw [show (crashS s names data).dead = false from rfl, hok, if_pos rfl, hn, hl]
    simp
  refine ⟨hE, ?_⟩
  unfold readL
  rw [if_pos hE, hn, hl, Nat.add_sub_cancel]
  have hfl : (crashS s names data).files f = (b, b.length) := by
    unfold crashS
    exact cutUpto_whole data _ _ { s with names := replay s.lasting (s.changes.take (min (max names 0) (s.changes.length : Int)).toNat) } f b hf _
  rw [hfl]

/-- The whole of it. -/
theorem renames_told {s0 s1 s2 : St} {old new : List UInt8} {f1 f2 : Nat} {k names : Int} {keep : List Int} (h0 : Calm s0) (hfu : s0.fuse = -1) (ho : old.length ≤ 100000) (hn : new.length ≤ 100000) (hsz : Maps.size s1.names ≤ 1)
    (hs1 : s1 = (putR s0 old f1).2) (hne : f2 ≠ f1) (hm0 : ∀ f, (s0.files f).1.length ≤ 100000) (hs2 : s2 = { s1 with fuse := max k (-1) }) :
    (putR s0 old f1).1 = 0 ∧ (ofE (crashS (putR s2 new f2).2 names keep) nmI = 0 ∧ (readL (crashS (putR s2 new f2).2 names keep) nmI = old ∨ readL (crashS (putR s2 new f2).2 names keep) nmI = new)) ∧
      ((putR s2 new f2).1 = 0 → readL (crashS (putR s2 new f2).2 names keep) nmI = new) := by
  have ht : (putR s0 old f1).1 = 0 ∧ Thru s0 f1 old (putR s0 old f1).2 := by
    rcases put_told h0 f1 old ho with h | ⟨_, _, _, hd, _⟩
    · exact h
    · exact absurd hfu hd.fu
  refine ⟨ht.1, ?_⟩
  have ht1 := ht.2
  rw [← hs1] at ht1
  obtain ⟨r1, r2, r3⟩ := replay_it h0.td f1
  have hc2 : Calm s2 := by
    rw [hs2]
    refine ⟨ht1.d, ht1.c, ht1.l, ?_, ?_, hsz, ht1.q, fun f => ?_, by show -1 ≤ max k (-1); omega⟩
    · show look s1.names nmT = 0; rw [ht1.n]; exact r3
    · show Tidy s1.names; rw [ht1.n]; exact replay_tidy h0.td _
    · show (s1.files f).1.length ≤ 100000
      rw [ht1.fl]
      split
      · exact ho
      · exact hm0 f
  have hit : look s2.names nmI = f1 + 1 := by rw [hs2]; show look s1.names nmI = _; rw [ht1.n]; exact r2
  have hf1 : s2.files f1 = (old, old.length) := by rw [hs2]; show s1.files f1 = _; rw [ht1.fl, if_pos rfl]
  obtain ⟨q1, q2, q3⟩ := replay_it hc2.td f2
  rcases put_told hc2 f2 new hn with ⟨e, hT⟩ | ⟨e, x, cs, hd, hcs⟩
  · have hl : look (putR s2 new f2).2.lasting nmI = f2 + 1 := by rw [hT.l, hT.n]; exact q2
    have hc := crash_tells (putR s2 new f2).2 names keep nmI namedI f2 new ⟨_, rfl, by rw [hT.c, List.take_nil]; exact hl⟩ (by rw [hT.fl, if_pos rfl])
    exact ⟨⟨hc.1, .inr hc.2⟩, fun _ => hc.2⟩
  · refine ⟨?_, fun h => by rw [e] at h; exact absurd h (by decide)⟩
    have hw1 : (putR s2 new f2).2.files f1 = (old, old.length) := by rw [hd.fl, if_neg (Ne.symm hne), hf1]
    have old_ : ∀ N, look (replay s2.names (cs.take N)) nmI = f1 + 1 → N = (min (max names 0) ((putR s2 new f2).2.changes.length : Int)).toNat →
        ofE (crashS (putR s2 new f2).2 names keep) nmI = 0 ∧ (readL (crashS (putR s2 new f2).2 names keep) nmI = old ∨ readL (crashS (putR s2 new f2).2 names keep) nmI = new) := by
      intro N hN hNe
      have hc := crash_tells (putR s2 new f2).2 names keep nmI namedI f1 old ⟨N, hNe, by rw [hd.c, hd.l]; exact hN⟩ hw1
      exact ⟨hc.1, .inl hc.2⟩
    obtain ⟨N, hN⟩ : ∃ N, N = (min (max names 0) ((putR s2 new f2).2.changes.length : Int)).toNat := ⟨_, rfl⟩
    rcases hcs with rfl | rfl | ⟨rfl, rfl⟩
    · exact old_ N (by rw [List.take_nil]; exact hit) hN
    · match N, hN with
      | 0, hN => exact old_ 0 hit hN
      | m + 1, hN => exact old_ (m + 1) (by rw [List.take_succ_cons, List.take_nil]; exact q1.trans hit) hN
    · match N, hN with
      | 0, hN => exact old_ 0 hit hN
      | 1, hN => exact old_ 1 (q1.trans hit) hN
      | m + 2, hN =>
        have hc := crash_tells (putR s2 new f2).2 names keep nmI namedI f2 new ⟨m + 2, hN, by rw [hd.c, hd.l, List.take_succ_cons, List.take_succ_cons, List.take_nil]; exact q2⟩ (by rw [hd.fl, if_pos rfl])
        exact ⟨hc.1, .inr hc.2⟩
end Go.Proofs.Ytijdgmbpkfmciaa.Fs
