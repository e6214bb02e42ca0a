/- Both file systems side by side: each call of a script leaves them alike. -/
import Derived.Test.YtijdgmbpkfmciaaMd
import Derived.Deep.RegionHeld3
import Derived.Test.YtijdgmbpkfmciaaOps
/- FsPlays: both file systems side by side. -/
namespace Go.Proofs.Ytijdgmbpkfmciaa.Fs
open Go.RowKit Go.Maps Go.ChangeMaps Go.WideMaps Go.Joins Go.Sort Go.WideShapes

structure DD (W0 : World) (g0 : Gh) (r0 : RG) (P n : Nat) (w0 W : World) (g : Gh) (s : St) (r : RG) (R : RS) : Prop where
  sys : Sys P n w0 W g s
  rep : RRep W r R
  rp : r.p = r0.p
  ap : ∀ b ∈ rfoot r, b ∉ foot g
  nw : ∀ b ∈ rfoot r, w0.heap.size ≤ b
  tn : Turn W0 W (foot g0 ++ rfoot r0)
  sg : ∀ b ∈ foot g, b ∈ foot g0 ∨ W0.heap.size ≤ b
  sr : ∀ b ∈ rfoot r, b ∈ rfoot r0 ∨ W0.heap.size ≤ b
  ids : ∀ f ∈ g0.ids, f ∈ g.ids
theorem DD.start {P n : Nat} {w0 W : World} {g : Gh} {s : St} {r : RG} {R : RS} (h1 : Sys P n w0 W g s) (h2 : RRep W r R) (h3 : ∀ b ∈ rfoot r, b ∉ foot g) (h4 : ∀ b ∈ rfoot r, w0.heap.size ≤ b) : DD W g r P n w0 W g s r R :=
  ⟨h1, h2, rfl, h3, h4, Turn.refl _ _, fun _ hb => .inl hb, fun _ hb => .inl hb, fun _ hf => hf⟩
theorem DD.mono {W0 : World} {g0 : Gh} {r0 : RG} {P n m : Nat} {w0 W : World} {g : Gh} {s : St} {r : RG} {R : RS} (h : DD W0 g0 r0 P n w0 W g s r R) (hn : n ≤ m) : DD W0 g0 r0 P m w0 W g s r R :=
  ⟨h.sys.mono hn, h.rep, h.rp, h.ap, h.nw, h.tn, h.sg, h.sr, h.ids⟩
theorem DD.impl {W0 : World} {g0 : Gh} {r0 : RG} {P n m : Nat} {w0 W W' : World} {g g' : Gh} {s s' : St} {r : RG} {R : RS} (h : DD W0 g0 r0 P n w0 W g s r R) (hN : Next P m w0 W W' g g' s') : DD W0 g0 r0 P m w0 W' g' s' r R := by
  have hz := h.tn.size
  refine ⟨hN.sys, h.rep.turn hN.turn (fun b hb => h.ap b hb), h.rp, fun b hb hm => ?_, h.nw, h.tn.trans hN.turn (fun b hb => (h.sg b hb).imp (fun x => List.mem_append.2 (.inl x)) id), fun b hb => ?_, h.sr, fun f hf => hN.ids f (h.ids f hf)⟩
  · rcases hN.sub b hm with e | e
    · exact h.ap b hb e
    · have := h.rep.lt b hb; omega
  · rcases hN.sub b hb with e | e
    · exact h.sg b e
    · exact .inr (Nat.le_trans hz e)
theorem DD.ref {W0 : World} {g0 : Gh} {r0 : RG} {P n : Nat} {w0 W W' : World} {g : Gh} {s : St} {r : RG} {R R' : RS} (h : DD W0 g0 r0 P n w0 W g s r R) (hL : RLeft W W' r R') : ∃ r', DD W0 g0 r0 P n w0 W' g s r' R' := by
  obtain ⟨r', h1, h2, h3, h4⟩ := hL
  have hz := h.tn.size
  refine ⟨r', h.sys.turn h3 (fun b hb => .inl ⟨⟨h.rep.lt b hb, h.ap b hb⟩, h.nw b hb⟩), h2, h1.trans h.rp, fun b hb hm => ?_, fun b hb => ?_, h.tn.trans h3 (fun b hb => (h.sr b hb).imp (fun x => List.mem_append.2 (.inr x)) id), h.sg, fun b hb => ?_, h.ids⟩
  · rcases h4 b hb with e | e
    · exact h.ap b e hm
    · have := h.sys.rep.lt b hm; omega
  · rcases h4 b hb with e | e
    · exact h.nw b e
    · exact Nat.le_trans h.sys.bel.size e
  · rcases h4 b hb with e | e
    · exact h.sr b e
    · exact .inr (Nat.le_trans hz e)
theorem DD.below {W0 : World} {g0 : Gh} {r0 : RG} {P n : Nat} {w0 W W' : World} {g : Gh} {s : St} {r : RG} {R : RS} (h : DD W0 g0 r0 P n w0 W g s r R) (hb : Below W.heap.size W W') : DD W0 g0 r0 P n w0 W' g s r R :=
  ⟨h.sys.below hb, h.rep.below hb, h.rp, h.ap, h.nw, h.tn.trans (Turn.of_below hb []) (fun b hb => by cases hb), h.sg, h.sr, h.ids⟩
/-- A block beside both. -/
theorem DD.kept {W0 : World} {g0 : Gh} {r0 : RG} {P n : Nat} {w0 W : World} {g : Gh} {s : St} {r : RG} {R : RS} (h : DD W0 g0 r0 P n w0 W g s r R) {b : Nat} (h1 : b < W0.heap.size) (h2 : b ∉ foot g0) (h3 : b ∉ rfoot r0) : W.heap[b]? = W0.heap[b]? :=
  h.tn.block b h1 fun hm => (List.mem_append.1 hm).elim h2 h3

/-- Both alike, and what is bounded. -/
structure Duo (P n : Nat) (w0 W : World) (g : Gh) (s : St) (r : RG) (R : RS) (T : Nat → Option Nat) : Prop where
  sys : Sys P n w0 W g s
  rep : RRep W r R
  ap : ∀ b ∈ rfoot r, b ∉ foot g
  nw : ∀ b ∈ rfoot r, w0.heap.size ≤ b
  sim : Sim g.ids T s R
  fl : R.files.length ≤ n
  fs : ∀ y ∈ R.files, y.2 ≤ y.1.size ∧ y.1.size ≤ 16777216
theorem sim_len {ids : List Nat} {T : Nat → Option Nat} {s : St} {R : RS} (h : Sim ids T s R) (kD : CK s.names) : R.now.length = Maps.size s.names := by
  have := likeR_keys h.nm kD
  rw [← keysOf_len kD.str, this]; simp
theorem Duo.rb {P n : Nat} {w0 W : World} {g : Gh} {s : St} {r : RG} {R : RS} {T : Nat → Option Nat} (h : Duo P n w0 W g s r R T) : RB R n where
  now := by rw [sim_len h.sim (ck_owns h.sys.rep.nm)]; exact h.sys.inv.size
  wait := by rw [h.sim.len]; exact h.sys.inv.cl
  files := h.fl
  f0 := by rw [h.sim.fu]; exact h.sys.inv.f0
  f1 := by rw [h.sim.fu]; exact h.sys.inv.f1
  ix := fun p hp => by
    obtain ⟨_, x, _, e⟩ := h.sim.nm.fwd p.1 p.2 hp
    obtain ⟨y, hy, _⟩ := h.sim.fl x p.2 e
    exact (List.getElem?_eq_some_iff.1 hy).1
theorem Duo.lasts {P n : Nat} {w0 W : World} {g : Gh} {s : St} {r : RG} {R : RS} {T : Nat → Option Nat} (h : Duo P n w0 W g s r R T) : R.lasts.length ≤ n := by
  have k := ck_owns h.sys.rep.ls
  have e := likeR_keys h.sim.ls k
  have : R.lasts.length = Maps.size s.lasting := by rw [← keysOf_len k.str, e]; simp
  rw [this]
  have := h.sys.inv.sz 0
  rwa [List.take_zero] at this
theorem Duo.wf {P n : Nat} {w0 W : World} {g : Gh} {s : St} {r : RG} {R : RS} {T : Nat → Option Nat} (h : Duo P n w0 W g s r R T) (hn : n ≤ 1000000) : ∀ c ∈ R.wait, -9223372036854775808 ≤ c.2.2 ∧ c.2.2 < 9223372036854775808 := by
  intro c hc
  obtain ⟨k, hk, rfl⟩ := List.getElem_of_mem hc
  have hk' : k < s.changes.length := by rw [← h.sim.len]; exact hk
  have hch := h.sim.ch k _ _ (List.getElem?_eq_getElem hk') (List.getElem?_eq_getElem hk)
  have hb : ∀ x i, T x = some i → (i : Int) < 9223372036854775808 := fun x i hx => by
    obtain ⟨y, hy, _⟩ := h.sim.fl x i hx
    have := (List.getElem?_eq_some_iff.1 hy).1
    have := h.fl
    omega
  generalize s.changes[k] = a at hch
  generalize R.wait[k] = b at hch ⊢
  cases a with
  | create nm f => obtain ⟨i, h1, rfl⟩ := hch; have := hb _ _ h1; exact ⟨by show _ ≤ (i : Int); omega, this⟩
  | rename a b => obtain ⟨_, _, x, i, _, h1, rfl⟩ := hch; have := hb _ _ h1; exact ⟨by show _ ≤ (i : Int); omega, this⟩
  | remove a => obtain rfl := hch; exact ⟨by show _ ≤ (-1 : Int); omega, by show (-1 : Int) < _; omega⟩
theorem Duo.fold {P n : Nat} {w0 W : World} {g : Gh} {s : St} {r : RG} {R : RS} {T : Nat → Option Nat} (h : Duo P n w0 W g s r R T) : ∀ k, ∀ p ∈ foldW R k, p.2 < R.files.length := fun k p hp => by
  obtain ⟨_, x, _, e⟩ := (likeR_replay h.sim h.sys.inv k).fwd p.1 p.2 hp
  obtain ⟨y, hy, _⟩ := h.sim.fl x p.2 e
  exact (List.getElem?_eq_some_iff.1 hy).1
theorem Duo.names {P n : Nat} {w0 W : World} {g : Gh} {s : St} {r : RG} {R : RS} {T : Nat → Option Nat} (h : Duo P n w0 W g s r R T) : ∀ x ∈ R.now, x.1.size ≤ 9223372036854775807 := fun p hp => by
  have h1 := (h.sim.nm.fwd p.1 p.2 hp).1
  have k := ck_owns h.sys.rep.nm
  obtain ⟨es, e, _, hk⟩ := k
  rw [e, has_eq, List.any_eq_true] at h1
  obtain ⟨q, hq, hs⟩ := h1
  obtain ⟨v, hv⟩ := hk q hq
  obtain ⟨y, _, e2, hy⟩ := string_of_keyOf Try.underlying9 hv
  have e3 : y = p.1 := kl_inj (e2.symm.trans (WideAt.sameKey_eq hs))
  rw [e3] at hy
  exact hy
/-- The files' bounds, where each file that turned is one that both have. -/
theorem fs_keep {ids' : List Nat} {T' : Nat → Option Nat} {s' : St} {R R' : RS} {n : Nat} (hfs : ∀ y ∈ R.files, y.2 ≤ y.1.size ∧ y.1.size ≤ 16777216) (h' : Sim ids' T' s' R') (hI : Inv s' ids' n)
    (hk : ∀ i y, R'.files[i]? = some y → (y ∈ R.files ∨ y = (noName, 0) ∨ ∃ x, T' x = some i)) : ∀ y ∈ R'.files, y.2 ≤ y.1.size ∧ y.1.size ≤ 16777216 := fun y hy => by
  obtain ⟨i, hi, rfl⟩ := List.getElem_of_mem hy
  rcases hk i _ (List.getElem?_eq_getElem hi) with e | e | ⟨x, e⟩
  · exact hfs _ e
  · rw [e]; exact ⟨Nat.zero_le _, Nat.zero_le _⟩
  · obtain ⟨z, h1, h2, h3⟩ := h'.fl x i e
    rw [List.getElem?_eq_getElem hi] at h1
    have h1 : R'.files[i] = z := by simpa using h1
    rw [h1, size_list, h2, h3]
    exact hI.fl x
/-- Both calls are done. -/
theorem Duo.of {W0 : World} {g0 : Gh} {r0 : RG} {P n : Nat} {w0 W : World} {g : Gh} {s : St} {r : RG} {R : RS} {T : Nat → Option Nat} (h : DD W0 g0 r0 P n w0 W g s r R) (hs : Sim g.ids T s R) (hl : R.files.length ≤ n) (hf : ∀ y ∈ R.files, y.2 ≤ y.1.size ∧ y.1.size ≤ 16777216) : Duo P n w0 W g s r R T :=
  ⟨h.sys, h.rep, h.ap, h.nw, hs, hl, hf⟩
/-- A call of both, in either order: what is done of it. -/
def Half2 (QI : Bool → Gh → St → Prop) (QR : Bool → RS → Prop) (W0 : World) (g0 : Gh) (r0 : RG) (P n : Nat) (w0 : World) (i c : Bool) (W : World) : Prop :=
  ∃ g s r R, QI i g s ∧ QR c R ∧ DD W0 g0 r0 P n w0 W g s r R
end Go.Proofs.Ytijdgmbpkfmciaa.Fs

/- FsPlays: a call of both, in either order. -/
namespace Go.Proofs.Ytijdgmbpkfmciaa.Fs
open Go.RowKit Go.Maps Go.ChangeMaps Go.WideMaps Go.Joins Go.Sort Go.WideShapes

def up (n : Nat) (i : Bool) : Nat := if i then n + 1 else n
def HF (QI : Bool → Gh → St → Prop) (QR : Bool → RS → Prop) (W0 : World) (g0 : Gh) (r0 : RG) (P n : Nat) (w0 : World) (i c : Bool) (W : World) : Prop :=
  ∃ g s r R, QI i g s ∧ QR c R ∧ DD W0 g0 r0 P (up n i) w0 W g s r R
variable {QI : Bool → Gh → St → Prop} {QR : Bool → RS → Prop} {W0 : World} {g0 : Gh} {r0 : RG} {P n : Nat} {w0 : World}
theorem half_i {fn : FuncId} {args : Array Value} {E : Value} (hQ : ∀ W g s r R, QI false g s → DD W0 g0 r0 P n w0 W g s r R → Calls Try.prog fn args W fun e w' => e = .returned E ∧ ∃ g' s', QI true g' s' ∧ Next P (n + 1) w0 W w' g g' s') :
    ∀ c W, HF QI QR W0 g0 r0 P n w0 false c W → Calls Try.prog fn args W fun e w' => e = .returned E ∧ HF QI QR W0 g0 r0 P n w0 true c w' := by
  rintro c W ⟨g, s, r, R, hq, hr, hd⟩
  refine (hQ W g s r R hq hd).mono ?_
  rintro e w' ⟨rfl, g', s', hq', hN⟩
  exact ⟨rfl, g', s', r, R, hq', hr, hd.impl hN⟩
theorem half_c {fn : FuncId} {args : Array Value} {E : Value} (hQ : ∀ W m g s r R, QR false R → DD W0 g0 r0 P m w0 W g s r R → Calls Try.prog fn args W fun e w' => e = .returned E ∧ ∃ R', QR true R' ∧ RLeft W w' r R') :
    ∀ i W, HF QI QR W0 g0 r0 P n w0 i false W → Calls Try.prog fn args W fun e w' => e = .returned E ∧ HF QI QR W0 g0 r0 P n w0 i true w' := by
  rintro i W ⟨g, s, r, R, hq, hr, hd⟩
  refine (hQ W _ g s r R hr hd).mono ?_
  rintro e w' ⟨rfl, R', hr', hL⟩
  obtain ⟨r', hd'⟩ := hd.ref hL
  exact ⟨rfl, g, s, r', R', hq, hr', hd'⟩
theorem half_kept {i c : Bool} {W : World} (h : HF QI QR W0 g0 r0 P n w0 i c W) {b : Nat} (h1 : b < W0.heap.size) (h2 : b ∉ foot g0) (h3 : b ∉ rfoot r0) : W.heap[b]? = W0.heap[b]? := by
  obtain ⟨g, s, r, R, _, _, hd⟩ := h
  exact hd.kept h1 h2 h3
theorem both_start {g : Gh} {s : St} {r : RG} {R : RS} {w1 : World} (hq : QI false g s) (hr : QR false R) (h1 : Sys P n w0 W0 g s) (h2 : RRep W0 r R) (h3 : ∀ b ∈ rfoot r, b ∉ foot g) (h4 : ∀ b ∈ rfoot r, w0.heap.size ≤ b) (hb : Below W0.heap.size W0 w1) : HF QI QR W0 g r P n w0 false false w1 :=
  ⟨g, s, r, R, hq, hr, (DD.start h1 h2 h3 h4).below hb⟩

/-- The plain kinds. -/
def QIs (g0 : Gh) (s s1 : St) (b : Bool) (g' : Gh) (s' : St) : Prop := s' = (if b then s1 else s) ∧ (b = false → g' = g0)
def QRs (R R1 : RS) (b : Bool) (R' : RS) : Prop := R' = if b then R1 else R
theorem qis_false {g0 g' : Gh} {s s1 s' : St} (h : QIs g0 s s1 false g' s') : g' = g0 ∧ s' = s := ⟨h.2 rfl, h.1⟩
/-- Both done: alike again. -/
theorem half_done {s s1 : St} {R R1 : RS} {T T' : Nat → Option Nat} {W : World} (h : HF (QIs g0 s s1) (QRs R R1) W0 g0 r0 P n w0 true true W) (hsim : Sim g0.ids T' s1 R1) (hfl : R1.files.length ≤ n + 1) (hfs : ∀ y ∈ R.files, y.2 ≤ y.1.size ∧ y.1.size ≤ 16777216)
    (hk : ∀ i y, R1.files[i]? = some y → (y ∈ R.files ∨ y = (noName, 0) ∨ ∃ x, T' x = some i)) : ∃ g' s' r' R' T', Duo P (n + 1) w0 W g' s' r' R' T' ∧ r'.p = r0.p := by
  obtain ⟨g, s', r, R', hq, hr, hd⟩ := h
  obtain rfl : s' = s1 := hq.1
  obtain rfl : R' = R1 := hr
  have hs := sim_ids hsim hd.ids
  exact ⟨g, s', r, R', T', Duo.of hd hs hfl (fs_keep hfs hs hd.sys.inv hk), hd.rp⟩
theorem keep_same {R R1 : RS} {T' : Nat → Option Nat} (h : R1.files = R.files) : ∀ i y, R1.files[i]? = some y → (y ∈ R.files ∨ y = (noName, 0) ∨ ∃ x, T' x = some i) := fun i y hy => .inl (by rw [← h]; exact List.mem_of_getElem? hy)
theorem keep_set {R R1 : RS} {T' : Nat → Option Nat} {j : Nat} {z : Pr} {x : Nat} (h : R1.files = R.files.set j z) (hx : T' x = some j) : ∀ i y, R1.files[i]? = some y → (y ∈ R.files ∨ y = (noName, 0) ∨ ∃ x, T' x = some i) := fun i y hy => by
  by_cases e : i = j
  · subst e; exact .inr (.inr ⟨x, hx⟩)
  · rw [h, List.getElem?_set_ne (fun e' => e e'.symm)] at hy
    exact .inl (List.mem_of_getElem? hy)

/-! ### Create -/
def QIc (g0 : Gh) (s : St) (a : ByteArray) (b : Bool) (g' : Gh) (s' : St) : Prop := if b then ∃ f, f ∉ g0.ids ∧ (namedE s.dead [a] = 0 ∧ look s.names a = 0 → f ∈ g'.ids) ∧ s' = createS s a f else g' = g0 ∧ s' = s
theorem half_done_c {s : St} {R : RS} {a : ByteArray} {T : Nat → Option Nat} {W : World} (h : HF (QIc g0 s a) (QRs R (rcreateS R a)) W0 g0 r0 P n w0 true true W) (hsim : Sim g0.ids T s R) (hI : Inv s g0.ids n) (hfl : R.files.length ≤ n) (hfs : ∀ y ∈ R.files, y.2 ≤ y.1.size ∧ y.1.size ≤ 16777216) :
    ∃ g' s' r' R' T', Duo P (n + 1) w0 W g' s' r' R' T' ∧ r'.p = r0.p := by
  obtain ⟨g, s', r, R', hq, hr, hd⟩ := h
  obtain ⟨f, h1, h2, rfl⟩ := hq
  obtain rfl : R' = rcreateS R a := hr
  obtain ⟨-, T', hs⟩ := sim_create hsim hI a h1 hd.ids h2
  have hfe : (rcreateS R a).files = R.files ∨ (rcreateS R a).files = R.files ++ [(noName, 0)] := by
    unfold rcreateS
    split
    · split
      · exact .inl rfl
      · exact .inr rfl
    · exact .inl rfl
  refine ⟨g, _, r, _, T', Duo.of hd hs ?_ (fs_keep hfs hs hd.sys.inv fun i y hy => ?_), hd.rp⟩
  · rcases hfe with e | e <;> rw [e]
    · exact Nat.le_succ_of_le hfl
    · rw [List.length_append]; exact Nat.succ_le_succ hfl
  · rcases hfe with e | e
    · exact .inl (by rw [← e]; exact List.mem_of_getElem? hy)
    · rw [e] at hy
      rcases List.mem_append.1 (List.mem_of_getElem? hy) with e2 | e2
      · exact .inl e2
      · exact .inr (.inl (List.mem_singleton.1 e2))
theorem both_create (s : St) (R : RS) (a : ByteArray) (ha : a.size ≤ maxLen) {T : Nat → Option Nat} (hsim : Sim g0.ids T s R) (hI : Inv s g0.ids n) (hB : RB R n) (hn : n ≤ 999000) :
    (∀ c W, HF (QIc g0 s a) (QRs R (rcreateS R a)) W0 g0 r0 P n w0 false c W → Calls Try.prog 10 #[.pointer (some ⟨P, 0, none⟩), .string a] W fun e w' => e = .returned (.int .i64 (createE s a)) ∧ HF (QIc g0 s a) (QRs R (rcreateS R a)) W0 g0 r0 P n w0 true c w') ∧
    (∀ i W, HF (QIc g0 s a) (QRs R (rcreateS R a)) W0 g0 r0 P n w0 i false W → Calls Try.prog 43 #[.pointer (some ⟨r0.p, 0, none⟩), .string a] W fun e w' => e = .returned (.int .i64 (createE s a)) ∧ HF (QIc g0 s a) (QRs R (rcreateS R a)) W0 g0 r0 P n w0 i true w') := by
  refine ⟨half_i fun W g s' r R' hq hd => ?_, half_c fun W m g s' r R' hr hd => ?_⟩
  · obtain ⟨rfl, rfl⟩ := hq
    refine (sys_create hd.sys (by omega) a ha).mono ?_
    rintro e w' ⟨rfl, f, g', h1, h2, hN⟩
    exact ⟨rfl, g', _, ⟨f, h1, fun hc => by rw [if_pos hc] at h2; exact h2, rfl⟩, hN⟩
  · obtain rfl : R' = R := hr
    have := rcreate_any r R' a W hd.rep (by unfold maxLen at ha; exact ha) hB hn
    rw [hd.rp, (sim_create hsim hI a (f := g0.ids.foldr max 0 + 1) (fun hm => by
      have key : ∀ (l : List Nat) x, x ∈ l → x ≤ l.foldr max 0 := fun l => by
        induction l with
        | nil => intro x hx; cases hx
        | cons y l ih =>
          intro x hx
          rcases List.mem_cons.1 hx with rfl | hx
          · simp only [List.foldr_cons]; omega
          · have := ih x hx; simp only [List.foldr_cons]; omega
      have := key _ _ hm; omega) (ids' := (g0.ids.foldr max 0 + 1) :: g0.ids) (fun x hx => List.mem_cons_of_mem _ hx) (fun _ => List.mem_cons_self)).1] at this
    exact this.mono fun e w' ⟨h1, h2⟩ => ⟨h1, _, rfl, h2⟩
theorem both_remove (s : St) (R : RS) (a : ByteArray) (ha : a.size ≤ maxLen) {T : Nat → Option Nat} (hsim : Sim g0.ids T s R) (hI : Inv s g0.ids n) (hB : RB R n) (hn : n ≤ 999000) :
    (∀ c W, HF (QIs g0 s (removeS s a)) (QRs R (rremoveS R a)) W0 g0 r0 P n w0 false c W → Calls Try.prog 18 #[.pointer (some ⟨P, 0, none⟩), .string a] W fun e w' => e = .returned (.int .i64 (removeE s a)) ∧ HF (QIs g0 s (removeS s a)) (QRs R (rremoveS R a)) W0 g0 r0 P n w0 true c w') ∧
    (∀ i W, HF (QIs g0 s (removeS s a)) (QRs R (rremoveS R a)) W0 g0 r0 P n w0 i false W → Calls Try.prog 48 #[.pointer (some ⟨r0.p, 0, none⟩), .string a] W fun e w' => e = .returned (.int .i64 (removeE s a)) ∧ HF (QIs g0 s (removeS s a)) (QRs R (rremoveS R a)) W0 g0 r0 P n w0 i true w') := by
  refine ⟨half_i fun W g s' r R' hq hd => ?_, half_c fun W m g s' r R' hr hd => ?_⟩
  · obtain ⟨rfl, rfl⟩ := qis_false hq
    refine (sys_remove hd.sys (by omega) a ha).mono ?_
    rintro e w' ⟨rfl, g', hN⟩
    exact ⟨rfl, g', _, ⟨rfl, fun hf => by cases hf⟩, hN⟩
  · obtain rfl : R' = R := hr
    have := rremove_any r R' a W hd.rep (by unfold maxLen at ha; exact ha) hB hn
    rw [hd.rp, (sim_remove hsim hI a).1] at this
    exact this.mono fun e w' ⟨h1, h2⟩ => ⟨h1, _, rfl, h2⟩
theorem both_rename (s : St) (R : RS) (a b : ByteArray) (ha : a.size ≤ maxLen) (hb : b.size ≤ maxLen) {T : Nat → Option Nat} (hsim : Sim g0.ids T s R) (hI : Inv s g0.ids n) (hB : RB R n) (hn : n ≤ 999000) :
    (∀ c W, HF (QIs g0 s (renameS s a b)) (QRs R (rrenameS R a b)) W0 g0 r0 P n w0 false c W → Calls Try.prog 17 #[.pointer (some ⟨P, 0, none⟩), .string a, .string b] W fun e w' => e = .returned (.int .i64 (renameE s a b)) ∧ HF (QIs g0 s (renameS s a b)) (QRs R (rrenameS R a b)) W0 g0 r0 P n w0 true c w') ∧
    (∀ i W, HF (QIs g0 s (renameS s a b)) (QRs R (rrenameS R a b)) W0 g0 r0 P n w0 i false W → Calls Try.prog 47 #[.pointer (some ⟨r0.p, 0, none⟩), .string a, .string b] W fun e w' => e = .returned (.int .i64 (renameE s a b)) ∧ HF (QIs g0 s (renameS s a b)) (QRs R (rrenameS R a b)) W0 g0 r0 P n w0 i true w') := by
  refine ⟨half_i fun W g s' r R' hq hd => ?_, half_c fun W m g s' r R' hr hd => ?_⟩
  · obtain ⟨rfl, rfl⟩ := qis_false hq
    refine (sys_rename hd.sys (by omega) a b ha hb).mono ?_
    rintro e w' ⟨rfl, g', hN⟩
    exact ⟨rfl, g', _, ⟨rfl, fun hf => by cases hf⟩, hN⟩
  · obtain rfl : R' = R := hr
    have := rrename_any r R' a b W hd.rep (by unfold maxLen at ha; exact ha) (by unfold maxLen at hb; exact hb) hB hn
    rw [hd.rp, (sim_rename hsim hI a b).1] at this
    exact this.mono fun e w' ⟨h1, h2⟩ => ⟨h1, _, rfl, h2⟩
theorem both_sync (s : St) (R : RS) (a : ByteArray) (ha : a.size ≤ maxLen) {T : Nat → Option Nat} (hsim : Sim g0.ids T s R) (hI : Inv s g0.ids n) (hB : RB R n) (hn : n ≤ 999000) (hfs : ∀ y ∈ R.files, y.2 ≤ y.1.size ∧ y.1.size ≤ 16777216) :
    (∀ c W, HF (QIs g0 s (syncS s a)) (QRs R (rsyncS R a)) W0 g0 r0 P n w0 false c W → Calls Try.prog 20 #[.pointer (some ⟨P, 0, none⟩), .string a] W fun e w' => e = .returned (.int .i64 (syncE s a)) ∧ HF (QIs g0 s (syncS s a)) (QRs R (rsyncS R a)) W0 g0 r0 P n w0 true c w') ∧
    (∀ i W, HF (QIs g0 s (syncS s a)) (QRs R (rsyncS R a)) W0 g0 r0 P n w0 i false W → Calls Try.prog 46 #[.pointer (some ⟨r0.p, 0, none⟩), .string a] W fun e w' => e = .returned (.int .i64 (syncE s a)) ∧ HF (QIs g0 s (syncS s a)) (QRs R (rsyncS R a)) W0 g0 r0 P n w0 i true w') := by
  refine ⟨half_i fun W g s' r R' hq hd => ?_, half_c fun W m g s' r R' hr hd => ?_⟩
  · obtain ⟨rfl, rfl⟩ := qis_false hq
    refine (sys_sync hd.sys a ha).mono ?_
    rintro e w' ⟨rfl, g', hN⟩
    exact ⟨rfl, g', _, ⟨rfl, fun hf => by cases hf⟩, hN.mono (Nat.le_succ n)⟩
  · obtain rfl : R' = R := hr
    have := rsync_any r R' a W hd.rep (by unfold maxLen at ha; exact ha) hB hn (fun y hy => (hfs y hy).2)
    rw [hd.rp, (sim_sync hsim a).1] at this
    exact this.mono fun e w' ⟨h1, h2⟩ => ⟨h1, _, rfl, h2⟩
theorem both_syncNames (s : St) (R : RS) {T : Nat → Option Nat} (hsim : Sim g0.ids T s R) (hI : Inv s g0.ids n) (hB : RB R n) (hn : n ≤ 999000) :
    (∀ c W, HF (QIs g0 s (syncNamesS s)) (QRs R (rsyncNamesS R)) W0 g0 r0 P n w0 false c W → Calls Try.prog 21 #[.pointer (some ⟨P, 0, none⟩)] W fun e w' => e = .returned (.int .i64 (syncNamesE s)) ∧ HF (QIs g0 s (syncNamesS s)) (QRs R (rsyncNamesS R)) W0 g0 r0 P n w0 true c w') ∧
    (∀ i W, HF (QIs g0 s (syncNamesS s)) (QRs R (rsyncNamesS R)) W0 g0 r0 P n w0 i false W → Calls Try.prog 49 #[.pointer (some ⟨r0.p, 0, none⟩)] W fun e w' => e = .returned (.int .i64 (syncNamesE s)) ∧ HF (QIs g0 s (syncNamesS s)) (QRs R (rsyncNamesS R)) W0 g0 r0 P n w0 i true w') := by
  refine ⟨half_i fun W g s' r R' hq hd => ?_, half_c fun W m g s' r R' hr hd => ?_⟩
  · obtain ⟨rfl, rfl⟩ := qis_false hq
    refine (sys_syncNames hd.sys).mono ?_
    rintro e w' ⟨rfl, g', hN⟩
    exact ⟨rfl, g', _, ⟨rfl, fun hf => by cases hf⟩, hN.mono (Nat.le_succ n)⟩
  · obtain rfl : R' = R := hr
    have := rsyncNames_any r R' W hd.rep hB.f0 hB.f1
    rw [hd.rp, (sim_syncNames hsim).1] at this
    exact this.mono fun e w' ⟨h1, h2⟩ => ⟨h1, _, rfl, h2⟩
end Go.Proofs.Ytijdgmbpkfmciaa.Fs

/- FsPlays: 'do' walked. -/
namespace Go.Proofs.Ytijdgmbpkfmciaa.Fs
open Go.RowKit Go.Maps Go.ChangeMaps Go.WideMaps Go.Joins Go.Sort Go.WideShapes

def DoPost (P n : Nat) (w0 w : World) (g : Gh) (r : RG) (e : Ending) (w' : World) : Prop := e = .returned (.bool true) ∧ (∃ g' s' r' R' T', Duo P (n + 1) w0 w' g' s' r' R' T' ∧ r'.p = r.p) ∧ ∀ b, b < w.heap.size → b ∉ foot g → b ∉ rfoot r → w'.heap[b]? = w.heap[b]?
theorem kept_box {w W : World} {ob : Obj} {g : Gh} {r : RG} (h : ∀ b, b < (w.alloc ob).heap.size → b ∉ foot g → b ∉ rfoot r → W.heap[b]? = (w.alloc ob).heap[b]?) : ∀ b, b < w.heap.size → b ∉ foot g → b ∉ rfoot r → W.heap[b]? = w.heap[b]? :=
  fun b hb h1 h2 => (h b (by simp; omega) h1 h2).trans (Below.heap_alloc _ _ _ hb)
theorem files_burned (R : RS) : (rburned R).files = R.files := rfl
theorem files_rename (R : RS) (a b : ByteArray) : (rrenameS R a b).files = R.files := by
  unfold rrenameS; split <;> first | rfl | (split <;> first | rfl | (split <;> first | rfl | (split <;> rfl)))
theorem files_remove (R : RS) (a : ByteArray) : (rremoveS R a).files = R.files := by
  unfold rremoveS; split <;> first | rfl | (split <;> rfl)
theorem files_syncNames (R : RS) : (rsyncNamesS R).files = R.files := by
  unfold rsyncNamesS; split <;> first | rfl | (split <;> rfl)
theorem keep_sync {ids : List Nat} {T : Nat → Option Nat} {s : St} {R : RS} {a : ByteArray} (h : Sim ids T s R) : ∀ i y, (rsyncS R a).files[i]? = some y → (y ∈ R.files ∨ y = (noName, 0) ∨ ∃ x, T x = some i) := by
  unfold rsyncS
  by_cases hz : rofE R a = 0
  · rw [if_pos hz]
    by_cases hf : R.fuse = 0
    · rw [if_pos hf]; exact keep_same rfl
    · rw [if_neg hf]
      obtain ⟨x, i, _, h2, h3, _⟩ := sim_there h (nm := a) (by rw [← sim_of h]; exact hz)
      refine keep_set (j := i) (x := x) (z := ((rfile R a).1, (rfile R a).1.size)) ?_ h2
      show R.files.set (findR R.now a).toNat _ = _
      rw [h3]; rfl
  · rw [if_neg hz]; exact keep_same rfl
theorem keep_sync_len {R : RS} {a : ByteArray} {n : Nat} (h : R.files.length ≤ n) : (rsyncS R a).files.length ≤ n + 1 := by
  have : (rsyncS R a).files.length = R.files.length := by
    unfold rsyncS; split <;> first | rfl | (split <;> first | rfl | exact List.length_set)
  omega
theorem keep_append {ids : List Nat} {T : Nat → Option Nat} {s : St} {R : RS} {a b : ByteArray} (h : Sim ids T s R) : ∀ i y, (rappendS R a b).files[i]? = some y → (y ∈ R.files ∨ y = (noName, 0) ∨ ∃ x, T x = some i) := by
  unfold rappendS
  by_cases hz : rofE R a = 0
  · rw [if_pos hz]
    split
    · by_cases hf : R.fuse = 0
      · rw [if_pos hf]; exact keep_same rfl
      · rw [if_neg hf]
        obtain ⟨x, i, _, h2, h3, _⟩ := sim_there h (nm := a) (by rw [← sim_of h]; exact hz)
        refine keep_set (j := i) (x := x) (z := ((rfile R a).1 ++ b, (rfile R a).2)) ?_ h2
        show R.files.set (findR R.now a).toNat _ = _
        rw [h3]; rfl
    · exact keep_same rfl
  · rw [if_neg hz]; exact keep_same rfl
theorem keep_append_len {R : RS} {a b : ByteArray} {n : Nat} (h : R.files.length ≤ n) : (rappendS R a b).files.length ≤ n + 1 := by
  have : (rappendS R a b).files.length = R.files.length := by
    unfold rappendS; split <;> first | rfl | (split <;> first | rfl | (split <;> first | rfl | exact List.length_set))
  omega
/-- What a call's box holds. -/
def Bx (bx : Nat) (kind n : Int) (a b : ByteArray) (dv kv : Value) (w : World) : Prop := w.cell? ⟨bx, 0, none⟩ = some (.int .i64 kind) ∧ w.cell? ⟨bx, 1, none⟩ = some (.int .i64 n) ∧ w.cell? ⟨bx, 2, none⟩ = some (.string a) ∧ w.cell? ⟨bx, 3, none⟩ = some (.string b) ∧ w.cell? ⟨bx, 4, none⟩ = some dv ∧ w.cell? ⟨bx, 5, none⟩ = some kv
theorem bx_of {W0 W : World} {bx : Nat} {kind n : Int} {a b : ByteArray} {dv kv : Value} (h : Bx bx kind n a b dv kv W0) (hb : W.heap[bx]? = W0.heap[bx]?) : Bx bx kind n a b dv kv W := by
  obtain ⟨h0, h1, h2, h3, h4, h5⟩ := h
  exact ⟨(World.cell?_of_block (a := ⟨bx, 0, none⟩) hb).trans h0, (World.cell?_of_block (a := ⟨bx, 1, none⟩) hb).trans h1, (World.cell?_of_block (a := ⟨bx, 2, none⟩) hb).trans h2, (World.cell?_of_block (a := ⟨bx, 3, none⟩) hb).trans h3, (World.cell?_of_block (a := ⟨bx, 4, none⟩) hb).trans h4, (World.cell?_of_block (a := ⟨bx, 5, none⟩) hb).trans h5⟩
theorem bx_new (w : World) (kind n : Int) (a b : ByteArray) (dv kv : Value) : Bx w.heap.size kind n a b dv kv (w.alloc (.cells #[.int .i64 kind, .int .i64 n, .string a, .string b, dv, kv] 39)) := by
  refine ⟨?_, ?_, ?_, ?_, ?_, ?_⟩ <;> simp [go_sem]

set_option maxHeartbeats 4000000 in
set_option maxRecDepth 100000 in
theorem do_create (P n : Nat) (w0 w : World) (g : Gh) (s : St) (r : RG) (R : RS) (T : Nat → Option Nat) (h : Duo P n w0 w g s r R T) (hn : n ≤ 99000) (o : OpV) (ho : OpAt w0 o) (hk : o.kind = 0) :
    Calls Try.prog 28 #[.pointer (some ⟨P, 0, none⟩), .pointer (some ⟨r.p, 0, none⟩), .agg (opCells o).toArray] w (DoPost P n w0 w g r) := by
  obtain ⟨kind, on, a, b, dv, odata, kv, okeep⟩ := o
  obtain rfl : kind = 0 := hk
  have ha := ho.asz
  have hb := ho.bsz
  simp only at ha hb
  obtain ⟨oda, odc, e1⟩ := ho.data.slice
  rw [List.length_map] at e1
  obtain ⟨oka, okc, e2⟩ := ho.keep.slice
  rw [List.length_map] at e2
  simp only at e1 e2
  subst e1 e2
  have HO := Lib.hid ho
  have HB0 := Lib.hid (bx_new w 0 on a b (.slice oda odata.length odc) (.slice oka okeep.length okc))
  have hsys := h.sys.below ((Below.refl w.heap.size w).alloc (Nat.le_refl _) (.cells #[.int .i64 0, .int .i64 on, .string a, .string b, .slice oda odata.length odc, .slice oka okeep.length okc] 39))
  have hrep := h.rep.below ((Below.refl w.heap.size w).alloc (Nat.le_refl _) (.cells #[.int .i64 0, .int .i64 on, .string a, .string b, .slice oda odata.length odc, .slice oka okeep.length okc] 39))
  have hng : w.heap.size ∉ foot g := fun hm => by have := h.sys.rep.lt _ hm; omega
  have hnr : w.heap.size ∉ rfoot r := fun hm => by have := h.rep.lt _ hm; omega
  have HD := Lib.hid h
  have HW := Lib.hid hsys
  have HP := Lib.hid hrep
  clear ho hsys hrep h
  show Calls Try.prog 28 #[.pointer (some ⟨P, 0, none⟩), .pointer (some ⟨r.p, 0, none⟩), .agg #[.int .i64 0, .int .i64 on, .string a, .string b, .slice oda odata.length odc, .slice oka okeep.length okc]] w (DoPost P n w0 w g r)
  obtain ⟨ci, cr⟩ := both_create (g0 := g) (r0 := r) (P := P) (n := n) (w0 := w0) (W0 := (w.alloc (.cells #[.int .i64 0, .int .i64 on, .string a, .string b, .slice oda odata.length odc, .slice oka okeep.length okc] 39))) s R a ha HD.out.sim HD.out.sys.inv HD.out.rb (by omega)
  have h0 : HF (QIc g s a) (QRs R (rcreateS R a)) (w.alloc (.cells #[.int .i64 0, .int .i64 on, .string a, .string b, .slice oda odata.length odc, .slice oka okeep.length okc] 39)) g r P n w0 false false (w.alloc (.cells #[.int .i64 0, .int .i64 on, .string a, .string b, .slice oda odata.length odc, .slice oka okeep.length okc] 39)).drew := both_start ⟨rfl, rfl⟩ rfl HW.out HP.out HD.out.ap HD.out.nw ((Below.refl _ _).drew)
  have HKEEP : Hid (∀ i c W, HF (QIc g s a) (QRs R (rcreateS R a)) (w.alloc (.cells #[.int .i64 0, .int .i64 on, .string a, .string b, .slice oda odata.length odc, .slice oka okeep.length okc] 39)) g r P n w0 i c W → Bx w.heap.size 0 on a b (.slice oda odata.length odc) (.slice oka okeep.length okc) W) := Lib.hid fun i c W hh => bx_of HB0.out (half_kept hh (by simp) hng hnr)
  have CI := Lib.hid ci
  have CR := Lib.hid cr
  have HH0 := Lib.hid h0
  clear ci cr h0
  obtain ⟨b0, b1, b2, b3, b4, b5⟩ := HB0.out
  go_enter Try.func28, Try.ntmps28
  go_wp2_with fail
  have h0 := HH0.out
  clear b0 b1 b2 b3 b4 b5
  go_region_held3 (fun w' => w'.cell? ⟨w.heap.size, 2, none⟩ = some (.string a)) ((have hbx := HKEEP.out _ _ _ (by assumption); exact hbx.2.2.1)) (first | (go_at_call 10; refine (CI.out _ _ (by assumption)).mono ?_; rintro e W1 ⟨rfl, hh1⟩) | (go_at_call 43; refine (CR.out _ _ (by assumption)).mono ?_; rintro e W2 ⟨rfl, hh2⟩))
  all_goals
    have HE : Hid (HF _ _ _ _ _ _ _ _ true true _) := Lib.hid (by assumption)
    go_wp2_with fail
    go_ret
    exact ⟨rfl, half_done_c HE.out HD.out.sim HD.out.sys.inv HD.out.fl HD.out.fs, kept_box fun b x1 x2 x3 => half_kept HE.out x1 x2 x3⟩
set_option maxHeartbeats 4000000 in
set_option maxRecDepth 100000 in
theorem do_sync (P n : Nat) (w0 w : World) (g : Gh) (s : St) (r : RG) (R : RS) (T : Nat → Option Nat) (h : Duo P n w0 w g s r R T) (hn : n ≤ 99000) (o : OpV) (ho : OpAt w0 o) (hk : o.kind = 3) :
    Calls Try.prog 28 #[.pointer (some ⟨P, 0, none⟩), .pointer (some ⟨r.p, 0, none⟩), .agg (opCells o).toArray] w (DoPost P n w0 w g r) := by
  obtain ⟨kind, on, a, b, dv, odata, kv, okeep⟩ := o
  obtain rfl : kind = 3 := hk
  have ha := ho.asz
  have hb := ho.bsz
  simp only at ha hb
  obtain ⟨oda, odc, e1⟩ := ho.data.slice
  rw [List.length_map] at e1
  obtain ⟨oka, okc, e2⟩ := ho.keep.slice
  rw [List.length_map] at e2
  simp only at e1 e2
  subst e1 e2
  have HO := Lib.hid ho
  have HB0 := Lib.hid (bx_new w 3 on a b (.slice oda odata.length odc) (.slice oka okeep.length okc))
  have hsys := h.sys.below ((Below.refl w.heap.size w).alloc (Nat.le_refl _) (.cells #[.int .i64 3, .int .i64 on, .string a, .string b, .slice oda odata.length odc, .slice oka okeep.length okc] 39))
  have hrep := h.rep.below ((Below.refl w.heap.size w).alloc (Nat.le_refl _) (.cells #[.int .i64 3, .int .i64 on, .string a, .string b, .slice oda odata.length odc, .slice oka okeep.length okc] 39))
  have hng : w.heap.size ∉ foot g := fun hm => by have := h.sys.rep.lt _ hm; omega
  have hnr : w.heap.size ∉ rfoot r := fun hm => by have := h.rep.lt _ hm; omega
  have HD := Lib.hid h
  have HW := Lib.hid hsys
  have HP := Lib.hid hrep
  clear ho hsys hrep h
  show Calls Try.prog 28 #[.pointer (some ⟨P, 0, none⟩), .pointer (some ⟨r.p, 0, none⟩), .agg #[.int .i64 3, .int .i64 on, .string a, .string b, .slice oda odata.length odc, .slice oka okeep.length okc]] w (DoPost P n w0 w g r)
  obtain ⟨ci, cr⟩ := both_sync (g0 := g) (r0 := r) (P := P) (n := n) (w0 := w0) (W0 := (w.alloc (.cells #[.int .i64 3, .int .i64 on, .string a, .string b, .slice oda odata.length odc, .slice oka okeep.length okc] 39))) s R a ha HD.out.sim HD.out.sys.inv HD.out.rb (by omega) HD.out.fs
  have h0 : HF (QIs g s (syncS s a)) (QRs R (rsyncS R a)) (w.alloc (.cells #[.int .i64 3, .int .i64 on, .string a, .string b, .slice oda odata.length odc, .slice oka okeep.length okc] 39)) g r P n w0 false false (w.alloc (.cells #[.int .i64 3, .int .i64 on, .string a, .string b, .slice oda odata.length odc, .slice oka okeep.length okc] 39)).drew := both_start ⟨rfl, fun _ => rfl⟩ rfl HW.out HP.out HD.out.ap HD.out.nw ((Below.refl _ _).drew)
  have HKEEP : Hid (∀ i c W, HF (QIs g s (syncS s a)) (QRs R (rsyncS R a)) (w.alloc (.cells #[.int .i64 3, .int .i64 on, .string a, .string b, .slice oda odata.length odc, .slice oka okeep.length okc] 39)) g r P n w0 i c W → Bx w.heap.size 3 on a b (.slice oda odata.length odc) (.slice oka okeep.length okc) W) := Lib.hid fun i c W hh => bx_of HB0.out (half_kept hh (by simp) hng hnr)
  have CI := Lib.hid ci
  have CR := Lib.hid cr
  have HH0 := Lib.hid h0
  clear ci cr h0
  obtain ⟨b0, b1, b2, b3, b4, b5⟩ := HB0.out
  go_enter Try.func28, Try.ntmps28
  go_wp2_with fail
  have h0 := HH0.out
  clear b0 b1 b2 b3 b4 b5
  go_region_held3 (fun w' => w'.cell? ⟨w.heap.size, 2, none⟩ = some (.string a)) ((have hbx := HKEEP.out _ _ _ (by assumption); exact hbx.2.2.1)) (first | (go_at_call 20; refine (CI.out _ _ (by assumption)).mono ?_; rintro e W1 ⟨rfl, hh1⟩) | (go_at_call 46; refine (CR.out _ _ (by assumption)).mono ?_; rintro e W2 ⟨rfl, hh2⟩))
  all_goals
    have HE : Hid (HF _ _ _ _ _ _ _ _ true true _) := Lib.hid (by assumption)
    go_wp2_with fail
    go_ret
    exact ⟨rfl, half_done (T := T) HE.out (sim_sync HD.out.sim a).2 (keep_sync_len HD.out.fl) HD.out.fs (keep_sync HD.out.sim), kept_box fun b x1 x2 x3 => half_kept HE.out x1 x2 x3⟩
set_option maxHeartbeats 4000000 in
set_option maxRecDepth 100000 in
theorem do_rename (P n : Nat) (w0 w : World) (g : Gh) (s : St) (r : RG) (R : RS) (T : Nat → Option Nat) (h : Duo P n w0 w g s r R T) (hn : n ≤ 99000) (o : OpV) (ho : OpAt w0 o) (hk : o.kind = 4) :
    Calls Try.prog 28 #[.pointer (some ⟨P, 0, none⟩), .pointer (some ⟨r.p, 0, none⟩), .agg (opCells o).toArray] w (DoPost P n w0 w g r) := by
  obtain ⟨kind, on, a, b, dv, odata, kv, okeep⟩ := o
  obtain rfl : kind = 4 := hk
  have ha := ho.asz
  have hb := ho.bsz
  simp only at ha hb
  obtain ⟨oda, odc, e1⟩ := ho.data.slice
  rw [List.length_map] at e1
  obtain ⟨oka, okc, e2⟩ := ho.keep.slice
  rw [List.length_map] at e2
  simp only at e1 e2
  subst e1 e2
  have HO := Lib.hid ho
  have HB0 := Lib.hid (bx_new w 4 on a b (.slice oda odata.length odc) (.slice oka okeep.length okc))
  have hsys := h.sys.below ((Below.refl w.heap.size w).alloc (Nat.le_refl _) (.cells #[.int .i64 4, .int .i64 on, .string a, .string b, .slice oda odata.length odc, .slice oka okeep.length okc] 39))
  have hrep := h.rep.below ((Below.refl w.heap.size w).alloc (Nat.le_refl _) (.cells #[.int .i64 4, .int .i64 on, .string a, .string b, .slice oda odata.length odc, .slice oka okeep.length okc] 39))
  have hng : w.heap.size ∉ foot g := fun hm => by have := h.sys.rep.lt _ hm; omega
  have hnr : w.heap.size ∉ rfoot r := fun hm => by have := h.rep.lt _ hm; omega
  have HD := Lib.hid h
  have HW := Lib.hid hsys
  have HP := Lib.hid hrep
  clear ho hsys hrep h
  show Calls Try.prog 28 #[.pointer (some ⟨P, 0, none⟩), .pointer (some ⟨r.p, 0, none⟩), .agg #[.int .i64 4, .int .i64 on, .string a, .string b, .slice oda odata.length odc, .slice oka okeep.length okc]] w (DoPost P n w0 w g r)
  obtain ⟨ci, cr⟩ := both_rename (g0 := g) (r0 := r) (P := P) (n := n) (w0 := w0) (W0 := (w.alloc (.cells #[.int .i64 4, .int .i64 on, .string a, .string b, .slice oda odata.length odc, .slice oka okeep.length okc] 39))) s R a b ha hb HD.out.sim HD.out.sys.inv HD.out.rb (by omega)
  have h0 : HF (QIs g s (renameS s a b)) (QRs R (rrenameS R a b)) (w.alloc (.cells #[.int .i64 4, .int .i64 on, .string a, .string b, .slice oda odata.length odc, .slice oka okeep.length okc] 39)) g r P n w0 false false (w.alloc (.cells #[.int .i64 4, .int .i64 on, .string a, .string b, .slice oda odata.length odc, .slice oka okeep.length okc] 39)).drew := both_start ⟨rfl, fun _ => rfl⟩ rfl HW.out HP.out HD.out.ap HD.out.nw ((Below.refl _ _).drew)
  have HKEEP : Hid (∀ i c W, HF (QIs g s (renameS s a b)) (QRs R (rrenameS R a b)) (w.alloc (.cells #[.int .i64 4, .int .i64 on, .string a, .string b, .slice oda odata.length odc, .slice oka okeep.length okc] 39)) g r P n w0 i c W → Bx w.heap.size 4 on a b (.slice oda odata.length odc) (.slice oka okeep.length okc) W) := Lib.hid fun i c W hh => bx_of HB0.out (half_kept hh (by simp) hng hnr)
  have CI := Lib.hid ci
  have CR := Lib.hid cr
  have HH0 := Lib.hid h0
  clear ci cr h0
  obtain ⟨b0, b1, b2, b3, b4, b5⟩ := HB0.out
  go_enter Try.func28, Try.ntmps28
  go_wp2_with fail
  have h0 := HH0.out
  clear b0 b1 b2 b3 b4 b5
  go_region_held3 (fun w' => w'.cell? ⟨w.heap.size, 2, none⟩ = some (.string a) ∧ w'.cell? ⟨w.heap.size, 3, none⟩ = some (.string b)) ((have hbx := HKEEP.out _ _ _ (by assumption); exact ⟨hbx.2.2.1, hbx.2.2.2.1⟩)) (first | (go_at_call 17; refine (CI.out _ _ (by assumption)).mono ?_; rintro e W1 ⟨rfl, hh1⟩) | (go_at_call 47; refine (CR.out _ _ (by assumption)).mono ?_; rintro e W2 ⟨rfl, hh2⟩))
  all_goals
    have HE : Hid (HF _ _ _ _ _ _ _ _ true true _) := Lib.hid (by assumption)
    go_wp2_with fail
    go_ret
    exact ⟨rfl, half_done (T := T) HE.out (sim_rename HD.out.sim HD.out.sys.inv a b).2 (by rw [files_rename]; exact Nat.le_succ_of_le HD.out.fl) HD.out.fs (keep_same (files_rename _ _ _)), kept_box fun b x1 x2 x3 => half_kept HE.out x1 x2 x3⟩
set_option maxHeartbeats 4000000 in
set_option maxRecDepth 100000 in
theorem do_remove (P n : Nat) (w0 w : World) (g : Gh) (s : St) (r : RG) (R : RS) (T : Nat → Option Nat) (h : Duo P n w0 w g s r R T) (hn : n ≤ 99000) (o : OpV) (ho : OpAt w0 o) (hk : o.kind = 5) :
    Calls Try.prog 28 #[.pointer (some ⟨P, 0, none⟩), .pointer (some ⟨r.p, 0, none⟩), .agg (opCells o).toArray] w (DoPost P n w0 w g r) := by
  obtain ⟨kind, on, a, b, dv, odata, kv, okeep⟩ := o
  obtain rfl : kind = 5 := hk
  have ha := ho.asz
  have hb := ho.bsz
  simp only at ha hb
  obtain ⟨oda, odc, e1⟩ := ho.data.slice
  rw [List.length_map] at e1
  obtain ⟨oka, okc, e2⟩ := ho.keep.slice
  rw [List.length_map] at e2
  simp only at e1 e2
  subst e1 e2
  have HO := Lib.hid ho
  have HB0 := Lib.hid (bx_new w 5 on a b (.slice oda odata.length odc) (.slice oka okeep.length okc))
  have hsys := h.sys.below ((Below.refl w.heap.size w).alloc (Nat.le_refl _) (.cells #[.int .i64 5, .int .i64 on, .string a, .string b, .slice oda odata.length odc, .slice oka okeep.length okc] 39))
  have hrep := h.rep.below ((Below.refl w.heap.size w).alloc (Nat.le_refl _) (.cells #[.int .i64 5, .int .i64 on, .string a, .string b, .slice oda odata.length odc, .slice oka okeep.length okc] 39))
  have hng : w.heap.size ∉ foot g := fun hm => by have := h.sys.rep.lt _ hm; omega
  have hnr : w.heap.size ∉ rfoot r := fun hm => by have := h.rep.lt _ hm; omega
  have HD := Lib.hid h
  have HW := Lib.hid hsys
  have HP := Lib.hid hrep
  clear ho hsys hrep h
  show Calls Try.prog 28 #[.pointer (some ⟨P, 0, none⟩), .pointer (some ⟨r.p, 0, none⟩), .agg #[.int .i64 5, .int .i64 on, .string a, .string b, .slice oda odata.length odc, .slice oka okeep.length okc]] w (DoPost P n w0 w g r)
  obtain ⟨ci, cr⟩ := both_remove (g0 := g) (r0 := r) (P := P) (n := n) (w0 := w0) (W0 := (w.alloc (.cells #[.int .i64 5, .int .i64 on, .string a, .string b, .slice oda odata.length odc, .slice oka okeep.length okc] 39))) s R a ha HD.out.sim HD.out.sys.inv HD.out.rb (by omega)
  have h0 : HF (QIs g s (removeS s a)) (QRs R (rremoveS R a)) (w.alloc (.cells #[.int .i64 5, .int .i64 on, .string a, .string b, .slice oda odata.length odc, .slice oka okeep.length okc] 39)) g r P n w0 false false (w.alloc (.cells #[.int .i64 5, .int .i64 on, .string a, .string b, .slice oda odata.length odc, .slice oka okeep.length okc] 39)).drew := both_start ⟨rfl, fun _ => rfl⟩ rfl HW.out HP.out HD.out.ap HD.out.nw ((Below.refl _ _).drew)
  have HKEEP : Hid (∀ i c W, HF (QIs g s (removeS s a)) (QRs R (rremoveS R a)) (w.alloc (.cells #[.int .i64 5, .int .i64 on, .string a, .string b, .slice oda odata.length odc, .slice oka okeep.length okc] 39)) g r P n w0 i c W → Bx w.heap.size 5 on a b (.slice oda odata.length odc) (.slice oka okeep.length okc) W) := Lib.hid fun i c W hh => bx_of HB0.out (half_kept hh (by simp) hng hnr)
  have CI := Lib.hid ci
  have CR := Lib.hid cr
  have HH0 := Lib.hid h0
  clear ci cr h0
  obtain ⟨b0, b1, b2, b3, b4, b5⟩ := HB0.out
  go_enter Try.func28, Try.ntmps28
  go_wp2_with fail
  have h0 := HH0.out
  clear b0 b1 b2 b3 b4 b5
  go_region_held3 (fun w' => w'.cell? ⟨w.heap.size, 2, none⟩ = some (.string a)) ((have hbx := HKEEP.out _ _ _ (by assumption); exact hbx.2.2.1)) (first | (go_at_call 18; refine (CI.out _ _ (by assumption)).mono ?_; rintro e W1 ⟨rfl, hh1⟩) | (go_at_call 48; refine (CR.out _ _ (by assumption)).mono ?_; rintro e W2 ⟨rfl, hh2⟩))
  all_goals
    have HE : Hid (HF _ _ _ _ _ _ _ _ true true _) := Lib.hid (by assumption)
    go_wp2_with fail
    go_ret
    exact ⟨rfl, half_done (T := T) HE.out (sim_remove HD.out.sim HD.out.sys.inv a).2 (by rw [files_remove]; exact Nat.le_succ_of_le HD.out.fl) HD.out.fs (keep_same (files_remove _ _)), kept_box fun b x1 x2 x3 => half_kept HE.out x1 x2 x3⟩
set_option maxHeartbeats 4000000 in
set_option maxRecDepth 100000 in
theorem do_syncNames (P n : Nat) (w0 w : World) (g : Gh) (s : St) (r : RG) (R : RS) (T : Nat → Option Nat) (h : Duo P n w0 w g s r R T) (hn : n ≤ 99000) (o : OpV) (ho : OpAt w0 o) (hk : o.kind = 6) :
    Calls Try.prog 28 #[.pointer (some ⟨P, 0, none⟩), .pointer (some ⟨r.p, 0, none⟩), .agg (opCells o).toArray] w (DoPost P n w0 w g r) := by
  obtain ⟨kind, on, a, b, dv, odata, kv, okeep⟩ := o
  obtain rfl : kind = 6 := hk
  have ha := ho.asz
  have hb := ho.bsz
  simp only at ha hb
  obtain ⟨oda, odc, e1⟩ := ho.data.slice
  rw [List.length_map] at e1
  obtain ⟨oka, okc, e2⟩ := ho.keep.slice
  rw [List.length_map] at e2
  simp only at e1 e2
  subst e1 e2
  have HO := Lib.hid ho
  have HB0 := Lib.hid (bx_new w 6 on a b (.slice oda odata.length odc) (.slice oka okeep.length okc))
  have hsys := h.sys.below ((Below.refl w.heap.size w).alloc (Nat.le_refl _) (.cells #[.int .i64 6, .int .i64 on, .string a, .string b, .slice oda odata.length odc, .slice oka okeep.length okc] 39))
  have hrep := h.rep.below ((Below.refl w.heap.size w).alloc (Nat.le_refl _) (.cells #[.int .i64 6, .int .i64 on, .string a, .string b, .slice oda odata.length odc, .slice oka okeep.length okc] 39))
  have hng : w.heap.size ∉ foot g := fun hm => by have := h.sys.rep.lt _ hm; omega
  have hnr : w.heap.size ∉ rfoot r := fun hm => by have := h.rep.lt _ hm; omega
  have HD := Lib.hid h
  have HW := Lib.hid hsys
  have HP := Lib.hid hrep
  clear ho hsys hrep h
  show Calls Try.prog 28 #[.pointer (some ⟨P, 0, none⟩), .pointer (some ⟨r.p, 0, none⟩), .agg #[.int .i64 6, .int .i64 on, .string a, .string b, .slice oda odata.length odc, .slice oka okeep.length okc]] w (DoPost P n w0 w g r)
  obtain ⟨ci, cr⟩ := both_syncNames (g0 := g) (r0 := r) (P := P) (n := n) (w0 := w0) (W0 := (w.alloc (.cells #[.int .i64 6, .int .i64 on, .string a, .string b, .slice oda odata.length odc, .slice oka okeep.length okc] 39))) s R HD.out.sim HD.out.sys.inv HD.out.rb (by omega)
  have h0 : HF (QIs g s (syncNamesS s)) (QRs R (rsyncNamesS R)) (w.alloc (.cells #[.int .i64 6, .int .i64 on, .string a, .string b, .slice oda odata.length odc, .slice oka okeep.length okc] 39)) g r P n w0 false false (w.alloc (.cells #[.int .i64 6, .int .i64 on, .string a, .string b, .slice oda odata.length odc, .slice oka okeep.length okc] 39)) := both_start ⟨rfl, fun _ => rfl⟩ rfl HW.out HP.out HD.out.ap HD.out.nw (Below.refl _ _)
  have CI := Lib.hid ci
  have CR := Lib.hid cr
  have HH0 := Lib.hid h0
  clear ci cr h0
  obtain ⟨b0, b1, b2, b3, b4, b5⟩ := HB0.out
  go_enter Try.func28, Try.ntmps28
  go_wp2_with fail
  go_at_call 21
  refine (CI.out _ _ HH0.out).mono ?_
  rintro e W1 ⟨rfl, hh1⟩
  have HH1 := Lib.hid hh1
  clear hh1
  go_wp2_with fail
  go_at_call 49
  refine (CR.out _ _ HH1.out).mono ?_
  rintro e W2 ⟨rfl, hh2⟩
  have HE := Lib.hid hh2
  clear hh2
  go_wp2_with fail
  go_ret
  exact ⟨rfl, half_done (T := T) HE.out (sim_syncNames HD.out.sim).2 (by rw [files_syncNames]; exact Nat.le_succ_of_le HD.out.fl) HD.out.fs (keep_same (files_syncNames _)), kept_box fun b x1 x2 x3 => half_kept HE.out x1 x2 x3⟩
end Go.Proofs.Ytijdgmbpkfmciaa.Fs

/- FsPlays: 'do', the kinds without an answer. -/
namespace Go.Proofs.Ytijdgmbpkfmciaa.Fs
open Go.RowKit Go.Maps Go.ChangeMaps Go.WideMaps Go.Joins Go.Sort Go.WideShapes

theorem cutP_good (data : List Int) (i : Nat) (x : Pr) (hx : x.1.size ≤ 16777216) : (cutP data i x).2 ≤ (cutP data i x).1.size ∧ (cutP data i x).1.size ≤ 16777216 := by
  refine ⟨Nat.le_refl _, ?_⟩
  show (x.1.extract 0 _).size ≤ _
  rw [ByteArray.size_extract]
  omega
theorem cutR_good (data : List Int) (L fs : List Pr) (h : ∀ y ∈ fs, y.2 ≤ y.1.size ∧ y.1.size ≤ 16777216) : ∀ k, (cutR data L fs k).length = fs.length ∧ ∀ y ∈ cutR data L fs k, y.2 ≤ y.1.size ∧ y.1.size ≤ 16777216
  | 0 => ⟨rfl, h⟩
  | k + 1 => by
    obtain ⟨h1, h2⟩ := cutR_good data L fs h k
    refine ⟨by show (List.set _ _ _).length = _; rw [List.length_set, h1], fun y hy => ?_⟩
    rcases List.mem_or_eq_of_mem_set hy with e | e
    · exact h2 y e
    · subst e
      refine cutP_good _ _ _ ?_
      by_cases hl : (L.getD k (noName, 0)).2 < (cutR data L fs k).length
      · rw [List.getD_eq_getElem?_getD, List.getElem?_eq_getElem hl]; exact (h2 _ (List.getElem_mem hl)).2
      · rw [List.getD_eq_getElem?_getD, List.getElem?_eq_none (by omega)]; exact Nat.zero_le _
theorem duo_end {W0 : World} {g0 : Gh} {r0 : RG} {P n : Nat} {w0 W : World} {g : Gh} {s s1 : St} {r : RG} {R R1 : RS} {T : Nat → Option Nat} (h : DD W0 g0 r0 P n w0 W g s1 r R1) (hs : Sim g0.ids T s1 R1) (hl : R1.files.length ≤ n) (hf : ∀ y ∈ R1.files, y.2 ≤ y.1.size ∧ y.1.size ≤ 16777216) :
    ∃ g' s' r' R' T', Duo P (n + 1) w0 W g' s' r' R' T' ∧ r'.p = r0.p :=
  ⟨g, s1, r, R1, T, Duo.of (h.mono (Nat.le_succ n)) (sim_ids hs h.ids) (Nat.le_succ_of_le hl) hf, h.rp⟩

set_option maxHeartbeats 4000000 in
set_option maxRecDepth 100000 in
theorem do_crash (P n : Nat) (w0 w : World) (g : Gh) (s : St) (r : RG) (R : RS) (T : Nat → Option Nat) (h : Duo P n w0 w g s r R T) (hn : n ≤ 99000) (o : OpV) (ho : OpAt w0 o) (hk : o.kind = 7) :
    Calls Try.prog 28 #[.pointer (some ⟨P, 0, none⟩), .pointer (some ⟨r.p, 0, none⟩), .agg (opCells o).toArray] w (DoPost P n w0 w g r) := by
  obtain ⟨kind, on, a, b, dv, odata, kv, okeep⟩ := o
  obtain rfl : kind = 7 := hk
  have ha := ho.asz
  have hb := ho.bsz
  simp only at ha hb
  obtain ⟨oda, odc, e1⟩ := ho.data.slice
  rw [List.length_map] at e1
  obtain ⟨oka, okc, e2⟩ := ho.keep.slice
  rw [List.length_map] at e2
  simp only at e1 e2
  subst e1 e2
  have HO := Lib.hid ho
  have HB0 := Lib.hid (bx_new w 7 on a b (.slice oda odata.length odc) (.slice oka okeep.length okc))
  have hsys := h.sys.below ((Below.refl w.heap.size w).alloc (Nat.le_refl _) (.cells #[.int .i64 7, .int .i64 on, .string a, .string b, .slice oda odata.length odc, .slice oka okeep.length okc] 39))
  have hrep := h.rep.below ((Below.refl w.heap.size w).alloc (Nat.le_refl _) (.cells #[.int .i64 7, .int .i64 on, .string a, .string b, .slice oda odata.length odc, .slice oka okeep.length okc] 39))
  have hng : w.heap.size ∉ foot g := fun hm => by have := h.sys.rep.lt _ hm; omega
  have hnr : w.heap.size ∉ rfoot r := fun hm => by have := h.rep.lt _ hm; omega
  have HD := Lib.hid h
  have HW := Lib.hid hsys
  have HP := Lib.hid hrep
  clear ho hsys hrep h
  show Calls Try.prog 28 #[.pointer (some ⟨P, 0, none⟩), .pointer (some ⟨r.p, 0, none⟩), .agg #[.int .i64 7, .int .i64 on, .string a, .string b, .slice oda odata.length odc, .slice oka okeep.length okc]] w (DoPost P n w0 w g r)
  have HDD0 := Lib.hid (DD.start HW.out HP.out HD.out.ap HD.out.nw)
  have HOW := Lib.hid (HO.out.below (HW.out.bel))
  have hodl := HO.out.dlen
  have hokl := HO.out.klen
  have honin := HO.out.nin
  simp only at hodl hokl honin
  have FK := Lib.hid (show okeep ≠ [] → ∀ q ∈ blkOf (.slice oka okeep.length okc), q < w0.heap.size from fun hx q hq => HO.out.keep.lt (fun e => hx (List.map_eq_nil_iff.1 e)) q hq)
  have C := Lib.hid (sys_crash HW.out (by omega) on (.slice oka okeep.length okc) okeep HOW.out.keep (fun hx q hq => HW.out.free_old (FK.out hx q hq)) hokl)
  obtain ⟨b0, b1, b2, b3, b4, b5⟩ := HB0.out
  go_enter Try.func28, Try.ntmps28
  go_wp2_with fail
  go_at_call 12
  refine C.out.mono ?_
  rintro e W1 ⟨rfl, g1, hN⟩
  have HD1 := Lib.hid (HDD0.out.impl hN)
  have HB1 := Lib.hid (bx_of HB0.out (HD1.out.kept (by simp) hng hnr))
  clear hN C b0 b1 b2 b3 b4 b5
  have HOW1 := Lib.hid (HO.out.below (HD1.out.sys.bel))
  have C := Lib.hid (rcrash_any r R on (.slice oka okeep.length okc) okeep W1 HD1.out.rep HD.out.rb (by omega) HD.out.lasts (HD.out.wf (by omega)) HD.out.fold HD.out.fs HOW1.out.keep (fun hx q hq hm => by have := FK.out hx q hq; have := HD.out.nw q hm; omega) hokl)
  obtain ⟨b0, b1, b2, b3, b4, b5⟩ := HB1.out
  go_wp2_with fail
  go_at_call 50
  refine C.out.mono ?_
  rintro e W2 ⟨rfl, hL⟩
  obtain ⟨r2, hd2⟩ := HD1.out.ref hL
  have HD2 := Lib.hid hd2
  clear hL hd2 C b0 b1 b2 b3 b4 b5
  go_wp2_with fail
  go_ret
  have hg := cutR_good okeep ((R.wait.take (min (max on 0) (R.wait.length : Int)).toNat).foldl applyW R.lasts) R.files HD.out.fs ((R.wait.take (min (max on 0) (R.wait.length : Int)).toNat).foldl applyW R.lasts).length
  exact ⟨rfl, duo_end (s := s) (R := R) HD2.out (sim_crash HD.out.sim HD.out.sys.inv (ck_owns HD.out.sys.rep.ls) on okeep) (by show (cutR _ _ _ _).length ≤ n; rw [hg.1]; exact HD.out.fl) hg.2, kept_box fun b x1 x2 x3 => HD2.out.kept x1 x2 x3⟩
set_option maxHeartbeats 4000000 in
set_option maxRecDepth 100000 in
theorem do_fuse (P n : Nat) (w0 w : World) (g : Gh) (s : St) (r : RG) (R : RS) (T : Nat → Option Nat) (h : Duo P n w0 w g s r R T) (hn : n ≤ 99000) (o : OpV) (ho : OpAt w0 o) (hk : o.kind = 8) :
    Calls Try.prog 28 #[.pointer (some ⟨P, 0, none⟩), .pointer (some ⟨r.p, 0, none⟩), .agg (opCells o).toArray] w (DoPost P n w0 w g r) := by
  obtain ⟨kind, on, a, b, dv, odata, kv, okeep⟩ := o
  obtain rfl : kind = 8 := hk
  have ha := ho.asz
  have hb := ho.bsz
  simp only at ha hb
  obtain ⟨oda, odc, e1⟩ := ho.data.slice
  rw [List.length_map] at e1
  obtain ⟨oka, okc, e2⟩ := ho.keep.slice
  rw [List.length_map] at e2
  simp only at e1 e2
  subst e1 e2
  have HO := Lib.hid ho
  have HB0 := Lib.hid (bx_new w 8 on a b (.slice oda odata.length odc) (.slice oka okeep.length okc))
  have hsys := h.sys.below ((Below.refl w.heap.size w).alloc (Nat.le_refl _) (.cells #[.int .i64 8, .int .i64 on, .string a, .string b, .slice oda odata.length odc, .slice oka okeep.length okc] 39))
  have hrep := h.rep.below ((Below.refl w.heap.size w).alloc (Nat.le_refl _) (.cells #[.int .i64 8, .int .i64 on, .string a, .string b, .slice oda odata.length odc, .slice oka okeep.length okc] 39))
  have hng : w.heap.size ∉ foot g := fun hm => by have := h.sys.rep.lt _ hm; omega
  have hnr : w.heap.size ∉ rfoot r := fun hm => by have := h.rep.lt _ hm; omega
  have HD := Lib.hid h
  have HW := Lib.hid hsys
  have HP := Lib.hid hrep
  clear ho hsys hrep h
  show Calls Try.prog 28 #[.pointer (some ⟨P, 0, none⟩), .pointer (some ⟨r.p, 0, none⟩), .agg #[.int .i64 8, .int .i64 on, .string a, .string b, .slice oda odata.length odc, .slice oka okeep.length okc]] w (DoPost P n w0 w g r)
  have HDD0 := Lib.hid (DD.start HW.out HP.out HD.out.ap HD.out.nw)
  have HOW := Lib.hid (HO.out.below (HW.out.bel))
  have hodl := HO.out.dlen
  have hokl := HO.out.klen
  have honin := HO.out.nin
  simp only at hodl hokl honin
  have hmx : max on (-1) < 9223372036854775808 ∧ -9223372036854775808 ≤ max on (-1) := by omega
  have C := Lib.hid (sys_fuse HW.out on honin.2)
  obtain ⟨b0, b1, b2, b3, b4, b5⟩ := HB0.out
  go_enter Try.func28, Try.ntmps28
  go_wp2_with fail
  go_at_call 22
  refine C.out.mono ?_
  rintro e W1 ⟨rfl, g1, hN⟩
  have HD1 := Lib.hid (HDD0.out.impl hN)
  have HB1 := Lib.hid (bx_of HB0.out (HD1.out.kept (by simp) hng hnr))
  clear hN C b0 b1 b2 b3 b4 b5
  obtain ⟨b0, b1, b2, b3, b4, b5⟩ := HB1.out
  have hcz := HD1.out.rep.cells
  obtain ⟨c0, c1, c2, c3, c4, c5, c6, cz⟩ := r_cells hcz
  have HB := Lib.hid (block_setCell (i := 5) hcz (.int .i64 (max on (-1))))
  have HT := Lib.hid (turn_set W1 r.p 5 (.int .i64 (max on (-1))))
  clear hcz
  go_wp2_with fail
  go_ret
  obtain ⟨r2, hd2⟩ := HD1.out.ref (R' := { R with fuse := max on (-1) }) ⟨r, rfl, rep_own1 HD1.out.rep HT.out rfl rfl rfl rfl (by rw [HB.out]; rfl), HT.out.mono (fun b hb => by simp [rfoot] at hb ⊢; exact .inl (.inl hb)), fun _ hb => .inl hb⟩
  exact ⟨rfl, duo_end (s := s) (R := R) hd2 (sim_fuse HD.out.sim _) HD.out.fl HD.out.fs, kept_box fun b x1 x2 x3 => hd2.kept x1 x2 x3⟩
set_option maxHeartbeats 4000000 in
set_option maxRecDepth 100000 in
theorem do_none (P n : Nat) (w0 w : World) (g : Gh) (s : St) (r : RG) (R : RS) (T : Nat → Option Nat) (h : Duo P n w0 w g s r R T) (hn : n ≤ 99000) (o : OpV) (ho : OpAt w0 o) (hk : o.kind ≠ 0 ∧ o.kind ≠ 1 ∧ o.kind ≠ 2 ∧ o.kind ≠ 3 ∧ o.kind ≠ 4 ∧ o.kind ≠ 5 ∧ o.kind ≠ 6 ∧ o.kind ≠ 7 ∧ o.kind ≠ 8) :
    Calls Try.prog 28 #[.pointer (some ⟨P, 0, none⟩), .pointer (some ⟨r.p, 0, none⟩), .agg (opCells o).toArray] w (DoPost P n w0 w g r) := by
  obtain ⟨kind, on, a, b, dv, odata, kv, okeep⟩ := o
  obtain ⟨k0, k1, k2, k3, k4, k5, k6, k7, k8⟩ := hk
  simp only at k0 k1 k2 k3 k4 k5 k6 k7 k8
  have ha := ho.asz
  have hb := ho.bsz
  simp only at ha hb
  obtain ⟨oda, odc, e1⟩ := ho.data.slice
  rw [List.length_map] at e1
  obtain ⟨oka, okc, e2⟩ := ho.keep.slice
  rw [List.length_map] at e2
  simp only at e1 e2
  subst e1 e2
  have HO := Lib.hid ho
  have HB0 := Lib.hid (bx_new w kind on a b (.slice oda odata.length odc) (.slice oka okeep.length okc))
  have hsys := h.sys.below ((Below.refl w.heap.size w).alloc (Nat.le_refl _) (.cells #[.int .i64 kind, .int .i64 on, .string a, .string b, .slice oda odata.length odc, .slice oka okeep.length okc] 39))
  have hrep := h.rep.below ((Below.refl w.heap.size w).alloc (Nat.le_refl _) (.cells #[.int .i64 kind, .int .i64 on, .string a, .string b, .slice oda odata.length odc, .slice oka okeep.length okc] 39))
  have hng : w.heap.size ∉ foot g := fun hm => by have := h.sys.rep.lt _ hm; omega
  have hnr : w.heap.size ∉ rfoot r := fun hm => by have := h.rep.lt _ hm; omega
  have HD := Lib.hid h
  have HW := Lib.hid hsys
  have HP := Lib.hid hrep
  clear ho hsys hrep h
  show Calls Try.prog 28 #[.pointer (some ⟨P, 0, none⟩), .pointer (some ⟨r.p, 0, none⟩), .agg #[.int .i64 kind, .int .i64 on, .string a, .string b, .slice oda odata.length odc, .slice oka okeep.length okc]] w (DoPost P n w0 w g r)
  have HDD0 := Lib.hid (DD.start HW.out HP.out HD.out.ap HD.out.nw)
  have HOW := Lib.hid (HO.out.below (HW.out.bel))
  have hodl := HO.out.dlen
  have hokl := HO.out.klen
  have honin := HO.out.nin
  simp only at hodl hokl honin
  obtain ⟨b0, b1, b2, b3, b4, b5⟩ := HB0.out
  go_enter Try.func28, Try.ntmps28
  go_wp2_with fail
  go_ret
  exact ⟨rfl, duo_end (s := s) (R := R) HDD0.out HD.out.sim HD.out.fl HD.out.fs, kept_box fun b x1 x2 x3 => HDD0.out.kept x1 x2 x3⟩
end Go.Proofs.Ytijdgmbpkfmciaa.Fs

/- FsPlays: 'do', a read. -/
namespace Go.Proofs.Ytijdgmbpkfmciaa.Fs
open Go.RowKit Go.Maps Go.ChangeMaps Go.WideMaps Go.Joins Go.Sort Go.WideShapes

/-- Fresh bytes, each of which may be raised by one. -/
def Inc (U : World) (v : Value) (n : Nat) (W : World) : Prop := Below U.heap.size U W ∧ (n = 0 ∨ ∃ b cur c, v = .slice (some ⟨b, 0, none⟩) n c ∧ U.heap.size ≤ b ∧ W.heap[b]? = some (.cells cur 5 (0, 0)) ∧ ∀ j, j < n → ∃ z, cur[j]? = some (.int .u8 z))
theorem Inc.get {U W : World} {n : Nat} {c : Nat} {a : Option Addr} (h : Inc U (.slice a n c) n W) {j : Nat} (hj : j < n) : ∃ b z, a = some ⟨b, 0, none⟩ ∧ W.cell? ⟨b, j, none⟩ = some (.int .u8 z) ∧ (∀ o, W.frozen? ⟨b, o, none⟩ = false) ∧ ∀ z', Inc U (.slice a n c) n (W.setCell ⟨b, j, none⟩ (.int .u8 z')) := by
  obtain ⟨hb, h0 | ⟨b, cur, c', he, hl, hc, hz⟩⟩ := h
  · omega
  · simp only [Value.slice.injEq] at he
    obtain ⟨rfl, -, rfl⟩ := he
    obtain ⟨z, hz1⟩ := hz j hj
    refine ⟨b, z, rfl, ?_, fun o => unfrozen_of_block hc o, fun z' => ⟨hb.trans ((turn_set W b j _).below hb.size fun x hx => ?_), .inr ⟨b, cur.setIfInBounds j (.int .u8 z'), c, rfl, hl, block_setCell hc _, fun i hi => ?_⟩⟩⟩
    · rw [cell_of_block hc]; exact hz1
    · have : x = b := by simpa using hx
      omega
    · by_cases e : i = j
      · subst e
        have := (Array.getElem?_eq_some_iff.1 hz1).1
        exact ⟨z', by simp [this]⟩
      · obtain ⟨y, hy⟩ := hz i hi
        exact ⟨y, by rw [Array.getElem?_setIfInBounds_ne (fun e' => e e'.symm)]; exact hy⟩
theorem inc_row {U W : World} {v : Value} {bs : List UInt8} (hb : Below U.heap.size U W) (h : Row W 5 v (bs.map byteV)) (hf : ∀ b ∈ blkOf v, U.heap.size ≤ b) : Inc U v bs.length W := by
  refine ⟨hb, ?_⟩
  rcases h with ⟨_, e⟩ | ⟨b, cap, cur, rfl, h2, h3, h4, h5, h6, h7⟩
  · exact .inl (by simpa using e)
  · refine .inr ⟨b, cur, cap, by rw [List.length_map], hf b (by simp [blkOf, Value.ownBlock]), h2, fun j hj => ⟨(bs[j]'hj).toNat, ?_⟩⟩
    have e1 : cur.toList[j]? = (cur.toList.take (bs.map byteV).length)[j]? := by rw [List.getElem?_take_of_lt (by simpa using hj)]
    rw [← Array.getElem?_toList, e1, h7, List.getElem?_map, List.getElem?_eq_getElem hj]; rfl

set_option maxHeartbeats 4000000 in
set_option maxRecDepth 100000 in
theorem do_read (P n : Nat) (w0 w : World) (g : Gh) (s : St) (r : RG) (R : RS) (T : Nat → Option Nat) (h : Duo P n w0 w g s r R T) (hn : n ≤ 99000) (o : OpV) (ho : OpAt w0 o) (hk : o.kind = 2) :
    Calls Try.prog 28 #[.pointer (some ⟨P, 0, none⟩), .pointer (some ⟨r.p, 0, none⟩), .agg (opCells o).toArray] w (DoPost P n w0 w g r) := by
  obtain ⟨kind, on, a, b, dv, odata, kv, okeep⟩ := o
  obtain rfl : kind = 2 := hk
  have ha := ho.asz
  have hb := ho.bsz
  simp only at ha hb
  obtain ⟨oda, odc, e1⟩ := ho.data.slice
  rw [List.length_map] at e1
  obtain ⟨oka, okc, e2⟩ := ho.keep.slice
  rw [List.length_map] at e2
  simp only at e1 e2
  subst e1 e2
  have HO := Lib.hid ho
  have HB0 := Lib.hid (bx_new w 2 on a b (.slice oda odata.length odc) (.slice oka okeep.length okc))
  have hsys := h.sys.below ((Below.refl w.heap.size w).alloc (Nat.le_refl _) (.cells #[.int .i64 2, .int .i64 on, .string a, .string b, .slice oda odata.length odc, .slice oka okeep.length okc] 39))
  have hrep := h.rep.below ((Below.refl w.heap.size w).alloc (Nat.le_refl _) (.cells #[.int .i64 2, .int .i64 on, .string a, .string b, .slice oda odata.length odc, .slice oka okeep.length okc] 39))
  have hng : w.heap.size ∉ foot g := fun hm => by have := h.sys.rep.lt _ hm; omega
  have hnr : w.heap.size ∉ rfoot r := fun hm => by have := h.rep.lt _ hm; omega
  have HD := Lib.hid h
  have HW := Lib.hid hsys
  have HP := Lib.hid hrep
  clear ho hsys hrep h
  show Calls Try.prog 28 #[.pointer (some ⟨P, 0, none⟩), .pointer (some ⟨r.p, 0, none⟩), .agg #[.int .i64 2, .int .i64 on, .string a, .string b, .slice oda odata.length odc, .slice oka okeep.length okc]] w (DoPost P n w0 w g r)
  obtain ⟨U0, hU0⟩ : ∃ U0, U0 = (w.alloc (.cells #[.int .i64 2, .int .i64 on, .string a, .string b, .slice oda odata.length odc, .slice oka okeep.length okc] 39)) := ⟨_, rfl⟩
  rw [← hU0] at HB0 HW HP
  have HU0 := Lib.hid hU0
  clear hU0
  have HDD0 := Lib.hid (DD.start HW.out HP.out HD.out.ap HD.out.nw)
  have hsr := sim_read HD.out.sim a
  have hso := sim_of HD.out.sim a
  have hrl : (readL s a).length ≤ 16777216 := by unfold readL; split <;> first | exact (HD.out.sys.inv.fl _).2 | simp
  have hsr : rreadL R a = ⟨(readL s a).toArray⟩ := by rw [← hsr]
  have C := Lib.hid (sys_read HW.out a ha)
  obtain ⟨b0, b1, b2, b3, b4, b5⟩ := HB0.out
  go_enter Try.func28, Try.ntmps28
  go_wp2_with fail
  go_at_call 14
  rw [← HU0.out]
  refine C.out.mono ?_
  rintro e W1 ⟨v, rfl, hrow, hfr, hbl⟩
  have HINC := Lib.hid (inc_row hbl hrow hfr)
  have HNEW := Lib.hid (news_row hrow)
  have HD1 := Lib.hid (HDD0.out.below hbl)
  have HB1 := Lib.hid (bx_of HB0.out (HD1.out.kept (by rw [HU0.out]; simp) hng hnr))
  clear hrow hfr hbl C b0 b1 b2 b3 b4 b5
  obtain ⟨b0, b1, b2, b3, b4, b5⟩ := HB1.out
  obtain ⟨xa, xc, hv⟩ := HNEW.out.slice
  rw [List.length_map] at hv
  subst hv
  have C := Lib.hid (rread_any r R a W1 HD1.out.rep (by unfold maxLen at ha; exact ha) HD.out.rb (by omega))
  go_wp2_with fail
  go_at_call 45
  refine C.out.mono ?_
  rintro e W2 ⟨rfl, m, hm⟩
  have hbl : Below W1.heap.size W1 W2 := by rw [hm]; exact ⟨rfl, rfl, rfl, Nat.le_refl _, fun _ _ => rfl⟩
  have HINC2 : Hid (Inc _ _ _ W2) := Lib.hid ⟨HINC.out.1.trans (hbl.mono HINC.out.1.size), by rw [hm]; exact HINC.out.2⟩
  have HNEW2 := Lib.hid (HNEW.out.frame (w' := W2) fun _ b _ => by rw [hm]; rfl)
  have hcv := conv_news HNEW2.out
  rw [hso, hsr]
  clear hbl hm C b0 b1 b2 b3 b4 b5
  go_wp2_with fail
  go_loopw [15] (fun i wr => ∃ j : Nat, j ≤ (readL s a).length ∧ i = .int .i64 j ∧ Hid (Inc U0 (.slice xa (readL s a).length xc) (readL s a).length wr)) (fun i _ => (readL s a).length - (RowKit.intOf i).toNat)
  case atStart => exact ⟨0, Nat.zero_le _, rfl, HINC2⟩
  case round =>
    obtain ⟨j, hj, rfl, HI⟩ := hrel
    by_cases hjl : j < (readL s a).length
    · have s1 : (j : Int) < ((readL s a).length : Int) := by omega
      obtain ⟨xb, z, rfl, hcell, hfz, hset⟩ := HI.out.get hjl
      have HS := Lib.hid hset
      clear hset
      go_wp2_with fail
      go_round
      case rel => exact ⟨j + 1, by omega, by go_num, Lib.hid (HS.out _)⟩
      case measure => simp [RowKit.intOf]; omega
    · have s1 : ¬ (j : Int) < ((readL s a).length : Int) := by omega
      go_wp2_with fail
      go_ret
      exact ⟨rfl, duo_end (s := s) (R := R) (HDD0.out.below HI.out.1) HD.out.sim HD.out.fl HD.out.fs, kept_box (by rw [← HU0.out]; exact fun b x1 x2 x3 => (HDD0.out.below HI.out.1).kept x1 x2 x3)⟩
end Go.Proofs.Ytijdgmbpkfmciaa.Fs

/- FsPlays: 'do', an append. -/
namespace Go.Proofs.Ytijdgmbpkfmciaa.Fs
open Go.RowKit Go.Maps Go.ChangeMaps Go.WideMaps Go.Joins Go.Sort Go.WideShapes

/-- append(v, u...), u with cells anywhere. -/
theorem wpList_append_news (w : World) {ops : Array Oper} {rest : List Oper} {o : Oper} {a : Act} {Q : Exit → Act → World → Prop} (hgd : o.guard = none) (s x : Operand) (t : TypeId)
    (ho : o.op = .call { callee := .builtin .append, args := #[s, x], argTypes := #[t, t] })
    (base : Nat) (e : TypeId) (i : TypeInfo) (z : Value) (bytes : Nat) (ht : Try.prog.underlying t = some (.slice e)) (hi : Try.prog.info? e = some i) (hz : i.zero = some z)
    (hsize : i.size = 1) (hby : i.bytes = bytes) (hzs : z.cells.size = 1)
    (v : Value) (n : Nat) (xs : List Value) (hs : a.eval s = v) (hown : w.ownsRow base e 1 v n xs)
    (u : Value) (ys : List Value) (hx : a.eval x = u) (hu : News w u ys) (h1 : ∀ u ∈ ys, u.oneCell' = true)
    (h63 : n + ys.length ≤ maxLen) (hbytes : (n + ys.length) * bytes ≤ 140737488355328) (hbase : base ≤ w.heap.size)
    (h : ∀ v' w', w'.ownsRow base e 1 v' (n + ys.length) (xs ++ ys) → w.grownBy w' v.ownBlock → wpList Try.prog ops Q rest (a.put o.dst v') w') :
    wpList Try.prog ops Q (o :: rest) a w := by
  rcases hu with ⟨rfl, rfl⟩ | ⟨ad, c, rfl, hc, hcs⟩
  · exact wpList_append_none w hgd s x t e ho i ht hi hs hown hx (h v w (by simpa using hown) (grown_same _ _))
  · exact wpList_append_own_at w hgd s x t ho base e i z 1 bytes ht hi hz hsize hby hzs (by decide) v n xs hs hown ad ys.length c ys hx (by simp) hcs h1 h63 hbytes hbase (fun v' w' a b _ _ => h v' w' a b)
theorem news_owned {w : World} {b : Nat} {e : TypeId} {v : Value} {n : Nat} {xs : List Value} (h : w.ownsRow b e 1 v n xs) : News w v xs := by
  obtain ⟨h0, hu⟩ := h
  rcases hu with ⟨rfl, rfl⟩ | ⟨g, cap, cur, rfl, _, h3, h4, h5, h6, h7⟩
  · exact .inl ⟨rfl, List.eq_nil_of_length_eq_zero (by simpa using h0)⟩
  · have e0 : xs.length = n := by simpa using h0
    refine .inr ⟨⟨g, 0, none⟩, cap, by rw [e0], by omega, fun j u hj => ?_⟩
    rw [add_head, World.cell?]
    simp only [h3]
    rw [← h7, List.getElem?_take] at hj
    split at hj
    · simpa using hj
    · cases hj
/-- Bytes of one's own, each of which may be raised by one. -/
def Inq (U : World) (v : Value) (n : Nat) (W : World) : Prop := Turn U W (blkOf v) ∧ (n = 0 ∨ ∃ b cur c, v = .slice (some ⟨b, 0, none⟩) n c ∧ W.heap[b]? = some (.cells cur 5 (0, 0)) ∧ ∀ j, j < n → ∃ z, cur[j]? = some (.int .u8 z))
theorem Inq.get {U W : World} {n : Nat} {c : Nat} {a : Option Addr} (h : Inq U (.slice a n c) n W) {j : Nat} (hj : j < n) : ∃ b z, a = some ⟨b, 0, none⟩ ∧ W.cell? ⟨b, j, none⟩ = some (.int .u8 z) ∧ (∀ o, W.frozen? ⟨b, o, none⟩ = false) ∧ ∀ z', Inq U (.slice a n c) n (W.setCell ⟨b, j, none⟩ (.int .u8 z')) := by
  obtain ⟨hb, h0 | ⟨b, cur, c', he, hc, hz⟩⟩ := h
  · omega
  · simp only [Value.slice.injEq] at he
    obtain ⟨rfl, -, rfl⟩ := he
    obtain ⟨z, hz1⟩ := hz j hj
    refine ⟨b, z, rfl, ?_, fun o => unfrozen_of_block hc o, fun z' => ⟨hb.trans (turn_set W b j _) (fun x hx => .inl (by simpa [blkOf, Value.ownBlock] using hx)), .inr ⟨b, cur.setIfInBounds j (.int .u8 z'), c, rfl, block_setCell hc _, fun i hi => ?_⟩⟩⟩
    · rw [cell_of_block hc]; exact hz1
    · by_cases e : i = j
      · subst e
        have := (Array.getElem?_eq_some_iff.1 hz1).1
        exact ⟨z', by simp [this]⟩
      · obtain ⟨y, hy⟩ := hz i hi
        exact ⟨y, by rw [Array.getElem?_setIfInBounds_ne (fun e' => e e'.symm)]; exact hy⟩
theorem inq_own {W : World} {b : Nat} {v : Value} {bs : List UInt8} (h : W.ownsRow b 5 1 v bs.length (bs.map byteV)) : Inq W v bs.length W := by
  refine ⟨Turn.refl _ _, ?_⟩
  obtain ⟨h0, hu⟩ := h
  rcases hu with ⟨_, e⟩ | ⟨g, cap, cur, rfl, _, h3, h4, h5, h6, h7⟩
  · exact .inl e
  · refine .inr ⟨g, cur, cap, rfl, h3, fun j hj => ⟨(bs[j]'hj).toNat, ?_⟩⟩
    have e1 : cur.toList[j]? = (cur.toList.take (bs.length * 1))[j]? := by rw [List.getElem?_take_of_lt (by omega)]
    rw [← Array.getElem?_toList, e1, h7, List.getElem?_map, List.getElem?_eq_getElem hj]; rfl
section
variable {W0 : World} {g0 : Gh} {r0 : RG} {P n : Nat} {w0 : World}
theorem half_done_far {s s1 : St} {R R1 : RS} {T T' : Nat → Option Nat} {W : World} (h : HF (QIs g0 s s1) (QRs R R1) W0 g0 r0 P n w0 true true W) (hsim : Sim g0.ids T' s1 R1) (hfl : R1.files.length ≤ n + 1) (hfs : ∀ y ∈ R.files, y.2 ≤ y.1.size ∧ y.1.size ≤ 16777216)
    (hk : ∀ i y, R1.files[i]? = some y → (y ∈ R.files ∨ y = (noName, 0) ∨ ∃ x, T' x = some i)) : ∃ g' s' r' R' T', Duo P (n + 1) w0 W g' s' r' R' T' ∧ r'.p = r0.p ∧ (∀ b ∈ foot g', b ∈ foot g0 ∨ W0.heap.size ≤ b) ∧ ∀ b ∈ rfoot r', b ∈ rfoot r0 ∨ W0.heap.size ≤ b := by
  obtain ⟨g, s', r, R', hq, hr, hd⟩ := h
  obtain rfl : s' = s1 := hq.1
  obtain rfl : R' = R1 := hr
  have hs := sim_ids hsim hd.ids
  exact ⟨g, s', r, R', T', Duo.of hd hs hfl (fs_keep hfs hs hd.sys.inv hk), hd.rp, hd.sg, hd.sr⟩
theorem Duo.turn {W W' : World} {g : Gh} {s : St} {r : RG} {R : RS} {T : Nat → Option Nat} {F : List Nat} (h : Duo P n w0 W g s r R T) (ht : Turn W W' F) (h1 : ∀ b ∈ F, b < W.heap.size ∧ b ∉ foot g ∧ b ∉ rfoot r ∧ w0.heap.size ≤ b) : Duo P n w0 W' g s r R T :=
  ⟨h.sys.turn ht fun b hb => .inl ⟨⟨(h1 b hb).1, (h1 b hb).2.1⟩, (h1 b hb).2.2.2⟩, h.rep.turn ht fun b hb hm => (h1 b hm).2.2.1 hb, h.ap, h.nw, h.sim, h.fl, h.fs⟩
theorem both_append (s : St) (R : RS) (a : ByteArray) (ha : a.size ≤ maxLen) {T : Nat → Option Nat} (hsim : Sim g0.ids T s R) (hI : Inv s g0.ids n) (kD : CK s.names) (fD : Flat s.names) (hB : RB R n) (hn : n ≤ 999000) (hfs : ∀ y ∈ R.files, y.2 ≤ y.1.size ∧ y.1.size ≤ 16777216)
    (v : Value) (bs : List UInt8) (hbs : bs.length ≤ 9223372036854775807) (hv : News W0 v (bs.map byteV)) (hvl : bs ≠ [] → ∀ b ∈ blkOf v, b < W0.heap.size ∧ b ∉ foot g0 ∧ b ∉ rfoot r0) :
    (∀ c W, HF (QIs g0 s (appendS s a bs)) (QRs R (rappendS R a ⟨bs.toArray⟩)) W0 g0 r0 P n w0 false c W → Calls Try.prog 11 #[.pointer (some ⟨P, 0, none⟩), .string a, v] W fun e w' => e = .returned (.int .i64 (appendE s a bs.length)) ∧ HF (QIs g0 s (appendS s a bs)) (QRs R (rappendS R a ⟨bs.toArray⟩)) W0 g0 r0 P n w0 true c w') ∧
    (∀ i W, HF (QIs g0 s (appendS s a bs)) (QRs R (rappendS R a ⟨bs.toArray⟩)) W0 g0 r0 P n w0 i false W → Calls Try.prog 44 #[.pointer (some ⟨r0.p, 0, none⟩), .string a, .string ⟨bs.toArray⟩] W fun e w' => e = .returned (.int .i64 (appendE s a bs.length)) ∧ HF (QIs g0 s (appendS s a bs)) (QRs R (rappendS R a ⟨bs.toArray⟩)) W0 g0 r0 P n w0 i true w') := by
  refine ⟨half_i fun W g s' r R' hq hd => ?_, half_c fun W m g s' r R' hr hd => ?_⟩
  · obtain ⟨rfl, rfl⟩ := qis_false hq
    have hne : bs.map byteV ≠ [] → bs ≠ [] := fun h e => h (by rw [e]; rfl)
    refine (sys_append hd.sys (by omega) a ha v bs hbs (hv.frame fun hx b hb => by
      obtain ⟨h1, h2, h3⟩ := hvl (hne hx) b hb
      exact hd.kept h1 h2 h3) (fun hx b hb => by
      obtain ⟨h1, h2, h3⟩ := hvl hx b hb
      exact ⟨Nat.lt_of_lt_of_le h1 hd.tn.size, h2⟩)).mono ?_
    rintro e w' ⟨rfl, g', hN⟩
    exact ⟨rfl, g', _, ⟨rfl, fun hf => by cases hf⟩, hN.mono (Nat.le_succ n)⟩
  · obtain rfl : R' = R := hr
    have hsz : (⟨bs.toArray⟩ : ByteArray).size = bs.length := by simp [ByteArray.size]
    have := rappend_any r R' a ⟨bs.toArray⟩ W hd.rep (by unfold maxLen at ha; exact ha) (by rw [hsz]; exact hbs) hB hn (fun y hy => (hfs y hy).2) (by rw [hsim.q]; exact hI.q0) (by rw [hsim.q]; exact hI.q1)
    rw [hd.rp, (sim_append hsim kD fD a ⟨bs.toArray⟩ bs rfl).1] at this
    exact this.mono fun e w' ⟨h1, h2⟩ => ⟨h1, _, rfl, h2⟩
end

set_option maxHeartbeats 4000000 in
set_option maxRecDepth 100000 in
theorem do_append (P n : Nat) (w0 w : World) (g : Gh) (s : St) (r : RG) (R : RS) (T : Nat → Option Nat) (h : Duo P n w0 w g s r R T) (hn : n ≤ 99000) (o : OpV) (ho : OpAt w0 o) (hk : o.kind = 1) (hds : o.data.length ≤ 140737488351232) :
    Calls Try.prog 28 #[.pointer (some ⟨P, 0, none⟩), .pointer (some ⟨r.p, 0, none⟩), .agg (opCells o).toArray] w (DoPost P n w0 w g r) := by
  obtain ⟨kind, on, a, b, dv, odata, kv, okeep⟩ := o
  obtain rfl : kind = 1 := hk
  have ha := ho.asz
  have hb := ho.bsz
  simp only at ha hb hds
  obtain ⟨oda, odc, e1⟩ := ho.data.slice
  rw [List.length_map] at e1
  obtain ⟨oka, okc, e2⟩ := ho.keep.slice
  rw [List.length_map] at e2
  simp only at e1 e2
  subst e1 e2
  have HO := Lib.hid ho
  have HB0 := Lib.hid (bx_new w 1 on a b (.slice oda odata.length odc) (.slice oka okeep.length okc))
  have hsys := h.sys.below ((Below.refl w.heap.size w).alloc (Nat.le_refl _) (.cells #[.int .i64 1, .int .i64 on, .string a, .string b, .slice oda odata.length odc, .slice oka okeep.length okc] 39))
  have hrep := h.rep.below ((Below.refl w.heap.size w).alloc (Nat.le_refl _) (.cells #[.int .i64 1, .int .i64 on, .string a, .string b, .slice oda odata.length odc, .slice oka okeep.length okc] 39))
  have hng : w.heap.size ∉ foot g := fun hm => by have := h.sys.rep.lt _ hm; omega
  have hnr : w.heap.size ∉ rfoot r := fun hm => by have := h.rep.lt _ hm; omega
  have HD := Lib.hid h
  have HW := Lib.hid hsys
  have HP := Lib.hid hrep
  clear ho hsys hrep h
  show Calls Try.prog 28 #[.pointer (some ⟨P, 0, none⟩), .pointer (some ⟨r.p, 0, none⟩), .agg #[.int .i64 1, .int .i64 on, .string a, .string b, .slice oda odata.length odc, .slice oka okeep.length okc]] w (DoPost P n w0 w g r)
  obtain ⟨U0, hU0⟩ : ∃ U0, U0 = (w.alloc (.cells #[.int .i64 1, .int .i64 on, .string a, .string b, .slice oda odata.length odc, .slice oka okeep.length okc] 39)) := ⟨_, rfl⟩
  have HU0 := Lib.hid hU0
  have HDD0 := Lib.hid (DD.start HW.out HP.out HD.out.ap HD.out.nw)
  have HOW := Lib.hid (HO.out.below (HW.out.bel))
  have hdat := HOW.out.data
  simp only at hdat
  have hdn : News ((w.alloc (.cells #[.int .i64 1, .int .i64 on, .string a, .string b, .slice oda odata.length odc, .slice oka okeep.length okc] 39)).alloc (.cells #[] 5)) (.slice oda odata.length odc) (odata.map byteV) := hdat.frame fun hx b hb => Below.heap_alloc _ _ _ (hdat.lt hx b hb)
  have HDN := Lib.hid hdn
  have hdl : odata.map byteV ≠ [] → ∀ b ∈ blkOf (.slice oda odata.length odc), b < w0.heap.size := fun hx b hb => HO.out.data.lt hx b hb
  have HDL := Lib.hid hdl
  clear hdat hU0 hdn hdl
  obtain ⟨i0, hi, hz0, hz1, hz2⟩ := info_parts info5
  obtain ⟨b0, b1, b2, b3, b4, b5⟩ := HB0.out
  go_enter Try.func28, Try.ntmps28
  go_wp2_with (first | (at_builtin; refine wpList_append_news _ rfl (.tmp 31) (.tmp 33) 27 rfl (w.heap.size + 1) 5 i0 (.int .u8 0) 1 Try.underlying27 hi hz0 hz1 hz2 rfl (.slice (some ⟨w.heap.size + 1, 0, none⟩) 0 0) 0 [] rfl (empty_row _ 5 1 _ (by simp)) (.slice oda odata.length odc) (odata.map byteV) rfl HDN.out (oneCell_bytes _) (by unfold maxLen; simp; omega) (by simp; omega) (by simp) ?_; intro v1 w1 ho1 hg1; simp only [Nat.zero_add, List.nil_append, List.length_map] at ho1; obtain ⟨v1a, v1c, rfl⟩ := owned_slice ho1))
  have hbl : Below (w.alloc (.cells #[.int .i64 1, .int .i64 on, .string a, .string b, .slice oda odata.length odc, .slice oka okeep.length okc] 39)).heap.size (w.alloc (.cells #[.int .i64 1, .int .i64 on, .string a, .string b, .slice oda odata.length odc, .slice oka okeep.length okc] 39)) w1 := below_append (Below.refl _ _) hg1 (fun k hk => by
    change some k = (Value.slice (some ⟨w.heap.size + 1, 0, none⟩) 0 0).ownBlock at hk
    have : k = w.heap.size + 1 := by simpa [Value.ownBlock] using hk
    simp; omega)
  have hB1 := bx_of HB0.out (hbl.block w.heap.size (by simp))
  have hown : ∀ q ∈ blkOf (.slice v1a odata.length v1c), q < w1.heap.size ∧ q ∉ foot g ∧ q ∉ rfoot r := fun q hq => by
    have h1 := owned_lt (owned_zero ho1) q hq
    have h2 := owned_ge ho1 q hq
    exact ⟨h1, fun hm => by have := HD.out.sys.rep.lt _ hm; omega, fun hm => by have := HD.out.rep.lt _ hm; omega⟩
  have hownw : ∀ q ∈ blkOf (.slice v1a odata.length v1c), w0.heap.size ≤ q := fun q hq => by
    have h2 := owned_ge ho1 q hq
    have := HD.out.sys.bel.size
    omega
  obtain ⟨ci, cr⟩ := both_append (W0 := w1) (g0 := g) (r0 := r) (P := P) (n := n) (w0 := w0) s R a ha HD.out.sim HD.out.sys.inv (ck_owns HD.out.sys.rep.nm) (flat_owns HD.out.sys.rep.nm) HD.out.rb (by omega) HD.out.fs (.slice v1a odata.length v1c) odata (by omega) (news_owned ho1) (fun _ => hown)
  have h0 : HF (QIs g s (appendS s a odata)) (QRs R (rappendS R a ⟨odata.toArray⟩)) w1 g r P n w0 false false w1.drew := both_start ⟨rfl, fun _ => rfl⟩ rfl (HW.out.below hbl) (HP.out.below hbl) HD.out.ap HD.out.nw ((Below.refl _ _).drew)
  have hw1 : w.heap.size < w1.heap.size := by have := hbl.size; simp at this; omega
  have HKEEP : Hid (∀ i c W, HF (QIs g s (appendS s a odata)) (QRs R (rappendS R a ⟨odata.toArray⟩)) w1 g r P n w0 i c W → W.cell? ⟨w.heap.size, 2, none⟩ = some (.string a) ∧ W.cell? ⟨w.heap.size, 4, none⟩ = some (.slice oda odata.length odc) ∧ (convert 27 9 (.slice oda odata.length odc)).run Try.prog W = .ok (.string ⟨odata.toArray⟩) W) := Lib.hid fun i c W hh => by
    have hbx := bx_of hB1 (half_kept hh hw1 hng hnr)
    refine ⟨hbx.2.2.1, hbx.2.2.2.2.1, conv_news ?_⟩
    exact HO.out.data.frame fun hx q hq => by
      have hlt := HDL.out hx q hq
      have hz := HD.out.sys.bel.size
      refine (half_kept hh (by omega) (fun hm => by have := HD.out.sys.new q hm; omega) (fun hm => by have := HD.out.nw q hm; omega)).trans ?_
      exact (hbl.block q (by simp; omega)).trans (HW.out.bel.block q hlt)
  have CI := Lib.hid ci
  have CR := Lib.hid cr
  have HH0 := Lib.hid h0
  have HOWN := Lib.hid hown
  have HOWNW := Lib.hid hownw
  have HOWNG : Hid (∀ q ∈ blkOf (.slice v1a odata.length v1c), w.heap.size < q) := Lib.hid fun q hq => owned_ge ho1 q hq
  have HBL1 := Lib.hid hbl
  have HO1 := Lib.hid ho1
  have HBX1 := Lib.hid hB1
  clear ci cr h0 hown hownw ho1 hg1 hB1 hbl b0 b1 b2 b3 b4 b5
  have h0 := HH0.out
  go_region_held3 (fun w' => w'.cell? ⟨w.heap.size, 2, none⟩ = some (.string a) ∧ w'.cell? ⟨w.heap.size, 4, none⟩ = some (.slice oda odata.length odc) ∧ (convert 27 9 (.slice oda odata.length odc)).run Try.prog w' = .ok (.string ⟨odata.toArray⟩) w') ((exact HKEEP.out _ _ _ (by assumption))) (first | (go_at_call 11; refine (CI.out _ _ (by assumption)).mono ?_; rintro e W1 ⟨rfl, hh1⟩) | (go_at_call 44; refine (CR.out _ _ (by assumption)).mono ?_; rintro e W2 ⟨rfl, hh2⟩))
  all_goals
    have HE : Hid (HF _ _ _ _ _ _ _ _ true true _) := Lib.hid (by assumption)
    go_wp2_with fail
    go_loopw [9] (fun i wr => ∃ j : Nat, j ≤ odata.length ∧ i = .int .i64 j ∧ Hid (∃ WE, HF (QIs g s (appendS s a odata)) (QRs R (rappendS R a ⟨odata.toArray⟩)) w1 g r P n w0 true true WE ∧ Inq WE (.slice v1a odata.length v1c) odata.length wr)) (fun i _ => odata.length - (RowKit.intOf i).toNat)
    case atStart => exact ⟨0, Nat.zero_le _, rfl, Lib.hid ⟨_, HE.out, inq_own (owned_frame HO1.out fun q hq => half_kept HE.out (HOWN.out q hq).1 (HOWN.out q hq).2.1 (HOWN.out q hq).2.2)⟩⟩
    case round =>
      obtain ⟨j, hj, rfl, HI⟩ := hrel
      by_cases hjl : j < odata.length
      · have s1 : (j : Int) < (odata.length : Int) := by omega
        obtain ⟨WE, hhf, hinq⟩ := HI.out
        obtain ⟨xb, z, rfl, hcell, hfz, hset⟩ := hinq.get hjl
        have HS := Lib.hid hset
        have HHF := Lib.hid hhf
        clear hset hhf hinq
        go_wp2_with fail
        go_round
        case rel => exact ⟨j + 1, by omega, by go_num, Lib.hid ⟨WE, HHF.out, HS.out _⟩⟩
        case measure => simp [RowKit.intOf]; omega
      · have s1 : ¬ (j : Int) < (odata.length : Int) := by omega
        go_wp2_with fail
        go_ret
        obtain ⟨WE, hhf, hinq⟩ := HI.out
        obtain ⟨g', s', r', R', T', hduo, hp, hsg, hsr⟩ := half_done_far (T := T) hhf (sim_append HD.out.sim (ck_owns HD.out.sys.rep.nm) (flat_owns HD.out.sys.rep.nm) a ⟨odata.toArray⟩ odata rfl).2 (keep_append_len HD.out.fl) HD.out.fs (keep_append HD.out.sim)
        have hzz : w1.heap.size ≤ WE.heap.size := by
          obtain ⟨g1, s1, r1, R1, _, _, hd⟩ := hhf
          exact hd.tn.size
        refine ⟨rfl, ⟨g', s', r', R', T', hduo.turn hinq.1 fun q hq => ⟨?_, fun hm => ?_, fun hm => ?_, HOWNW.out q hq⟩, hp⟩, kept_box (ob := (.cells #[.int .i64 1, .int .i64 on, .string a, .string b, .slice oda odata.length odc, .slice oka okeep.length okc] 39)) fun b x1 x2 x3 => ?_⟩
        · obtain ⟨g1, s1, r1, R1, _, _, hd⟩ := hhf
          exact Nat.lt_of_lt_of_le (HOWN.out q hq).1 hd.tn.size
        · rcases hsg q hm with e | e
          · exact (HOWN.out q hq).2.1 e
          · have := (HOWN.out q hq).1; omega
        · rcases hsr q hm with e | e
          · exact (HOWN.out q hq).2.2 e
          · have := (HOWN.out q hq).1; omega
        · have hs := HBL1.out.size
          refine (hinq.1.block b (by omega) fun hm => ?_).trans ((half_kept hhf (by omega) x2 x3).trans (HBL1.out.block b x1))
          have := HOWNG.out b hm
          simp at x1
          omega
end Go.Proofs.Ytijdgmbpkfmciaa.Fs
