/- The file system: what is alike in a copy, in plain words. -/
import Derived.Test.YtijdgmbpkfmciaaZp
import Derived.Test.YtijdgmbpkfmciaaV
import Derived.Lib.SlMapMerge
namespace Go.Proofs.Ytijdgmbpkfmciaa.Fs
open Go.RowKit Go.Maps Go.ChangeMaps Go.WideMaps Go.Joins Go.Sort Go.WideShapes

def Flat (D : Dm) : Prop := ∀ nm : ByteArray, D.atKey (kl nm) (.lit (.int .i64 0)) = .lit (.int .i64 (look D nm : Nat))
abbrev CK (D : Dm) : Prop := CanonK (KeysOf Try.prog 9) D
theorem ck_owns {w : World} {b n : Nat} {D : Dm} (h : w.ownsMap Try.prog 9 ptrR b n D) : CK D := h.canonK law
theorem CK.canon {D : Dm} (h : CK D) : Canon D := CanonK.canon law.one h
theorem CK.isMap {D : Dm} (h : CK D) : IsMap D := by obtain ⟨es, e, _⟩ := h; exact ⟨es, e⟩
theorem CK.str {D : Dm} (h : CK D) : StrMap D := by
  obtain ⟨es, e, _, hk⟩ := h
  refine ⟨es, e, fun p hp => ?_⟩
  obtain ⟨v, hv⟩ := hk p hp
  obtain ⟨x, _, e, _⟩ := string_of_keyOf Try.underlying9 hv
  exact ⟨_, e⟩
theorem CK.put {D : Dm} (h : CK D) {s : ByteArray} (hs : s.size ≤ maxLen) (d : Dm) : CK (D.put (kl s) d) := canonK_put law.one ⟨_, hkey hs⟩ d h
theorem CK.del {D : Dm} (h : CK D) (k : Lit) : CK (D.del k) := by
  obtain ⟨es, rfl, r, ks⟩ := h
  exact ⟨_, rfl, r.filter _, fun p hp => ks p (List.mem_filter.1 hp).1⟩
theorem ck_empty : CK (.map [] : Dm) := ⟨[], rfl, List.Pairwise.nil, fun _ hp => nomatch hp⟩
theorem CK.app {D : Dm} (h : CK D) (c : Chg) (hs : small c) : CK (app D c) := by
  cases c with
  | create s f => exact h.put hs _
  | rename a b => exact (h.put hs.2 _).del _
  | remove a => exact h.del _
theorem CK.replay : ∀ {cs : List Chg} {D : Dm}, CK D → (∀ c ∈ cs, small c) → CK (replay D cs)
  | [], _, h, _ => h
  | c :: cs, _, h, hs => CK.replay (cs := cs) (h.app c (hs c List.mem_cons_self)) (fun x hx => hs x (List.mem_cons_of_mem _ hx))

theorem flat_owns {w : World} {b n : Nat} {D : Dm} (h : w.ownsMap Try.prog 9 ptrR b n D) : Flat D := by
  intro nm
  cases hh : Maps.has D (kl nm) with
  | false => rw [atKey_of_not_has hh, look_none hh]; rfl
  | true =>
    obtain ⟨es, he, hk⟩ := h.keysOf
    have hh' := hh
    rw [he, has_eq, List.any_eq_true] at hh'
    obtain ⟨p, hp, hq⟩ := hh'
    obtain ⟨v, hv⟩ := hk p hp
    obtain ⟨x, _, e, hx⟩ := string_of_keyOf Try.underlying9 hv
    have hpk : p.1 = kl nm := WideAt.sameKey_eq hq
    have hxn : x = nm := kl_inj (e.symm.trans hpk)
    rw [hxn] at hx
    exact (look_run h hx).2
theorem Flat.put {D : Dm} (hD : IsMap D) (h : Flat D) (s : ByteArray) (v : Nat) : Flat (D.put (kl s) (.lit (.int .i64 v))) := by
  intro nm
  by_cases e : nm = s
  · subst e; rw [atKey_put_same hD (kl_isKey nm), look_put_same hD]
  · rw [atKey_put_other (kl_ne e), look_put_other e]; exact h nm
theorem Flat.del {D : Dm} (h : Flat D) (s : ByteArray) : Flat (D.del (kl s)) := by
  intro nm
  by_cases e : nm = s
  · subst e; rw [atKey_del_same, look_del_same]; rfl
  · rw [atKey_del_other (kl_ne e), look_del_other e]; exact h nm
theorem Flat.app {D : Dm} (hD : IsMap D) (h : Flat D) (c : Chg) : Flat (app D c) := by
  cases c with
  | create s f => exact h.put hD s (f + 1)
  | rename a b => exact (h.put hD b _).del a
  | remove a => exact h.del a
theorem isMap_app {D : Dm} (hD : IsMap D) (c : Chg) : IsMap (app D c) := by
  cases c with
  | create s f => exact hD.put _ _
  | rename a b => exact (hD.put _ _).del _
  | remove a => exact hD.del _
theorem Flat.replay : ∀ {cs : List Chg} {D : Dm}, IsMap D → Flat D → Flat (replay D cs)
  | [], _, _, h => h
  | c :: cs, _, hD, h => Flat.replay (cs := cs) (isMap_app hD c) (h.app hD c)
theorem isMap_replay : ∀ {cs : List Chg} {D : Dm}, IsMap D → IsMap (replay D cs)
  | [], _, h => h
  | c :: cs, _, h => isMap_replay (cs := cs) (isMap_app h c)
theorem has_put_kl {D : Dm} (hD : IsMap D) (s : ByteArray) (d : Dm) : Maps.has (D.put (kl s) d) (kl s) = true := by
  first | exact has_put_same hD (kl_isKey _) _ | simp [has_put_same hD (kl_isKey _)]

theorem Like.put {T : List (Nat × Nat)} {D D' : Dm} (hD : IsMap D) (hD' : IsMap D') (h : Like T D D') (s : ByteArray) {x y : Nat} (hT : T.lookup x = some y) :
    Like T (D.put (kl s) (.lit (.int .i64 (x + 1 : Nat)))) (D'.put (kl s) (.lit (.int .i64 (y + 1 : Nat)))) := by
  intro nm
  by_cases e : nm = s
  · subst e
    rw [has_put_kl hD, has_put_kl hD']
    exact ⟨rfl, fun _ => ⟨x, y, look_put_same hD nm _, look_put_same hD' nm _, hT⟩⟩
  · rw [has_put_other (kl_ne e), has_put_other (kl_ne e), look_put_other e, look_put_other e]
    exact h nm
theorem Like.del {T : List (Nat × Nat)} {D D' : Dm} (h : Like T D D') (s : ByteArray) : Like T (D.del (kl s)) (D'.del (kl s)) := by
  intro nm
  by_cases e : nm = s
  · subst e
    rw [has_del_same, has_del_same]
    exact ⟨rfl, fun hh => nomatch hh⟩
  · rw [has_del_other (kl_ne e), has_del_other (kl_ne e), look_del_other e, look_del_other e]
    exact h nm
theorem Like.app {T : List (Nat × Nat)} {D D' : Dm} (hD : IsMap D) (hD' : IsMap D') (h : Like T D D') {c c' : Chg} (hc : TwC T c c') (hr : ∀ a b, c = .rename a b → a ≠ b → Maps.has D (kl a) = true) : Like T (app D c) (app D' c') := by
  cases c with
  | create s f =>
    cases c' with
    | create s2 y =>
      obtain ⟨rfl, hT⟩ := hc
      exact h.put hD hD' s hT
    | rename _ _ => exact hc.elim
    | remove _ => exact hc.elim
  | rename a b =>
    cases c' with
    | create _ _ => exact hc.elim
    | rename a2 b2 =>
      obtain ⟨rfl, rfl⟩ := hc
      by_cases hab : a = b
      · subst hab
        intro nm
        show Maps.has ((D'.put _ _).del _) _ = Maps.has ((D.put _ _).del _) _ ∧ (Maps.has ((D'.put _ _).del _) _ = true → ∃ x y, look ((D.put _ _).del _) nm = x + 1 ∧ look ((D'.put _ _).del _) nm = y + 1 ∧ _)
        by_cases e : nm = a
        · subst e
          rw [has_del_same, has_del_same]
          exact ⟨rfl, fun hh => nomatch hh⟩
        · rw [has_del_other (kl_ne e), has_del_other (kl_ne e), look_del_other e, look_del_other e, has_put_other (kl_ne e), has_put_other (kl_ne e), look_put_other e, look_put_other e]
          exact h nm
      · have h1 := hr a b rfl hab
        have h2 := (h a).1.trans h1
        obtain ⟨x, y, hx, hy, hT⟩ := (h a).2 h2
        show Like T ((D.put (kl b) (.lit (.int .i64 (look D a : Nat)))).del (kl a)) ((D'.put (kl b) (.lit (.int .i64 (look D' a : Nat)))).del (kl a))
        rw [hx, hy]
        exact (h.put hD hD' b hT).del a
    | remove _ => exact hc.elim
  | remove a =>
    cases c' with
    | create _ _ => exact hc.elim
    | rename _ _ => exact hc.elim
    | remove a2 =>
      obtain rfl : a = a2 := hc
      exact h.del a

/-- A name that is renamed is there. -/
theorem rename_has {s : St} {ids : List Nat} {n : Nat} (h : Inv s ids n) {k : Nat} {a b : ByteArray} (hk : s.changes[k]? = some (.rename a b)) (hab : a ≠ b) : Maps.has (replay s.lasting (s.changes.take k)) (kl a) = true := by
  have hl := (List.getElem?_eq_some_iff.1 hk).1
  have h1 := h.ids (k + 1)
  rw [replay_next _ _ _ hl, (List.getElem?_eq_some_iff.1 hk).2] at h1
  have hm : IsMap (replay s.lasting (s.changes.take k)) := (replay_tidy h.td _).isMap
  generalize replay s.lasting (s.changes.take k) = D at h1 hm
  have hb : b ≠ a := fun e => hab e.symm
  obtain ⟨f, _, e⟩ := h1 b (by show Maps.has ((D.put _ _).del _) _ = true; rw [has_del_other (kl_ne hb), has_put_kl hm])
  have e2 : look (app D (.rename a b)) b = look D a := by
    show look ((D.put _ _).del _) b = _
    rw [look_del_other hb, look_put_same hm]
  rw [e2] at e
  cases hh : Maps.has D (kl a) with
  | true => rfl
  | false => rw [look_none hh] at e; omega
theorem like_replay {T : List (Nat × Nat)} {s : St} {ids : List Nat} {n : Nat} (h : Inv s ids n) {L' : Dm} (hL' : IsMap L') {cs' : List Chg} (hL : Like T s.lasting L') (hc : TwL T s.changes cs') : ∀ k, Like T (replay s.lasting (s.changes.take k)) (replay L' (cs'.take k))
  | 0 => by rw [List.take_zero, List.take_zero]; exact hL
  | k + 1 => by
    have ih := like_replay h hL' hL hc k
    by_cases hk : k < s.changes.length
    · have hk' : k < cs'.length := by rw [hc.1]; exact hk
      rw [replay_next _ _ _ hk, replay_next _ _ _ hk']
      refine Like.app (replay_tidy h.td _).isMap (isMap_replay hL') ih (hc.2 k _ _ (List.getElem?_eq_getElem hk) (List.getElem?_eq_getElem hk')) fun a b e hab => ?_
      exact rename_has h (by rw [List.getElem?_eq_getElem hk, e]) hab
    · rw [List.take_of_length_le (by omega), List.take_of_length_le (by rw [hc.1]; omega)]
      rw [List.take_of_length_le (by omega), List.take_of_length_le (by rw [hc.1]; omega)] at ih
      exact ih

/-- Two maps that are both like one are one. -/
theorem like_eq {T : List (Nat × Nat)} {D A B : Dm} (hA : CK A) (hB : CK B) (fA : Flat A) (fB : Flat B) (h1 : Like T D A) (h2 : Like T D B) : A = B := by
  have key : ∀ nm : ByteArray, Maps.has A (kl nm) = true → look A nm = look B nm := fun nm ha => by
    have hb : Maps.has B (kl nm) = true := by rw [(h2 nm).1, ← (h1 nm).1]; exact ha
    obtain ⟨x, y, e1, e2, e3⟩ := (h1 nm).2 ha
    obtain ⟨x', y', e4, e5, e6⟩ := (h2 nm).2 hb
    have : x = x' := by omega
    subst this
    rw [e3] at e6
    cases e6
    rw [e2, e5]
  have str : ∀ {X : Dm}, CK X → ∀ k, Maps.has X k = true → ∃ nm, k = kl nm := fun hX k hk => by
    obtain ⟨es, rfl, hs⟩ := hX.str
    rw [has_eq, List.any_eq_true] at hk
    obtain ⟨p, hp, hq⟩ := hk
    obtain ⟨x, hx⟩ := hs p hp
    have e := WideAt.sameKey_eq hq
    exact ⟨⟨x.toArray⟩, by rw [← e, hx]; simp [kl]⟩
  have hh : ∀ k, Maps.has A k = Maps.has B k := fun k => by
    rw [Bool.eq_iff_iff]
    constructor
    · intro ha
      obtain ⟨nm, rfl⟩ := str hA k ha
      rw [(h2 nm).1, ← (h1 nm).1]; exact ha
    · intro hb
      obtain ⟨nm, rfl⟩ := str hB k hb
      rw [(h1 nm).1, ← (h2 nm).1]; exact hb
  refine Maps.ext hA.canon hB.canon hh fun k z ha => ?_
  obtain ⟨nm, rfl⟩ := str hA k ha
  have hb : Maps.has B (kl nm) = true := by rw [← hh]; exact ha
  rw [atKey_const ha z (.lit (.int .i64 0)), atKey_const hb z (.lit (.int .i64 0)), fA nm, fB nm, key nm ha]

/-- The copy's invariant. -/
theorem inv_copy {w w' : World} {g g' : Gh} {s s' : St} {tb t n : Nat} {T : List (Nat × Nat)} (h : Inv s g.ids n) (hc : Cp w w' g s g' s' tb t T) (hf : OkF s'.files) (h1 : Like T s.names s'.names) (h2 : Like T s.lasting s'.lasting) (h3 : TwL T s.changes s'.changes)
    (q : s'.quota = s.quota) (fu : s'.fuse = s.fuse) : Inv s' g'.ids n := by
  have hsm : ∀ c ∈ s'.changes, small c := fun c hm => by
    obtain ⟨i, hi, rfl⟩ := List.getElem_of_mem hm
    have hi' : i < s.changes.length := by rw [← h3.1]; exact hi
    have ht := h3.2 i _ _ (List.getElem?_eq_getElem hi') (List.getElem?_eq_getElem hi)
    have hs := h.sm _ (List.getElem_mem hi')
    generalize s.changes[i] = a at ht hs
    generalize s'.changes[i] = b at ht
    cases a <;> cases b <;> first | exact ht.elim | (obtain ⟨rfl, -⟩ := ht; exact hs) | (obtain ⟨rfl, rfl⟩ := ht; exact hs) | (obtain rfl := ht; exact hs)
  have kL := ck_owns hc.rep'.ls
  have kLo : CK s.lasting := ck_owns hc.rep.ls
  have hmL := hc.rep'.ls.isMap
  have hlk := like_replay h hmL h2 h3
  have hin : ∀ x y, T.lookup x = some y → y ∈ g'.ids := fun x y hxy => (hc.vals _ (mem_of_lookup hxy)).1
  have hid : ∀ {D D' : Dm}, Like T D D' → IdsD D' g'.ids := fun {D D'} hl nm hn => by
    obtain ⟨x, y, _, e2, e3⟩ := (hl nm).2 hn
    exact ⟨y, hin x y e3, e2⟩
  have kR : ∀ k, CK (replay s'.lasting (s'.changes.take k)) := fun k => kL.replay fun c hm => hsm c (List.mem_of_mem_take hm)
  have kRo : ∀ k, CK (replay s.lasting (s.changes.take k)) := fun k => kLo.replay fun c hm => h.sm c (List.mem_of_mem_take hm)
  have hsz : ∀ {D D' : Dm}, CK D → CK D' → Like T D D' → Maps.size D' = Maps.size D := fun {D D'} kD kD' hl => by
    rw [← keysOf_len kD.str, ← keysOf_len kD'.str]
    have e : ∀ x : List UInt8, x ∈ strKeys D' ↔ x ∈ strKeys D := fun x => by
      rw [strKeys_has kD.str, strKeys_has kD'.str]
      have := (hl ⟨x.toArray⟩).1
      rw [show kl ⟨x.toArray⟩ = .string x by simp [kl]] at this
      rw [this]
    unfold keysOf
    rw [List.length_mergeSort, List.length_mergeSort]
    have nd : ∀ {X : Dm}, CK X → (strKeys X).Nodup := fun {X} hX => by
      obtain ⟨es, e0, hs⟩ := hX.str
      obtain ⟨es', e1, r, _⟩ := hX
      rw [e0] at e1
      cases e1
      subst e0
      unfold strKeys
      refine List.pairwise_map.2 ((apart_of_rising r).imp_of_mem (fun {p q} hp hq hne e => ?_))
      obtain ⟨x, hx⟩ := hs p hp
      obtain ⟨y, hy⟩ := hs q hq
      rw [hx, hy] at hne e
      exact hne (by simpa [strOf] using e)
    exact ((List.perm_ext_iff_of_nodup (nd kD') (nd kD)).2 e).length_eq
  refine ⟨?_, hc.rep'.ls.tidy law, fun k => hid (hlk k), hsm, fun k => by rw [hsz (kRo k) (kR k) (hlk k)]; exact h.sz k, by rw [h3.1]; exact h.cl, hf, by rw [q]; exact h.q0, by rw [q]; exact h.q1, by rw [fu]; exact h.f0, by rw [fu]; exact h.f1⟩
  have hfin := hlk s.changes.length
  rw [List.take_length, ← h.nm, ← h3.1, List.take_length] at hfin
  exact like_eq (ck_owns hc.rep'.nm) (kL.replay hsm) (flat_owns hc.rep'.nm) (Flat.replay hmL (flat_owns hc.rep'.ls)) h1 hfin
end Go.Proofs.Ytijdgmbpkfmciaa.Fs
