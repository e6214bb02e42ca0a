/- The file system: Copy by the invariant; what a copy tells. -/
import Derived.Test.YtijdgmbpkfmciaaZo
import Derived.Test.YtijdgmbpkfmciaaZr
import Derived.Test.YtijdgmbpkfmciaaZq
namespace Go.Proofs.Ytijdgmbpkfmciaa.Fs
open Go.RowKit Go.Maps Go.ChangeMaps Go.WideMaps Go.Joins Go.Sort Go.WideShapes

/-- A copy tells the same, each file by its twin. -/
structure Alike (T : List (Nat × Nat)) (s s' : St) : Prop where
  nm : Like T s.names s'.names
  ls : Like T s.lasting s'.lasting
  ch : TwL T s.changes s'.changes
  q : s'.quota = s.quota
  fu : s'.fuse = s.fuse
  de : s'.dead = s.dead
  fl : ∀ x y, T.lookup x = some y → s'.files y = s.files x
  inj : ∀ a b y, T.lookup a = some y → T.lookup b = some y → a = b
  ck : CK s.names
  ck' : CK s'.names
  f : Flat s.names
  f' : Flat s'.names

theorem sys_copy {P n : Nat} {w0 w : World} {g : Gh} {s : St} (h : Sys P n w0 w g s) (hn : n ≤ 1000000) :
    Calls Try.prog 25 #[.pointer (some ⟨P, 0, none⟩)] w fun e w' => ∃ P' g' s' T, e = .returned (.pointer (some ⟨P', 0, none⟩)) ∧ Sys P' n w0 w' g' s' ∧ Below w.heap.size w w' ∧ (∀ b ∈ foot g', w.heap.size ≤ b) ∧ Alike T s s' := by
  have hc := copy_any g s w h.rep n h.inv hn
  rw [h.p] at hc
  refine hc.mono ?_
  rintro e w' ⟨g', s', tb, t, T, rfl, hcp, hok, h1, h2, h3, q, fu, de⟩
  exact ⟨g'.p, g', s', T, rfl, ⟨rfl, hcp.rep', inv_copy h.inv hcp hok h1 h2 h3 q fu, h.bel.trans (hcp.old.mono h.bel.size), fun b hb => Nat.le_trans h.bel.size (hcp.new b hb)⟩, hcp.old, hcp.new,
    ⟨h1, h2, h3, q, fu, de, fun x y hxy => (hcp.vals _ (mem_of_lookup hxy)).2, hcp.inj, ck_owns h.rep.nm, ck_owns hcp.rep'.nm, flat_owns h.rep.nm, flat_owns hcp.rep'.nm⟩⟩

theorem okn_copy {T : List (Nat × Nat)} {s s' : St} (h : Okn s) (ha : Alike T s s') : Okn s' := by
  refine ⟨fun nm hn => h.ls nm (by rw [← (ha.ls nm).1]; exact hn), fun c hm => ?_⟩
  obtain ⟨i, hi, rfl⟩ := List.getElem_of_mem hm
  have hi' : i < s.changes.length := by rw [← ha.ch.1]; exact hi
  have ht := ha.ch.2 i _ _ (List.getElem?_eq_getElem hi') (List.getElem?_eq_getElem hi)
  have hs := h.ch _ (List.getElem_mem hi')
  generalize s.changes[i] = a at ht hs
  generalize s'.changes[i] = b at ht
  cases a <;> cases b <;> first | exact ht.elim | (obtain ⟨rfl, -⟩ := ht; exact hs) | (obtain ⟨rfl, rfl⟩ := ht; exact hs) | (obtain rfl := ht; exact hs)

theorem like_zero {T : List (Nat × Nat)} {D D' : Dm} {ids : List Nat} (h : Like T D D') (hI : IdsD D ids) (nm : ByteArray) : (look D nm = 0 ↔ look D' nm = 0) := by
  have h1 := hI.has_iff nm
  constructor
  · intro e
    cases hh : Maps.has D' (kl nm) with
    | false => exact look_none hh
    | true =>
      rw [(h nm).1] at hh
      exact absurd e (h1.1 hh)
  · intro e
    by_cases hz : look D nm = 0
    · exact hz
    · have hh := (h nm).1.trans (h1.2 hz)
      obtain ⟨x, y, _, e2, _⟩ := (h nm).2 hh
      omega
theorem alike_of {T : List (Nat × Nat)} {s s' : St} {ids : List Nat} (h : Alike T s s') (hI : IdsD s.names ids) (nm : ByteArray) : ofE s' nm = ofE s nm := by
  unfold ofE
  rw [h.de]
  by_cases hz : look s.names nm = 0
  · rw [hz, (like_zero h.nm hI nm).1 hz]
  · have hz' : ¬ look s'.names nm = 0 := fun e => hz ((like_zero h.nm hI nm).2 e)
    rw [if_neg hz, if_neg hz']
theorem alike_read {T : List (Nat × Nat)} {s s' : St} {ids : List Nat} (h : Alike T s s') (hI : IdsD s.names ids) (nm : ByteArray) : readL s' nm = readL s nm := by
  unfold readL
  rw [alike_of h hI]
  split
  · rename_i hE
    obtain ⟨-, hz, -⟩ := ofE_zero hE
    have hh := (hI.has_iff nm).2 hz
    obtain ⟨x, y, e1, e2, e3⟩ := (h.nm nm).2 ((h.nm nm).1.trans hh)
    rw [e1, e2]
    simp only [Nat.add_sub_cancel]
    rw [h.fl x y e3]
  · rfl
/-- The entries in order, each told by a number. -/
theorem like_ents {T : List (Nat × Nat)} {D D' : Dm} (kD : CK D) (kD' : CK D') (fD : Flat D) (fD' : Flat D') (h : Like T D D') (φ φ' : Dm → Nat)
    (hφ : ∀ x y, T.lookup x = some y → φ (.lit (.int .i64 (x + 1 : Nat))) = φ' (.lit (.int .i64 (y + 1 : Nat)))) :
    (entsOf D).map (fun p => (p.1, φ p.2)) = (entsOf D').map (fun p => (p.1, φ' p.2)) := by
  have key : ∀ {A B : Dm}, CK A → CK B → Flat A → Flat B → (∀ nm : ByteArray, Maps.has A (kl nm) = true → Maps.has B (kl nm) = true) → ∀ (ψ ψ' : Dm → Nat), (∀ nm : ByteArray, Maps.has A (kl nm) = true → ψ (.lit (.int .i64 (look A nm : Nat))) = ψ' (.lit (.int .i64 (look B nm : Nat)))) →
      ∀ q : Lit × Dm, q ∈ (entsOf A).map (fun p => (p.1, (.lit (.int .i64 (ψ p.2 : Nat)) : Dm))) → q ∈ (entsOf B).map (fun p => (p.1, (.lit (.int .i64 (ψ' p.2 : Nat)) : Dm))) := by
    intro A B kA kB fA fB hAB ψ ψ' hψ q hq
    obtain ⟨p, hp, rfl⟩ := List.mem_map.1 hq
    obtain ⟨es, rfl, hs⟩ := kA.str
    obtain ⟨x, hx⟩ := hs p hp
    have hpk : p.1 = kl ⟨x.toArray⟩ := by rw [hx]; simp [kl]
    have hhA : Maps.has (.map es : Dm) (kl ⟨x.toArray⟩) = true := by
      rw [has_eq, List.any_eq_true]
      exact ⟨p, hp, by rw [hpk]; exact WideAt.sameKey_self (kl_isKey _)⟩
    have hpv : p.2 = .lit (.int .i64 (look (.map es) ⟨x.toArray⟩ : Nat)) := by
      rw [← fA ⟨x.toArray⟩, ← hpk]
      obtain ⟨es', e1, r, ks⟩ := kA
      cases e1
      exact (WideAt.atKey_mem _ (hpk ▸ kl_isKey _) (apart_of_rising r) hp).symm
    have hhB := hAB _ hhA
    have hm : (kl ⟨x.toArray⟩, (.lit (.int .i64 (look B ⟨x.toArray⟩ : Nat)) : Dm)) ∈ entsOf B := entry_of kB.isMap ⟨_, rfl⟩ (fun z => by rw [atKey_const hhB z (.lit (.int .i64 0))]; exact fB _)
    refine List.mem_map.2 ⟨_, hm, ?_⟩
    rw [hpk, hpv, hψ _ hhA]
  have hl : ∀ nm : ByteArray, Maps.has D (kl nm) = true → φ (.lit (.int .i64 (look D nm : Nat))) = φ' (.lit (.int .i64 (look D' nm : Nat))) := fun nm hn => by
    obtain ⟨x, y, e1, e2, e3⟩ := (h nm).2 ((h nm).1.trans hn)
    rw [e1, e2]; exact hφ x y e3
  have pw : ∀ {A : Dm}, CK A → ∀ ψ : Dm → Nat, ((entsOf A).map (fun p => (p.1, (.lit (.int .i64 (ψ p.2 : Nat)) : Dm)))).Pairwise (fun p q => p.1.before q.1 = true) := fun {A} kA ψ => by
    obtain ⟨es, rfl, r, _⟩ := kA
    exact List.pairwise_map.2 r
  have e := eq_of_mem_rising (pw kD φ) (pw kD' φ') (fun q => ⟨key kD kD' fD fD' (fun nm hn => (h nm).1.trans hn) φ φ' hl q, key kD' kD fD' fD (fun nm hn => by rw [← (h nm).1]; exact hn) φ' φ (fun nm hn => (hl nm (by rw [← (h nm).1]; exact hn)).symm) q⟩)
  have e2 := congrArg (List.map fun q : Lit × Dm => (q.1, match q.2 with | .lit (.int _ k) => k.toNat | _ => 0)) e
  simp only [List.map_map] at e2
  have c : ∀ (A : Dm) (ψ : Dm → Nat), ((fun q : Lit × Dm => (q.1, match q.2 with | .lit (.int _ k) => k.toNat | _ => 0)) ∘ fun p : Lit × Dm => (p.1, (.lit (.int .i64 (ψ p.2 : Nat)) : Dm))) = fun p => (p.1, ψ p.2) := fun A ψ => by
    funext p; simp
  rw [c D, c D'] at e2
  exact e2
theorem like_keys {T : List (Nat × Nat)} {D D' : Dm} (kD : CK D) (kD' : CK D') (fD : Flat D) (fD' : Flat D') (h : Like T D D') : keysOf D' = keysOf D := by
  have e := congrArg (List.map fun q : Lit × Nat => strOf q.1) (like_ents kD kD' fD fD' h (fun _ => 0) (fun _ => 0) (fun _ _ _ => rfl))
  simp only [List.map_map] at e
  obtain ⟨es, rfl, -⟩ := kD.str
  obtain ⟨es', rfl, -⟩ := kD'.str
  unfold keysOf
  congr 1
  exact e.symm
theorem alike_listed {T : List (Nat × Nat)} {s s' : St} (h : Alike T s s') (p : ByteArray) : listed s' p = listed s p := by
  unfold listed
  rw [like_keys h.ck h.ck' h.f h.f' h.nm]
  congr 1
  funext x
  unfold keepP
  rw [h.de]
theorem alike_used {T : List (Nat × Nat)} {s s' : St} (h : Alike T s s') : used s' = used s := by
  have e := like_ents h.ck h.ck' h.f h.f' h.nm (lenAt s) (lenAt s') (fun x y hxy => by
    unfold lenAt
    simp only
    have := h.fl x y hxy
    simp [this])
  have e2 := congrArg (fun l : List (Lit × Nat) => (l.map (·.2)).sum) e
  simp only [List.map_map] at e2
  unfold used sumE
  simp only [Bool.false_eq_true, if_false]
  exact e2.symm
end Go.Proofs.Ytijdgmbpkfmciaa.Fs
