/- The file system: FsRoom in plain words: what each call does to the room. -/
import Derived.Test.YtijdgmbpkfmciaaZe
namespace Go.Proofs.Ytijdgmbpkfmciaa.Fs
open Go.RowKit Go.Maps Go.ChangeMaps Go.WideMaps Go.Joins Go.Sort

variable {Q : Int} {s : St} {ids ids' : List Nat}
theorem isAB.cases {nm : ByteArray} (h : isAB nm) : (nm = nmA ∧ ∀ P : ByteArray → Prop, P nmA → P nmB → P nm) ∨ (nm = nmB ∧ ∀ P : ByteArray → Prop, P nmA → P nmB → P nm) := by
  rcases h with rfl | rfl
  · exact .inl ⟨rfl, fun _ a _ => a⟩
  · exact .inr ⟨rfl, fun _ _ b => b⟩
theorem changed_live {s : St} (hf : s.fuse = -1) (c : Chg) : (changed s c).names = app s.names c ∧ (changed s c).files = s.files ∧ (changed s c).quota = s.quota ∧ (changed s c).dead = s.dead ∧ (changed s c).fuse = -1 := by
  unfold changed
  rw [if_neg (by rw [hf]; decide)]
  exact ⟨rfl, rfl, rfl, rfl, by show burnF s.fuse = -1; rw [hf]; decide⟩

/-- From what look and the lengths are. -/
theorem room_mk {s' : St} (h : Room Q s ids) (hq : s'.quota = s.quota) (hd : s'.dead = s.dead) (hf : s'.fuse = -1) (hk : ∀ x, Maps.has s'.names (.string x) = true → x = [97] ∨ x = [98])
    (hi : look s'.names nmA ≠ 0 → look s'.names nmA ≠ look s'.names nmB) (hu : ((lenN s' nmA + lenN s' nmB : Nat) : Int) ≤ Q) (hg : IdsD s'.names ids') (htd : Tidy s'.names) (hsm : StrMap s'.names) : Room Q s' ids' :=
  ⟨hq.trans h.q, hd.trans h.d, hf, hk, hi, hu, hg, htd, hsm⟩
theorem kl_ab {nm : ByteArray} (hn : isAB nm) {x : List UInt8} (h : Lit.string x = kl nm) : x = [97] ∨ x = [98] := by
  rcases hn with rfl | rfl
  · left; have : x = nmA.data.toList := by simpa [kl] using h
    rw [this]; rfl
  · right; have : x = nmB.data.toList := by simpa [kl] using h
    rw [this]; rfl

theorem room_create {nm : ByteArray} {f : Nat} (h : Room Q s ids) (hn : isAB nm) (hf : f ∉ ids) (hg : IdsD (createS s nm f).names ids') (htd : Tidy (createS s nm f).names) (hsm : StrMap (createS s nm f).names) :
    Room Q (createS s nm f) ids' ∧ lenN (createS s nm f) nmA = lenN s nmA ∧ lenN (createS s nm f) nmB = lenN s nmB ∧ look (createS s nm f).names nm ≠ 0 := by
  have hnm : namedE s.dead [nm] = 0 := by rw [h.d]; exact hn.named
  by_cases hl : look s.names nm = 0
  · have e : createS s nm f = changed (addFile s f) (.create nm f) := by unfold createS; rw [if_pos ⟨hnm, hl⟩]
    obtain ⟨e1, e2, e3, e4, e5⟩ := changed_live (s := addFile s f) h.f (.create nm f)
    rw [← e] at e1 e2 e3 e4 e5
    have l1 : look (createS s nm f).names nm = f + 1 := by rw [e1]; exact look_put_same h.td.isMap nm _
    have l2 : ∀ nm2, nm2 ≠ nm → look (createS s nm f).names nm2 = look s.names nm2 := fun nm2 h2 => by rw [e1]; exact look_put_other h2 _
    have n1 : lenN (createS s nm f) nm = lenN s nm := by
      unfold lenN
      rw [if_pos hl, l1, if_neg (by omega), Nat.add_sub_cancel, e2]
      simp [addFile]
    have n2 : ∀ nm2, nm2 ≠ nm → lenN (createS s nm f) nm2 = lenN s nm2 := fun nm2 h2 => by
      unfold lenN
      rw [l2 nm2 h2, e2]
      rcases h.g.look nm2 with e0 | ⟨f', hf', e0⟩
      · rw [if_pos e0, if_pos e0]
      · have : f' ≠ f := fun e => hf (e ▸ hf')
        rw [if_neg (by omega), if_neg (by omega), e0, Nat.add_sub_cancel]
        simp [addFile, this]
    have nn : ∀ nm2, lenN (createS s nm f) nm2 = lenN s nm2 := fun nm2 => by
      by_cases e : nm2 = nm
      · rw [e]; exact n1
      · exact n2 nm2 e
    have fresh : ∀ nm2, look s.names nm2 ≠ f + 1 := fun nm2 e => by
      rcases h.g.look nm2 with e0 | ⟨f', hf', e0⟩
      · omega
      · have : f' = f := by omega
        exact hf (this ▸ hf')
    refine ⟨room_mk h e3 e4 e5 ?_ ?_ (by rw [nn, nn]; exact h.u) hg htd hsm, nn _, nn _, by omega⟩
    · intro x hx
      rw [e1] at hx
      by_cases ex : Lit.string x = kl nm
      · exact kl_ab hn ex
      · rw [show app (addFile s f).names (.create nm f) = s.names.put (kl nm) (.lit (.int .i64 (f + 1 : Nat))) from rfl, has_put_other ex] at hx
        exact h.k x hx
    · rcases hn with rfl | rfl
      · rw [l1, l2 nmB (fun e => nmAB e.symm)]
        intro _ e0
        exact fresh nmB e0.symm
      · rw [l1, l2 nmA nmAB]
        intro _ e0
        exact fresh nmA e0
  · have e : createS s nm f = s := by unfold createS; rw [if_neg (fun h => hl h.2)]
    rw [e] at hg htd hsm ⊢
    exact ⟨room_mk h rfl rfl h.f h.k h.i h.u hg htd hsm, rfl, rfl, hl⟩

theorem room_of {nm : ByteArray} (h : Room Q s ids) (hn : isAB nm) (hl : look s.names nm ≠ 0) : ofE s nm = 0 := (room_read h hn hl).1
theorem room_append {nm : ByteArray} (h : Room Q s ids) (hn : isAB nm) (hl : look s.names nm ≠ 0) (bs : List UInt8) (hg : IdsD (appendS s nm bs).names ids') (htd : Tidy (appendS s nm bs).names) (hsm : StrMap (appendS s nm bs).names) :
    Room Q (appendS s nm bs) ids' ∧ (((bs.length : Int) ≤ Q - (used s : Nat)) ∧ appendE s nm bs.length = 0 ∧ used (appendS s nm bs) = used s + bs.length ∨ ¬ ((bs.length : Int) ≤ Q - (used s : Nat)) ∧ appendE s nm bs.length = 60) := by
  have hE := room_of h hn hl
  by_cases hq : fitsQ s bs.length
  · have hq' : (bs.length : Int) ≤ Q - (used s : Nat) := by unfold fitsQ at hq; rw [h.q] at hq; exact hq
    have e : appendS s nm bs = setFile (burned s) (look s.names nm - 1) ((s.files (look s.names nm - 1)).1 ++ bs, (s.files (look s.names nm - 1)).2) := by
      unfold appendS; rw [if_pos hE, if_pos hq, if_neg (by rw [h.f]; decide)]
    have eE : appendE s nm bs.length = 0 := by unfold appendE; rw [if_pos hE, if_pos hq, h.f]; rfl
    have n1 : lenN (appendS s nm bs) nm = lenN s nm + bs.length := by
      unfold lenN
      rw [if_neg hl, e]
      show (if look s.names nm = 0 then 0 else ((if look s.names nm - 1 = look s.names nm - 1 then _ else s.files (look s.names nm - 1)) : List UInt8 × Nat).1.length) = _
      rw [if_neg hl, if_pos rfl]; simp
    have n2 : ∀ nm2, look s.names nm2 ≠ look s.names nm → lenN (appendS s nm bs) nm2 = lenN s nm2 := fun nm2 h2 => by
      unfold lenN
      rw [e]
      show (if look s.names nm2 = 0 then 0 else ((if look s.names nm2 - 1 = look s.names nm - 1 then _ else s.files (look s.names nm2 - 1)) : List UInt8 × Nat).1.length) = _
      by_cases h0 : look s.names nm2 = 0
      · rw [if_pos h0, if_pos h0]
      · rw [if_neg h0, if_neg h0, if_neg (by omega)]
    have hsum : lenN (appendS s nm bs) nmA + lenN (appendS s nm bs) nmB = lenN s nmA + lenN s nmB + bs.length := by
      rcases hn with rfl | rfl
      · rw [n1, n2 nmB (fun e => h.i hl e.symm)]; omega
      · by_cases ha : look s.names nmA = 0
        · rw [n1, n2 nmA (by rw [ha]; exact fun e => hl e.symm)]; omega
        · rw [n1, n2 nmA (h.i ha)]; omega
    have hR : Room Q (appendS s nm bs) ids' := by
      refine room_mk h (by rw [e]; rfl) (by rw [e]; show (s.dead || s.fuse == 0) = s.dead; rw [h.d, h.f]; rfl) (by rw [e]; show burnF s.fuse = -1; rw [h.f]; decide) (by rw [e]; exact h.k) (by rw [e]; exact h.i) ?_ hg htd hsm
      rw [hsum]
      have := room_used h
      omega
    exact ⟨hR, .inl ⟨hq', eE, by rw [room_used hR, room_used h, hsum]⟩⟩
  · have hq' : ¬ (bs.length : Int) ≤ Q - (used s : Nat) := by unfold fitsQ at hq; rw [h.q] at hq; exact hq
    have e : appendS s nm bs = s := by unfold appendS; rw [if_pos hE, if_neg hq]
    rw [e] at hg htd hsm ⊢
    exact ⟨room_mk h rfl rfl h.f h.k h.i h.u hg htd hsm, .inr ⟨hq', by unfold appendE; rw [if_pos hE, if_neg hq]⟩⟩
theorem room_remove {nm : ByteArray} (h : Room Q s ids) (hn : isAB nm) (hg : IdsD (removeS s nm).names ids') (htd : Tidy (removeS s nm).names) (hsm : StrMap (removeS s nm).names) : Room Q (removeS s nm) ids' := by
  by_cases hl : look s.names nm = 0
  · have hE : ofE s nm ≠ 0 := by unfold ofE; rw [h.d, hn.named, if_pos rfl, if_pos hl]; decide
    have e : removeS s nm = s := by unfold removeS; rw [if_neg hE]
    rw [e] at hg htd hsm ⊢
    exact room_mk h rfl rfl h.f h.k h.i h.u hg htd hsm
  · have e : removeS s nm = changed s (.remove nm) := by unfold removeS; rw [if_pos (room_of h hn hl)]
    obtain ⟨e1, e2, e3, e4, e5⟩ := changed_live h.f (.remove nm)
    rw [← e] at e1 e2 e3 e4 e5
    have l1 : look (removeS s nm).names nm = 0 := by rw [e1]; exact look_del_same nm
    have l2 : ∀ nm2, nm2 ≠ nm → look (removeS s nm).names nm2 = look s.names nm2 := fun nm2 h2 => by rw [e1]; exact look_del_other h2
    have n2 : ∀ nm2, lenN (removeS s nm) nm2 ≤ lenN s nm2 := fun nm2 => by
      by_cases en : nm2 = nm
      · subst en; unfold lenN; rw [if_pos l1]; exact Nat.zero_le _
      · unfold lenN; rw [l2 nm2 en, e2]; exact Nat.le_refl _
    refine room_mk h e3 e4 e5 ?_ ?_ ?_ hg htd hsm
    · intro x hx
      rw [e1] at hx
      by_cases ex : Lit.string x = kl nm
      · exact kl_ab hn ex
      · rw [show app s.names (.remove nm) = s.names.del (kl nm) from rfl, has_del_other ex] at hx
        exact h.k x hx
    · rcases hn with rfl | rfl
      · rw [l1]; intro h0; exact absurd rfl h0
      · rw [l1, l2 nmA nmAB]; intro h0; exact h0
    · have := n2 nmA; have := n2 nmB; have := h.u; omega
theorem room_rename (h : Room Q s ids) (hg : IdsD (renameS s nmA nmB).names ids') (htd : Tidy (renameS s nmA nmB).names) (hsm : StrMap (renameS s nmA nmB).names) : Room Q (renameS s nmA nmB) ids' := by
  have hn : namedE s.dead [nmA, nmB] = 0 := by rw [h.d]; exact namedAB
  by_cases hl : look s.names nmA = 0
  · have e : renameS s nmA nmB = s := by unfold renameS; rw [if_pos hn, if_pos hl]
    rw [e] at hg htd hsm ⊢
    exact room_mk h rfl rfl h.f h.k h.i h.u hg htd hsm
  · have e : renameS s nmA nmB = changed s (.rename nmA nmB) := by unfold renameS; rw [if_pos hn, if_neg hl, if_neg nmAB]
    obtain ⟨e1, e2, e3, e4, e5⟩ := changed_live h.f (.rename nmA nmB)
    rw [← e] at e1 e2 e3 e4 e5
    have l1 : look (renameS s nmA nmB).names nmA = 0 := by rw [e1]; exact look_del_same nmA
    have l2 : look (renameS s nmA nmB).names nmB = look s.names nmA := by
      rw [e1]
      show look ((s.names.put (kl nmB) (.lit (.int .i64 (look s.names nmA)))).del (kl nmA)) nmB = _
      rw [look_del_other (fun e => nmAB e.symm), look_put_same h.td.isMap]
    refine room_mk h e3 e4 e5 ?_ ?_ ?_ hg htd hsm
    · intro x hx
      rw [e1] at hx
      rw [show app s.names (.rename nmA nmB) = (s.names.put (kl nmB) (.lit (.int .i64 (look s.names nmA)))).del (kl nmA) from rfl] at hx
      by_cases ea : Lit.string x = kl nmA
      · exact kl_ab (.inl rfl) ea
      · rw [has_del_other ea] at hx
        by_cases eb : Lit.string x = kl nmB
        · exact kl_ab (.inr rfl) eb
        · rw [has_put_other eb] at hx
          exact h.k x hx
    · rw [l1]; intro h0; exact absurd rfl h0
    · have a1 : lenN (renameS s nmA nmB) nmA = 0 := by unfold lenN; rw [if_pos l1]
      have a2 : lenN (renameS s nmA nmB) nmB = lenN s nmA := by unfold lenN; rw [l2, e2]
      rw [a1, a2]
      have := h.u
      omega
theorem room_new {q : Int} (h0 : 0 ≤ q) (ids : List Nat) : Room q (newS q) ids :=
  ⟨rfl, rfl, rfl, (fun _ hx => by cases hx), fun h => absurd rfl h, h0, idsD_empty ids, tidy_empty, strMap_empty⟩
/-- The lengths of the names' files, one behind the other. -/
def lensOf (s : St) : List Nat := (namesAB s).map fun x => (readL s ⟨x.toArray⟩).length
theorem lens_sum (h : Room Q s ids) : (lensOf s).sum = used s := by
  rw [room_used h]
  have ea : (⟨([97] : List UInt8).toArray⟩ : ByteArray) = nmA := rfl
  have eb : (⟨([98] : List UInt8).toArray⟩ : ByteArray) = nmB := rfl
  unfold lensOf namesAB
  by_cases ha : look s.names nmA = 0 <;> by_cases hb : look s.names nmB = 0
  · simp [ha, hb, lenN]
  · have := (room_read h (.inr rfl) hb).2
    simp only [if_pos ha, if_neg hb, List.nil_append, List.map_cons, List.map_nil, List.sum_cons, List.sum_nil, eb, this]
    unfold lenN; rw [if_pos ha]; omega
  · have := (room_read h (.inl rfl) ha).2
    simp only [if_neg ha, if_pos hb, List.append_nil, List.map_cons, List.map_nil, List.sum_cons, List.sum_nil, ea, this]
    unfold lenN; rw [if_pos hb]
  · have h1 := (room_read h (.inl rfl) ha).2
    have h2 := (room_read h (.inr rfl) hb).2
    simp only [if_neg ha, if_neg hb, List.cons_append, List.nil_append, List.map_cons, List.map_nil, List.sum_cons, List.sum_nil, ea, eb, h1, h2]
    omega
theorem room_list (h : Room Q s ids) : listed s ⟨#[]⟩ = namesAB s := by
  unfold listed
  rw [keys_ab h, List.filter_eq_self.2 (fun x _ => by simp [keepP, h.d, Lib.hasPrefix])]
theorem room_each (h : Room Q s ids) {x : List UInt8} (hx : x ∈ namesAB s) : ofE s ⟨x.toArray⟩ = 0 ∧ x.length = 1 := by
  unfold namesAB at hx
  rcases List.mem_append.1 hx with h1 | h1
  · split at h1
    · simp at h1
    · rename_i hn
      rw [List.mem_singleton.1 h1]
      exact ⟨room_of h (.inl rfl) hn, rfl⟩
  · split at h1
    · simp at h1
    · rename_i hn
      rw [List.mem_singleton.1 h1]
      exact ⟨room_of h (.inr rfl) hn, rfl⟩
end Go.Proofs.Ytijdgmbpkfmciaa.Fs
