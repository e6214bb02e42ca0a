/- The file system: FsRoom in plain words. -/
import Derived.Test.YtijdgmbpkfmciaaX
namespace Go.Proofs.Ytijdgmbpkfmciaa.Fs
open Go.RowKit Go.Maps Go.ChangeMaps Go.WideMaps Go.Joins Go.Sort

def nmB : ByteArray := ⟨#[98]⟩
theorem namedB : namedE false [nmB] = 0 := by decide
theorem namedAB : namedE false [nmA, nmB] = 0 := by decide
theorem nmAB : nmA ≠ nmB := by decide
def isAB (nm : ByteArray) : Prop := nm = nmA ∨ nm = nmB
theorem isAB.named {nm : ByteArray} (h : isAB nm) : namedE false [nm] = 0 := by
  rcases h with rfl | rfl
  · exact namedA
  · exact namedB

/-- How long the file is that stands there. -/
def lenN (s : St) (nm : ByteArray) : Nat := if look s.names nm = 0 then 0 else (s.files (look s.names nm - 1)).1.length

structure Room (Q : Int) (s : St) (ids : List Nat) : Prop where
  q : s.quota = Q
  d : s.dead = false
  f : s.fuse = -1
  k : ∀ x, Maps.has s.names (.string x) = true → x = [97] ∨ x = [98]
  i : look s.names nmA ≠ 0 → look s.names nmA ≠ look s.names nmB
  u : ((lenN s nmA + lenN s nmB : Nat) : Int) ≤ Q
  g : IdsD s.names ids
  td : Tidy s.names
  sm : StrMap s.names

def numOf (d : Dm) : Nat := match d with | .lit (.int _ k) => k.toNat | _ => 0
theorem look_num (D : Dm) (s : ByteArray) : look D s = numOf (D.atKey (kl s) (.lit (.int .i64 0))) := by
  unfold look numOf
  generalize D.atKey (kl s) (.lit (.int .i64 0)) = d
  cases d with
  | lit l => cases l <;> rfl
  | _ => rfl
theorem len_num (s : St) (d : Dm) (h : numOf d ≠ 0) : lenAt s d = (s.files (numOf d - 1)).1.length := by
  unfold numOf at h ⊢
  unfold lenAt
  cases d with
  | lit l => cases l <;> first | rfl | exact absurd rfl h
  | _ => exact absurd rfl h
theorem at_head (k : Lit) (d : Dm) (es : List (Lit × Dm)) (z : Dm) (h : k.sameKey k = true) : (DataW.map ((k, d) :: es) : Dm).atKey k z = d := by
  unfold DataW.atKey
  simp [h]
theorem at_skip (k k' : Lit) (d : Dm) (es : List (Lit × Dm)) (z : Dm) (h : k.sameKey k' = false) : (DataW.map ((k, d) :: es) : Dm).atKey k' z = (DataW.map es : Dm).atKey k' z := by
  unfold DataW.atKey
  simp [h]
theorem look_head (nm : ByteArray) (d : Dm) (es : List (Lit × Dm)) : look (.map ((kl nm, d) :: es)) nm = numOf d := by
  rw [look_num, at_head _ _ _ _ (by unfold kl; simp [Lit.sameKey])]
theorem look_skip (nm nm' : ByteArray) (hn : nm ≠ nm') (d : Dm) (es : List (Lit × Dm)) : look (.map ((kl nm, d) :: es)) nm' = look (.map es) nm' := by
  rw [look_num, look_num, at_skip _ _ _ _ _ (sameKey_ne (kl_ne hn))]
theorem has_head (nm : ByteArray) (d : Dm) (es : List (Lit × Dm)) : Maps.has (.map ((kl nm, d) :: es) : Dm) (kl nm) = true := by
  rw [has_eq]
  simp [kl, Lit.sameKey]

/-- What is used: the one's bytes and the other's. -/
theorem used_ab {s : St} {ids : List Nat} (hg : IdsD s.names ids) (htd : Tidy s.names) (hsm : StrMap s.names) (hk : ∀ x, Maps.has s.names (.string x) = true → x = [97] ∨ x = [98]) : used s = lenN s nmA + lenN s nmB := by
  obtain ⟨es, he, hpw⟩ := htd
  obtain ⟨es', he', hst⟩ := hsm
  rw [he] at he'
  cases he'
  have hkey : ∀ p ∈ es, p.1 = kl nmA ∨ p.1 = kl nmB := fun p hp => by
    obtain ⟨x, hx⟩ := hst p hp
    have := hk x (by rw [he, has_eq, List.any_eq_true]; exact ⟨p, hp, by rw [hx]; simp [Lit.sameKey]⟩)
    rcases this with rfl | rfl
    · exact .inl hx
    · exact .inr hx
  have hnz : ∀ nm, Maps.has s.names (kl nm) = true → look s.names nm ≠ 0 := fun nm h => (hg.has_iff nm).1 h
  unfold used lenN
  rw [he] at hnz ⊢
  have nba : nmB ≠ nmA := fun e => nmAB e.symm
  match es, hpw, hkey, hnz with
  | [], _, _, _ => rfl
  | [(k1, d1)], _, hkey, hnz =>
    rcases hkey (k1, d1) (List.mem_cons_self ..) with e | e
    · simp only at e; subst e
      have h1 := hnz nmA (has_head nmA d1 [])
      rw [look_head] at h1
      rw [look_head, look_skip nmA nmB nmAB, look_empty]
      show lenAt s d1 + 0 = _
      rw [len_num s d1 h1, if_neg h1]; simp
    · simp only at e; subst e
      have h1 := hnz nmB (has_head nmB d1 [])
      rw [look_head] at h1
      rw [look_head, look_skip nmB nmA nba, look_empty]
      show lenAt s d1 + 0 = _
      rw [len_num s d1 h1, if_neg h1]; simp
  | [(k1, d1), (k2, d2)], hpw, hkey, hnz =>
    have hne : k1 ≠ k2 := by
      have := (List.pairwise_cons.1 hpw).1 (k2, d2) (List.mem_cons_self ..)
      exact this
    rcases hkey (k1, d1) (List.mem_cons_self ..) with e | e
    · rcases hkey (k2, d2) (List.mem_cons_of_mem _ (List.mem_cons_self ..)) with e2 | e2
      · exact absurd (e.trans e2.symm) hne
      · simp only at e e2; subst e; subst e2
        have h1 := hnz nmA (has_head nmA d1 _)
        have h2 := hnz nmB (by rw [has_eq]; simp [kl, Lit.sameKey])
        rw [look_head] at h1
        rw [look_skip nmA nmB nmAB, look_head] at h2
        rw [look_head, look_skip nmA nmB nmAB, look_head]
        show lenAt s d1 + (lenAt s d2 + 0) = _
        rw [len_num s d1 h1, len_num s d2 h2, if_neg h1, if_neg h2]; simp
    · rcases hkey (k2, d2) (List.mem_cons_of_mem _ (List.mem_cons_self ..)) with e2 | e2
      · simp only at e e2; subst e; subst e2
        have h1 := hnz nmB (has_head nmB d1 _)
        have h2 := hnz nmA (by rw [has_eq]; simp [kl, Lit.sameKey])
        rw [look_head] at h1
        rw [look_skip nmB nmA nba, look_head] at h2
        rw [look_head, look_skip nmB nmA nba, look_head]
        show lenAt s d1 + (lenAt s d2 + 0) = _
        rw [len_num s d1 h1, len_num s d2 h2, if_neg h1, if_neg h2]; simp; omega
      · exact absurd (e.trans e2.symm) hne
  | (k1, d1) :: (k2, d2) :: (k3, d3) :: r, hpw, hkey, _ =>
    obtain ⟨p1, p2⟩ := List.pairwise_cons.1 hpw
    have n12 : k1 ≠ k2 := p1 (k2, d2) (List.mem_cons_self ..)
    have n13 : k1 ≠ k3 := p1 (k3, d3) (List.mem_cons_of_mem _ (List.mem_cons_self ..))
    have n23 : k2 ≠ k3 := (List.pairwise_cons.1 p2).1 (k3, d3) (List.mem_cons_self ..)
    have a1 := hkey (k1, d1) (List.mem_cons_self ..)
    have a2 := hkey (k2, d2) (List.mem_cons_of_mem _ (List.mem_cons_self ..))
    have a3 := hkey (k3, d3) (List.mem_cons_of_mem _ (List.mem_cons_of_mem _ (List.mem_cons_self ..)))
    simp only at a1 a2 a3
    rcases a1 with a1 | a1 <;> rcases a2 with a2 | a2 <;> rcases a3 with a3 | a3 <;> simp_all

/-- The names, told. -/
def namesAB (s : St) : List (List UInt8) := (if look s.names nmA = 0 then [] else [[97]]) ++ (if look s.names nmB = 0 then [] else [[98]])
theorem keys_ab {q : Int} {s : St} {ids : List Nat} (h : Room q s ids) : keysOf s.names = namesAB s := by
  have ha := h.g.has_iff nmA
  have hb := h.g.has_iff nmB
  have ea : kl nmA = .string [97] := rfl
  have eb : kl nmB = .string [98] := rfl
  rw [ea] at ha
  rw [eb] at hb
  refine keysOf_is h.td h.sm ?_ ?_ ?_
  · unfold namesAB
    split <;> split <;> simp
    decide
  · unfold namesAB
    split <;> split <;> simp
  · intro x
    constructor
    · intro hx
      unfold namesAB at hx
      rcases List.mem_append.1 hx with h1 | h1
      · split at h1
        · simp at h1
        · rename_i hn
          rw [List.mem_singleton.1 h1]; exact ha.2 hn
      · split at h1
        · simp at h1
        · rename_i hn
          rw [List.mem_singleton.1 h1]; exact hb.2 hn
    · intro hx
      unfold namesAB
      rcases h.k x hx with rfl | rfl
      · rw [if_neg (ha.1 hx)]; simp
      · rw [if_neg (hb.1 hx)]; simp
theorem room_used {q : Int} {s : St} {ids : List Nat} (h : Room q s ids) : used s = lenN s nmA + lenN s nmB := used_ab h.g h.td h.sm h.k
theorem room_read {q : Int} {s : St} {ids : List Nat} (h : Room q s ids) {nm : ByteArray} (hn : isAB nm) (hl : look s.names nm ≠ 0) : ofE s nm = 0 ∧ (readL s nm).length = lenN s nm := by
  have hE : ofE s nm = 0 := by unfold ofE; rw [h.d, hn.named, if_pos rfl, if_neg hl]
  refine ⟨hE, ?_⟩
  unfold readL lenN
  rw [if_pos hE, if_neg hl]
end Go.Proofs.Ytijdgmbpkfmciaa.Fs
