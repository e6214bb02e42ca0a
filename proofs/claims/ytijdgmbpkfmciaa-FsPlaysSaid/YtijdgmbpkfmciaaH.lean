/- The file system: one file turns; Sync. -/
import Derived.Test.YtijdgmbpkfmciaaG
namespace Go.Proofs.Ytijdgmbpkfmciaa.Fs
open Go.RowKit Go.Maps Go.ChangeMaps Go.WideMaps Go.Joins

theorem pw_iff {R : Nat → Nat → Prop} (hs : ∀ a b, R a b → R b a) : ∀ {l : List Nat}, l.Nodup → (l.Pairwise R ↔ ∀ a ∈ l, ∀ c ∈ l, a ≠ c → R a c)
  | [], _ => by simp
  | x :: l, hn => by
    rw [List.pairwise_cons, pw_iff hs (List.nodup_cons.1 hn).2]
    constructor
    · rintro ⟨h1, h2⟩ a ha c hc hne
      rcases List.mem_cons.1 ha with e | ha'
      · rcases List.mem_cons.1 hc with e' | hc'
        · exact absurd (e.trans e'.symm) hne
        · rw [e]; exact h1 c hc'
      · rcases List.mem_cons.1 hc with e' | hc'
        · rw [e']; exact hs _ _ (h1 a ha')
        · exact h2 a ha' c hc' hne
    · intro h
      refine ⟨fun c hc => h x (List.mem_cons_self ..) c (List.mem_cons_of_mem _ hc) (fun e => (List.nodup_cons.1 hn).1 (e ▸ hc)), fun a ha c hc hne => h a (List.mem_cons_of_mem _ ha) c (List.mem_cons_of_mem _ hc) hne⟩

theorem apart_iff (g : Gh) : (foot g).Nodup ↔ (head g).Nodup ∧ g.ids.Nodup ∧ (∀ f ∈ g.ids, f ∉ head g) ∧ (∀ f ∈ g.ids, ∀ b ∈ blkOf (g.bv f), b ∉ head g ∧ b ∉ g.ids) ∧
    ∀ a ∈ g.ids, ∀ c ∈ g.ids, a ≠ c → ∀ x ∈ blkOf (g.bv a), ∀ y ∈ blkOf (g.bv c), x ≠ y := by
  unfold foot fps
  rw [List.nodup_append, List.nodup_append]
  constructor
  · rintro ⟨h1, ⟨h2, h3, h4⟩, h5⟩
    refine ⟨h1, h2, fun f hf hh => h5 f hh f (List.mem_append.2 (.inl hf)) rfl, fun f hf b hb => ⟨fun hh => h5 b hh b (List.mem_append.2 (.inr (List.mem_flatMap.2 ⟨f, hf, hb⟩))) rfl, fun hi => h4 b hi b (List.mem_flatMap.2 ⟨f, hf, hb⟩) rfl⟩, ?_⟩
    have h3' := List.pairwise_flatMap.1 h3
    exact (pw_iff (fun a b h x hx y hy e => h y hy x hx e.symm) h2).1 h3'.2
  · rintro ⟨h1, h2, h3, h4, h5⟩
    refine ⟨h1, ⟨h2, List.pairwise_flatMap.2 ⟨fun a _ => blk_le _, (pw_iff (fun a b h x hx y hy e => h y hy x hx e.symm) h2).2 h5⟩, ?_⟩, ?_⟩
    · intro a ha b hb e
      obtain ⟨f, hf, hb⟩ := List.mem_flatMap.1 hb
      exact (h4 f hf b hb).2 (e ▸ ha)
    · intro a ha b hb e
      subst e
      rcases List.mem_append.1 hb with hb | hb
      · exact h3 a hb ha
      · obtain ⟨f, hf, hb⟩ := List.mem_flatMap.1 hb
        exact (h4 f hf a hb).1 ha

def setFile (s : St) (f : Nat) (x : List UInt8 × Nat) : St := { s with files := fun k => if k = f then x else s.files k }
def setGh (g : Gh) (f : Nat) (v : Value) : Gh := { g with bv := fun k => if k = f then v else g.bv k }

/-- One file has turned. -/
theorem Rep.newfile {w w' : World} {g : Gh} {s : St} {F : List Nat} {f : Nat} {v : Value} {x : List UInt8 × Nat} (h : Rep w g s) (hf : f ∈ g.ids) (ht : Turn w w' F) (hF : ∀ b ∈ F, b = f ∨ b ∈ blkOf (g.bv f) ∨ w.heap.size ≤ b)
    (hc : w'.heap[f]? = some (.cells #[v, .int .i64 (x.2 : Nat)] 66 (0, 0))) (hr : Row w' 5 v (x.1.map byteV)) (hv : ∀ b ∈ blkOf v, b ∈ blkOf (g.bv f) ∨ w.heap.size ≤ b) :
    Rep w' (setGh g f v) (setFile s f x) ∧ ∀ b ∈ foot (setGh g f v), b ∈ foot g ∨ w.heap.size ≤ b := by
  obtain ⟨a1, a2, a3, a4, a5⟩ := (apart_iff g).1 h.apart
  have hh : head (setGh g f v) = head g := rfl
  have lh : ∀ b ∈ head g, b < w.heap.size := fun b hb => h.lt b (List.mem_append.2 (.inl hb))
  have li : ∀ b ∈ g.ids, b < w.heap.size := fun b hb => h.lt b (mem_foot.2 (.inr (.inr (.inr (.inr (.inl hb))))))
  have lb : ∀ k ∈ g.ids, ∀ b ∈ blkOf (g.bv k), b < w.heap.size := fun k hk b hb => h.lt b (mem_foot.2 (.inr (.inr (.inr (.inr (.inr ⟨k, hk, hb⟩))))))
  have kh : ∀ b ∈ head g, w'.heap[b]? = w.heap[b]? := fun b hb => ht.block b (lh b hb) fun hm => by
    rcases hF b hm with e | e | e
    · exact a3 f hf (e ▸ hb)
    · exact (a4 f hf b e).1 hb
    · have := lh b hb; omega
  have ki : ∀ k ∈ g.ids, k ≠ f → w'.heap[k]? = w.heap[k]? := fun k hk hn => ht.block k (li k hk) fun hm => by
    rcases hF k hm with e | e | e
    · exact hn e
    · exact (a4 f hf k e).2 hk
    · have := li k hk; omega
  have kb : ∀ k ∈ g.ids, k ≠ f → ∀ b ∈ blkOf (g.bv k), w'.heap[b]? = w.heap[b]? := fun k hk hn b hb => ht.block b (lb k hk b hb) fun hm => by
    rcases hF b hm with e | e | e
    · exact (a4 k hk b hb).2 (e ▸ hf)
    · exact a5 k hk f hf hn b hb b e rfl
    · have := lb k hk b hb; omega
  have hsub : ∀ b ∈ foot (setGh g f v), b ∈ foot g ∨ w.heap.size ≤ b := by
    intro b hb
    rcases List.mem_append.1 hb with hb | hb
    · exact .inl (List.mem_append.2 (.inl hb))
    · rcases List.mem_append.1 hb with hb | hb
      · exact .inl (mem_foot.2 (.inr (.inr (.inr (.inr (.inl hb))))))
      · obtain ⟨k, hk, hb⟩ := List.mem_flatMap.1 hb
        by_cases e : k = f
        · subst e
          simp only [setGh, if_pos] at hb
          exact (hv b hb).imp (fun hb => mem_foot.2 (.inr (.inr (.inr (.inr (.inr ⟨k, hf, hb⟩)))))) id
        · simp only [setGh, if_neg e] at hb
          exact .inl (mem_foot.2 (.inr (.inr (.inr (.inr (.inr ⟨k, hk, hb⟩))))))
  have lv : ∀ b ∈ blkOf v, b < w'.heap.size := fun b hb => by
    rcases hr with ⟨e, _⟩ | ⟨b', cap, cur, e, h1, _⟩
    · rw [e] at hb; simp [blkOf, Value.ownBlock] at hb
    · rw [e] at hb
      have : b = b' := by simpa [blkOf, Value.ownBlock] using hb
      subst this
      exact (Array.getElem?_eq_some_iff.1 h1).1
  refine ⟨⟨?_, ?_, ?_, ?_, ?_, ?_, ?_⟩, hsub⟩
  · exact (kh g.p (by simp [head])).trans h.cells
  · exact owns_frame h.nm (kh g.m (by simp [head]))
  · exact owns_frame h.ls (kh g.l (by simp [head]))
  · exact ownsRow_frame h.ch fun b hb => kh b (by simp only [head, List.mem_cons]; exact .inr (.inr (.inr hb)))
  · intro k hk
    by_cases e : k = f
    · subst e
      simp only [setGh, setFile, if_pos]
      exact ⟨hc, hr⟩
    · simp only [setGh, setFile, if_neg e]
      exact ⟨(ki k hk e).trans (h.fl k hk).1, (h.fl k hk).2.frame (kb k hk e)⟩
  · rw [apart_iff]
    refine ⟨a1, a2, a3, ?_, ?_⟩
    · intro k hk b hb
      by_cases e : k = f
      · subst e
        simp only [setGh, if_pos] at hb
        rcases hv b hb with hb | hb
        · exact a4 k hk b hb
        · exact ⟨fun hm => by have := lh b hm; omega, fun hm => by have := li b hm; omega⟩
      · simp only [setGh, if_neg e] at hb
        exact a4 k hk b hb
    · intro a ha c hc' hne x hx y hy exy
      subst exy
      by_cases e1 : a = f
      · have e2 : c ≠ f := fun e => hne (e1.trans e.symm)
        simp only [setGh, if_pos e1] at hx
        simp only [setGh, if_neg e2] at hy
        rcases hv x hx with hb | hb
        · exact a5 f hf c hc' (fun e => e2 e.symm) x hb x hy rfl
        · have := lb c hc' x hy; omega
      · simp only [setGh, if_neg e1] at hx
        by_cases e2 : c = f
        · simp only [setGh, if_pos e2] at hy
          rcases hv x hy with hb | hb
          · exact a5 a ha f hf e1 x hx x hb rfl
          · have := lb a ha x hx; omega
        · simp only [setGh, if_neg e2] at hy
          exact a5 a ha c hc' hne x hx x hy rfl
  · intro b hb
    rcases hsub b hb with e | e
    · exact Nat.lt_of_lt_of_le (h.lt b e) ht.size
    · rcases List.mem_append.1 hb with hb | hb
      · have := lh b hb; have := ht.size; omega
      · rcases List.mem_append.1 hb with hb | hb
        · have := li b hb; have := ht.size; omega
        · obtain ⟨k, hk, hb⟩ := List.mem_flatMap.1 hb
          by_cases e' : k = f
          · subst e'
            simp only [setGh, if_pos] at hb
            exact lv b hb
          · simp only [setGh, if_neg e'] at hb
            have := lb k hk b hb; have := ht.size; omega

/-- A file's cells. -/
theorem file_cells {w : World} {f : Nat} {a0 a1 : Value} (h : w.heap[f]? = some (.cells #[a0, a1] 66 (0, 0))) :
    w.cell? ⟨f, 0, none⟩ = some a0 ∧ w.cell? ⟨f, 1, none⟩ = some a1 ∧ ∀ o, w.frozen? ⟨f, o, none⟩ = false := by
  refine ⟨?_, ?_, fun o => unfrozen_of_block h o⟩ <;> rw [cell_of_block h] <;> rfl
theorem row_slice {w : World} {e : TypeId} {v : Value} {xs : List Value} (h : Row w e v xs) : ∃ a c, v = .slice a xs.length c := by
  rcases h with ⟨h, h2⟩ | ⟨b, cap, cur, h, _⟩
  · exact ⟨none, 0, by rw [h, h2]; rfl⟩
  · exact ⟨_, _, h⟩

/-- The names lead to files that are there. -/
def IdsD (D : Dm) (ids : List Nat) : Prop := ∀ nm, Maps.has D (kl nm) = true → ∃ f ∈ ids, look D nm = f + 1
def Ids (s : St) (g : Gh) : Prop := IdsD s.names g.ids
theorem IdsD.look {D : Dm} {ids : List Nat} (h : IdsD D ids) (nm : ByteArray) : Fs.look D nm = 0 ∨ ∃ f ∈ ids, Fs.look D nm = f + 1 := by
  cases hh : Maps.has D (kl nm) with
  | true => exact .inr (h nm hh)
  | false => exact .inl (by unfold Fs.look; rw [atKey_of_not_has hh]; rfl)

def syncE (s : St) (nm : ByteArray) : Int := if ofE s nm = 0 then burnV s.fuse else ofE s nm
def syncS (s : St) (nm : ByteArray) : St :=
  if ofE s nm = 0 then (if s.fuse = 0 then burned s else setFile (burned s) (look s.names nm - 1) ((s.files (look s.names nm - 1)).1, (s.files (look s.names nm - 1)).1.length)) else s

theorem ofE_zero {s : St} {nm : ByteArray} (h : ofE s nm = 0) : namedE s.dead [nm] = 0 ∧ look s.names nm ≠ 0 ∧ ofF s nm = look s.names nm := by
  unfold ofE at h
  unfold ofF
  by_cases h1 : namedE s.dead [nm] = 0
  · rw [if_pos h1] at h
    refine ⟨h1, ?_, by rw [if_pos h1]⟩
    intro h2
    rw [if_pos h2] at h
    cases h
  · rw [if_neg h1] at h; exact absurd h h1

set_option maxHeartbeats 1000000 in
set_option maxRecDepth 100000 in
theorem sync_any (g : Gh) (s : St) (nm : ByteArray) (w : World) (h : Rep w g s) (hI : Ids s g) (hf : -1 ≤ s.fuse) (hf2 : s.fuse < 9223372036854775808) (hs : nm.size ≤ maxLen) :
    Calls Try.prog 20 #[.pointer (some ⟨g.p, 0, none⟩), .string nm] w fun e w' => e = .returned (.int .i64 (syncE s nm)) ∧ Left w w' g g.ids (syncS s nm) := by
  have cO := of_any g s nm w h hs
  have hA := h.alloc (.cells #[.string nm] 9)
  have cB := burn_any g.p _ _ _ _ s.fuse s.dead _ hA.cells hf hf2
  have HL := Lib.hid (fun ids s' w' g1 (hp : g1.p = g.p) hb => Left.of (w := w) (w1 := w.alloc (.cells #[.string nm] 9)) (w' := w') (g := g) (ids := ids) (s' := s') (g1 := g1) hp (Turn.alloc w _ _) hb)
  have HS := Lib.hid ((hA.left (Turn.alloc w _ _)))
  have HA := Lib.hid hA
  have CB := Lib.hid cB
  unfold syncE syncS
  by_cases hE : ofE s nm = 0
  · rw [if_pos hE, if_pos hE]
    obtain ⟨-, k1, k2⟩ := ofE_zero hE
    rw [hE, k2] at cO
    rcases IdsD.look hI nm with hI | ⟨f, hfi, hI⟩
    · exact absurd hI k1
    rw [hI, show ptrV (f + 1) = .pointer (some ⟨f, 0, none⟩) from rfl] at cO
    rw [hI, Nat.add_sub_cancel]
    obtain ⟨hfc, hfr⟩ := hA.fl f hfi
    have hfp : f ≠ g.p := fun e => ((apart_iff g).1 h.apart).2.2.1 f hfi (e ▸ by simp [head])
    have hfl : f < w.heap.size := h.lt f (mem_foot.2 (.inr (.inr (.inr (.inr (.inl hfi))))))
    obtain ⟨va, vc, hv⟩ := row_slice hfr
    rw [List.length_map] at hv
    clear h hA cB hI
    by_cases hz : s.fuse = 0
    · rw [if_pos hz]
      have hbz : burnV s.fuse = 50 := by simp [burnV, hz]
      rw [hbz] at CB ⊢
      clear hbz hv hfc hfr
      go_enter Try.func20, Try.ntmps20
      go_wp2_with (first | (go_at_call 34; refine cO.mono ?_; rintro e w' ⟨rfl, rfl⟩) | (go_at_call 35; refine CB.out.mono ?_; rintro e w' ⟨rfl, ht, hc⟩))
      go_ret
      exact ⟨rfl, HL.out _ _ _ _ rfl (fun b hb => .inl hb) (left_burn HA.out ht hc)⟩
    · rw [if_neg hz]
      have hbz : burnV s.fuse = 0 := by simp [burnV, hz]
      rw [hbz] at CB ⊢
      have HF := Lib.hid hfc
      have HR := Lib.hid hfr
      have HV := Lib.hid hv
      clear hbz hv hfc hfr
      go_enter Try.func20, Try.ntmps20
      go_wp2_with (first | (go_at_call 34; refine cO.mono ?_; rintro e w' ⟨rfl, rfl⟩) | (go_at_call 35; refine CB.out.mono ?_; rintro e w1 ⟨rfl, ht, hc⟩; have hb1 := rep_burn HA.out ht hc; have hfc1 := (hb1.fl f hfi).1; obtain ⟨f0, f1, ff⟩ := file_cells hfc1; rw [HV.out] at f0; have HC1 := Lib.hid hfc1; have HB1 := Lib.hid hb1; clear hfc1 hb1 hc))
      go_ret
      refine ⟨rfl, HL.out _ _ _ g rfl (fun b hb => .inl hb) ?_⟩
      have hap := (apart_iff g).1 HA.out.apart
      have hts := turn_set w1 f 1 (.int .i64 ((s.files f).1.length : Nat))
      have hlt1 : ∀ b ∈ foot g, b < w1.heap.size := HB1.out.lt
      have hfin := Rep.newfile (v := g.bv f) (x := ((s.files f).1, (s.files f).1.length)) HB1.out hfi hts (fun b hb => .inl (by simpa using hb)) (by rw [block_setCell HC1.out]; rfl)
        ((HB1.out.fl f hfi).2.frame fun b hb => hts.block b (hlt1 b (mem_foot.2 (.inr (.inr (.inr (.inr (.inr ⟨f, hfi, hb⟩))))))) (by
          have : b ≠ f := fun e => (hap.2.2.2.1 f hfi b hb).2 (e ▸ hfi)
          simpa using this)) (fun b hb => .inl hb)
      refine ⟨setGh g f (g.bv f), rfl, rfl, hfin.1, (ht.mono fun b hb => .inl (one_foot b hb)).trans (hts.mono (F' := foot g) fun b hb => .inl ?_) (fun b hb => .inl hb), fun b hb => ?_⟩
      · have : b = f := by simpa using hb
        exact mem_foot.2 (.inr (.inr (.inr (.inr (.inl (this ▸ hfi))))))
      · rcases hfin.2 b hb with e | e
        · exact .inl e
        · exact .inr (Nat.le_trans ht.size e)
  · rw [if_neg hE, if_neg hE]
    have hE1 : (ofE s nm == 0) = false := beq_eq_false_iff_ne.2 hE
    generalize ofE s nm = E at cO hE hE1 ⊢
    generalize ofF s nm = F at cO
    clear h hA cB
    go_enter Try.func20, Try.ntmps20
    go_wp2_with (first | (go_at_call 34; refine cO.mono ?_; rintro e w' ⟨rfl, rfl⟩))
    go_ret
    exact ⟨rfl, HS.out⟩
end Go.Proofs.Ytijdgmbpkfmciaa.Fs
