/- The file system: FsLasts in plain words. -/
import Derived.Test.YtijdgmbpkfmciaaZ
namespace Go.Proofs.Ytijdgmbpkfmciaa.Fs
open Go.RowKit Go.Maps Go.ChangeMaps Go.WideMaps Go.Joins Go.Sort

def nmO : ByteArray := ⟨#[111, 119, 110]⟩
theorem namedO : namedE false [nmO] = 0 := by decide

/-- The file is there whole under its name, and under no other, whatever a crash. -/
structure Kept (F : Nat) (data : List UInt8) (s : St) : Prop where
  d : s.dead = false
  fu : s.fuse = -1
  fl : s.files F = (data, data.length)
  k : ∀ k, look (replay s.lasting (s.changes.take k)) nmO = F + 1
  o : ∀ k nm, nm ≠ nmO → look (replay s.lasting (s.changes.take k)) nm ≠ F + 1

variable {F : Nat} {data : List UInt8} {s : St} {ids : List Nat} {n : Nat}
theorem Kept.own (h : Kept F data s) (hi : Inv s ids n) : look s.names nmO = F + 1 := by
  have := h.k s.changes.length
  rwa [List.take_length, ← hi.nm] at this
theorem Kept.other (h : Kept F data s) (hi : Inv s ids n) {nm : ByteArray} (hn : nm ≠ nmO) : look s.names nm ≠ F + 1 := by
  have := h.o s.changes.length nm hn
  rwa [List.take_length, ← hi.nm] at this
def away : Chg → Nat → Prop
  | .create nm f, F => nm ≠ nmO ∧ f ≠ F
  | .rename a b, _ => a ≠ nmO ∧ b ≠ nmO
  | .remove a, _ => a ≠ nmO
theorem app_own (c : Chg) (D : Dm) (hD : IsMap D) (hc : away c F) (h1 : look D nmO = F + 1) (h2 : ∀ nm, nm ≠ nmO → look D nm ≠ F + 1) : look (app D c) nmO = F + 1 ∧ ∀ nm, nm ≠ nmO → look (app D c) nm ≠ F + 1 := by
  cases c with
  | create s f =>
    obtain ⟨c1, c2⟩ := hc
    refine ⟨(look_put_other (Ne.symm c1) _).trans h1, fun nm hn => ?_⟩
    by_cases e : nm = s
    · subst e
      rw [show look (app D (.create nm f)) nm = f + 1 from look_put_same hD nm _]
      omega
    · rw [show look (app D (.create s f)) nm = look D nm from look_put_other e _]
      exact h2 nm hn
  | rename a b =>
    obtain ⟨c1, c2⟩ := hc
    have e1 : ∀ nm, nm ≠ a → look (app D (.rename a b)) nm = look (D.put (kl b) (.lit (.int .i64 (look D a)))) nm := fun nm hn => look_del_other hn
    refine ⟨?_, fun nm hn => ?_⟩
    · rw [e1 nmO (Ne.symm c1), look_put_other (Ne.symm c2)]; exact h1
    · by_cases ea : nm = a
      · subst ea
        rw [show look (app D (.rename nm b)) nm = 0 from look_del_same nm]
        omega
      · rw [e1 nm ea]
        by_cases eb : nm = b
        · subst eb
          rw [look_put_same hD]
          exact h2 a c1
        · rw [look_put_other eb]
          exact h2 nm hn
  | remove a =>
    refine ⟨(look_del_other (Ne.symm hc)).trans h1, fun nm hn => ?_⟩
    by_cases ea : nm = a
    · subst ea
      rw [show look (app D (.remove nm)) nm = 0 from look_del_same nm]
      omega
    · rw [show look (app D (.remove a)) nm = look D nm from look_del_other ea]
      exact h2 nm hn
theorem kept_changed (h : Kept F data s) (hi : Inv s ids n) (c : Chg) (hc : away c F) : Kept F data (changed s c) := by
  unfold changed
  rw [if_neg (by rw [h.fu]; decide)]
  have ha := app_own c s.names hi.tidy.isMap hc (h.own hi) (fun nm hn => h.other hi hn)
  refine ⟨h.d, by show burnF s.fuse = -1; rw [h.fu]; decide, h.fl, fun k => ?_, fun k nm hn => ?_⟩
  · show look (replay s.lasting ((s.changes ++ [c]).take k)) nmO = F + 1
    rcases take_snoc s.changes c k with e | e
    · rw [e]; exact h.k k
    · rw [e, replay_snoc, ← hi.nm]; exact ha.1
  · show look (replay s.lasting ((s.changes ++ [c]).take k)) nm ≠ F + 1
    rcases take_snoc s.changes c k with e | e
    · rw [e]; exact h.o k nm hn
    · rw [e, replay_snoc, ← hi.nm]; exact ha.2 nm hn
theorem kept_add (h : Kept F data s) {f : Nat} (hf : f ≠ F) : Kept F data (addFile s f) :=
  ⟨h.d, h.fu, by show (if F = f then _ else s.files F) = _; rw [if_neg (Ne.symm hf)]; exact h.fl, h.k, h.o⟩
theorem kept_set (h : Kept F data s) {f : Nat} (x : List UInt8 × Nat) (hf : f ≠ F) : Kept F data (setFile s f x) :=
  ⟨h.d, h.fu, by show (if F = f then _ else s.files F) = _; rw [if_neg (Ne.symm hf)]; exact h.fl, h.k, h.o⟩
theorem kept_burned (h : Kept F data s) : Kept F data (burned s) :=
  ⟨by show (s.dead || s.fuse == 0) = false; rw [h.d, h.fu]; rfl, by show burnF s.fuse = -1; rw [h.fu]; decide, h.fl, h.k, h.o⟩
theorem kept_create (h : Kept F data s) (hi : Inv s ids n) {nm : ByteArray} (hn : nm ≠ nmO) {f : Nat} (hf : f ≠ F) : Kept F data (createS s nm f) := by
  unfold createS
  split
  · exact kept_changed (kept_add h hf) (inv_add hi f) (.create nm f) ⟨hn, hf⟩
  · exact h
theorem kept_of (h : Kept F data s) (hi : Inv s ids n) {nm : ByteArray} (hn : nm ≠ nmO) (hE : ofE s nm = 0) : look s.names nm - 1 ≠ F := by
  obtain ⟨-, k1, -⟩ := ofE_zero hE
  have := h.other hi hn
  omega
theorem kept_append (h : Kept F data s) (hi : Inv s ids n) {nm : ByteArray} (hn : nm ≠ nmO) (bs : List UInt8) : Kept F data (appendS s nm bs) := by
  unfold appendS
  split
  · rename_i hE
    split
    · split
      · exact kept_burned h
      · exact kept_set (kept_burned h) _ (kept_of h hi hn hE)
    · exact h
  · exact h
theorem kept_sync (h : Kept F data s) (hi : Inv s ids n) {nm : ByteArray} (hn : nm ≠ nmO) : Kept F data (syncS s nm) := by
  unfold syncS
  split
  · rename_i hE
    split
    · exact kept_burned h
    · exact kept_set (kept_burned h) _ (kept_of h hi hn hE)
  · exact h
theorem kept_rename (h : Kept F data s) (hi : Inv s ids n) {a b : ByteArray} (ha : a ≠ nmO) (hb : b ≠ nmO) : Kept F data (renameS s a b) := by
  unfold renameS
  split
  · split
    · exact h
    · split
      · exact kept_burned h
      · exact kept_changed h hi (.rename a b) ⟨ha, hb⟩
  · exact h
theorem kept_remove (h : Kept F data s) (hi : Inv s ids n) {a : ByteArray} (ha : a ≠ nmO) : Kept F data (removeS s a) := by
  unfold removeS
  split
  · exact kept_changed h hi (.remove a) ha
  · exact h
theorem kept_crash (h : Kept F data s) (names : Int) (keep : List Int) : Kept F data (crashS s names keep) := by
  refine ⟨rfl, rfl, ?_, fun k => ?_, fun k nm hn => ?_⟩
  · unfold crashS
    exact cutUpto_whole keep _ _ { s with names := replay s.lasting (s.changes.take (min (max names 0) (s.changes.length : Int)).toNat) } F data h.fl _
  · show look (replay (replay s.lasting (s.changes.take _)) (([] : List Chg).take k)) nmO = F + 1
    rw [List.take_nil]
    exact h.k _
  · show look (replay (replay s.lasting (s.changes.take _)) (([] : List Chg).take k)) nm ≠ F + 1
    rw [List.take_nil]
    exact h.o _ nm hn
theorem kept_read (h : Kept F data s) (names : Int) (keep : List Int) : ofE (crashS s names keep) nmO = 0 ∧ readL (crashS s names keep) nmO = data :=
  crash_tells s names keep nmO namedO F data ⟨_, rfl, h.k _⟩ h.fl

/-! ### the beginning -/
def DO (f : Nat) : Dm := (.map [] : Dm).put (kl nmO) (.lit (.int .i64 (f + 1 : Nat)))
def la1 (f : Nat) (x : List UInt8 × Nat) : St := { quota := 1048576, names := DO f, lasting := .map [], changes := [.create nmO f], files := fun k => if k = f then x else ([], 0), fuse := -1, dead := false }
def la4 (f : Nat) (data : List UInt8) : St := { quota := 1048576, names := DO f, lasting := DO f, changes := [], files := fun k => if k = f then (data, data.length) else ([], 0), fuse := -1, dead := false }
theorem look_DO (f : Nat) : look (DO f) nmO = f + 1 := look_put_same isMap_empty nmO _
theorem la1_eq (f : Nat) : createS (newS 1048576) nmO f = la1 f ([], 0) := by
  have h : namedE (newS 1048576).dead [nmO] = 0 ∧ look (newS 1048576).names nmO = 0 := ⟨namedO, rfl⟩
  unfold createS; rw [if_pos h]; rfl
theorem la_of (f : Nat) (x : List UInt8 × Nat) : ofE (la1 f x) nmO = 0 := by
  unfold ofE
  rw [show (la1 f x).dead = false from rfl, namedO, if_pos rfl, show look (la1 f x).names nmO = f + 1 from look_DO f]
  simp
theorem la_used (f : Nat) : used (la1 f ([], 0)) = 0 := by
  show (if false = true then 0 else ((la1 f ([], 0)).files (((f + 1 : Nat) : Int).toNat - 1)).1.length) + 0 = 0
  simp [la1]
theorem la_set (f : Nat) (x y : List UInt8 × Nat) : setFile (burned (la1 f x)) f y = la1 f y := by
  unfold setFile burned la1
  congr 1
  funext k
  by_cases e : k = f <;> simp [e]
theorem la2_eq (f : Nat) (hd : data.length ≤ 100000) : appendS (la1 f ([], 0)) nmO data = la1 f (data, 0) := by
  have hq : fitsQ (la1 f ([], 0)) data.length := by unfold fitsQ; rw [la_used]; show (data.length : Int) ≤ 1048576 - 0; omega
  unfold appendS
  rw [if_pos (la_of f _), if_pos hq, if_neg (by show (-1 : Int) ≠ 0; decide), show look (la1 f ([], 0)).names nmO = f + 1 from look_DO f, Nat.add_sub_cancel, la_set]
  simp [la1]
theorem la3_eq (f : Nat) : syncS (la1 f (data, 0)) nmO = la1 f (data, data.length) := by
  unfold syncS
  rw [if_pos (la_of f _), if_neg (by show (-1 : Int) ≠ 0; decide), show look (la1 f (data, 0)).names nmO = f + 1 from look_DO f, Nat.add_sub_cancel, la_set]
  simp [la1]
theorem la4_eq (f : Nat) : syncNamesE (la1 f (data, data.length)) = 0 ∧ syncNamesS (la1 f (data, data.length)) = la4 f data := ⟨rfl, rfl⟩
theorem la_kept (f : Nat) : Kept f data (la4 f data) := by
  refine ⟨rfl, rfl, by simp [la4], fun k => ?_, fun k nm hn => ?_⟩
  · show look (replay (DO f) (([] : List Chg).take k)) nmO = f + 1
    rw [List.take_nil]
    exact look_DO f
  · show look (replay (DO f) (([] : List Chg).take k)) nm ≠ f + 1
    rw [List.take_nil]
    rw [show look (replay (DO f) []) nm = look (.map [] : Dm) nm from look_put_other (D := .map []) hn (.lit (.int .i64 (f + 1 : Nat))), look_empty]
    omega
theorem kept_id {P m : Nat} {w0 w : World} {g : Gh} {s : St} {F : Nat} {data : List UInt8} (h : Sys P m w0 w g s) (hk : Kept F data s) : F ∈ g.ids := by
  have hl := hk.own h.inv
  rcases h.inv.names.look nmO with e | ⟨f, hf, e⟩
  · omega
  · have : F = f := by omega
    rw [this]; exact hf
end Go.Proofs.Ytijdgmbpkfmciaa.Fs
