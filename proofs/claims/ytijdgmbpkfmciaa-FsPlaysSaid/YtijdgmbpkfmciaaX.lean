/- The file system: FsOrder in plain words. -/
import Derived.Test.YtijdgmbpkfmciaaW
namespace Go.Proofs.Ytijdgmbpkfmciaa.Fs
open Go.RowKit Go.Maps Go.ChangeMaps Go.WideMaps Go.Joins Go.Sort

def nmF (i : Nat) : ByteArray := ⟨#[102, UInt8.ofNat (97 + i)]⟩
theorem nmF_inj {i j : Nat} (hi : i < 16) (hj : j < 16) (h : nmF i = nmF j) : i = j := by
  have h1 : UInt8.ofNat (97 + i) = UInt8.ofNat (97 + j) := by
    have := congrArg (fun b : ByteArray => b.data.toList) h
    simpa [nmF] using this
  have h2 := congrArg UInt8.toNat h1
  simp at h2
  omega
theorem okF {i : Nat} (hi : i < 16) : okN (nmF i) = true := by
  have : ∀ k : Fin 16, okN (nmF k.1) = true := by decide
  exact this ⟨i, hi⟩
theorem namedF {i : Nat} (hi : i < 16) : namedE false [nmF i] = 0 := by
  unfold namedE
  simp [okF hi]
theorem sizeF (i : Nat) : (nmF i).size = 2 := rfl

def crs (fid : Nat → Nat) (i : Nat) : List Chg := (List.range i).map fun j => .create (nmF j) (fid j)
def ordD (fid : Nat → Nat) (i : Nat) : Dm := replay (.map []) (crs fid i)
theorem crs_succ (fid : Nat → Nat) (i : Nat) : crs fid (i + 1) = crs fid i ++ [.create (nmF i) (fid i)] := by
  simp [crs, List.range_succ]
theorem ordD_succ (fid : Nat → Nat) (i : Nat) : ordD fid (i + 1) = (ordD fid i).put (kl (nmF i)) (.lit (.int .i64 (fid i + 1 : Nat))) := by
  unfold ordD; rw [crs_succ, replay_snoc]; rfl
theorem ordD_tidy (fid : Nat → Nat) (i : Nat) : Tidy (ordD fid i) := replay_tidy tidy_empty _
theorem crs_congr {fid fid' : Nat → Nat} {i : Nat} (h : ∀ j, j < i → fid j = fid' j) : crs fid i = crs fid' i := by
  unfold crs
  exact List.map_congr_left fun j hj => by rw [h j (List.mem_range.1 hj)]
theorem look_ordD (fid : Nat → Nat) : ∀ i, i ≤ 16 → ∀ j, j < 16 → look (ordD fid i) (nmF j) = if j < i then fid j + 1 else 0
  | 0, _, j, _ => by rw [if_neg (by omega)]; rfl
  | i + 1, hi, j, hj => by
    rw [ordD_succ]
    by_cases e : j = i
    · subst e
      rw [look_put_same (ordD_tidy fid j).isMap, if_pos (by omega)]
    · have hne : nmF j ≠ nmF i := fun h => e (nmF_inj hj (by omega) h)
      rw [look_put_other hne, look_ordD fid i (by omega) j hj]
      by_cases h : j < i
      · rw [if_pos h, if_pos (by omega)]
      · rw [if_neg h, if_neg (by omega)]
theorem has_ordD (fid : Nat → Nat) : ∀ i, ∀ x : List UInt8, Maps.has (ordD fid i) (.string x) = true ↔ ∃ j, j < i ∧ x = (nmF j).data.toList
  | 0, x => by simp [ordD, crs, replay, Maps.has]
  | i + 1, x => by
    rw [ordD_succ]
    by_cases e : x = (nmF i).data.toList
    · subst e
      have := has_put_same (ordD_tidy fid i).isMap (kl_isKey (nmF i)) (.lit (.int .i64 (fid i + 1 : Nat)) : Dm)
      exact ⟨fun _ => ⟨i, by omega, rfl⟩, fun _ => this⟩
    · have hne : (Lit.string x) ≠ kl (nmF i) := fun h => e (by simpa [kl] using h)
      rw [has_put_other hne, has_ordD fid i x]
      constructor
      · rintro ⟨j, hj, h⟩; exact ⟨j, by omega, h⟩
      · rintro ⟨j, hj, h⟩
        refine ⟨j, ?_, h⟩
        by_cases hji : j = i
        · subst hji; exact absurd h e
        · omega
theorem strMap_put {D : Dm} (h : StrMap D) (s : ByteArray) (d : Dm) : StrMap (D.put (kl s) d) := by
  obtain ⟨es, rfl, hk⟩ := h
  refine ⟨_, rfl, fun p hp => ?_⟩
  have hp' : p ∈ (kl s, d) :: es.filter (fun p => !p.1.sameKey (kl s)) := (Go.WideShapes.insert_perm (kl s, d) _).mem_iff.1 hp
  rcases List.mem_cons.1 hp' with e | e
  · rw [e]; exact ⟨_, rfl⟩
  · exact hk p (List.mem_filter.1 e).1
theorem strMap_del {D : Dm} (h : StrMap D) (s : ByteArray) : StrMap (D.del (kl s)) := by
  obtain ⟨es, rfl, hk⟩ := h
  exact ⟨_, rfl, fun p hp => hk p (List.mem_filter.1 hp).1⟩
theorem strMap_empty : StrMap (.map []) := ⟨[], rfl, fun _ h => nomatch h⟩
theorem strMap_app {D : Dm} (h : StrMap D) (c : Chg) : StrMap (app D c) := by
  cases c with
  | create s f => exact strMap_put h s _
  | rename a b => exact strMap_del (strMap_put h b _) a
  | remove a => exact strMap_del h a
theorem strMap_replay {D : Dm} (h : StrMap D) : ∀ cs : List Chg, StrMap (replay D cs)
  | [] => h
  | c :: cs => strMap_replay (strMap_app h c) cs

theorem keys_ordD (fid : Nat → Nat) (i : Nat) (hi : i ≤ 16) : keysOf (ordD fid i) = (List.range i).map fun j => (nmF j).data.toList := by
  have hle : ∀ j k, j < k → k < 16 → (nmF j).data.toList ≤ (nmF k).data.toList := by
    have h0 : ∀ a b : Fin 16, a.1 < b.1 → (nmF a.1).data.toList ≤ (nmF b.1).data.toList := by decide
    intro j k hjk hk
    exact h0 ⟨j, by omega⟩ ⟨k, hk⟩ hjk
  have hpw : (List.range i).Pairwise (· < ·) := List.pairwise_lt_range
  refine keysOf_is (ordD_tidy fid i) (strMap_replay strMap_empty _) ?_ ?_ ?_
  · refine List.pairwise_map.2 (hpw.imp_of_mem fun {a b} _ hb h => hle a b h (by have := List.mem_range.1 hb; omega))
  · refine List.pairwise_map.2 (hpw.imp_of_mem fun {a b} ha hb h e => ?_)
    have ha' := List.mem_range.1 ha
    have hb' := List.mem_range.1 hb
    have := nmF_inj (i := a) (j := b) (by omega) (by omega) (ByteArray.ext (Array.toList_inj.1 e))
    omega
  · intro x
    rw [has_ordD]
    simp only [List.mem_map, List.mem_range]
    constructor
    · rintro ⟨j, hj, rfl⟩; exact ⟨j, hj, rfl⟩
    · rintro ⟨j, hj, rfl⟩; exact ⟨j, hj, rfl⟩

def bsF (i n : Nat) : List UInt8 := (List.range n).map fun k => UInt8.ofNat (i + k)
theorem bsF_len (i n : Nat) : (bsF i n).length = n := by simp [bsF]

/-- The state behind i files. -/
structure Ord (sz fid : Nat → Nat) (i : Nat) (s : St) : Prop where
  q : s.quota = 1048576
  d : s.dead = false
  f : s.fuse = -1
  l : s.lasting = .map []
  c : s.changes = crs fid i
  n : s.names = ordD fid i
  b : ∀ j, j < i → s.files (fid j) = (bsF j (sz j), 0)
  a : ∀ j k, j < i → k < i → fid j = fid k → j = k
  m : ∀ f, (s.files f).1.length ≤ 255

theorem ord_new (sz fid : Nat → Nat) : Ord sz fid 0 (newS 1048576) :=
  ⟨rfl, rfl, rfl, rfl, rfl, rfl, fun j hj => absurd hj (by omega), fun j k hj => absurd hj (by omega), fun f => by simp [newS]⟩

theorem used_small {s : St} {m k : Nat} (h : ∀ f, (s.files f).1.length ≤ m) (hD : IsMap s.names) (hk : Maps.size s.names ≤ k) : used s ≤ k * m := by
  have h1 := sumE_bound s m h (fun _ => false) (entsOf s.names)
  have h2 : (entsOf s.names).length = Maps.size s.names := by
    obtain ⟨es, e⟩ := hD
    rw [e]; rfl
  unfold used
  rw [h2] at h1
  exact Nat.le_trans h1 (Nat.mul_le_mul_right _ hk)
theorem size_ordD (fid : Nat → Nat) : ∀ i, Maps.size (ordD fid i) ≤ i
  | 0 => Nat.le_refl _
  | i + 1 => by
    have := size_ordD fid i
    rw [ordD_succ, size_put (ordD_tidy fid i)]
    split <;> omega

/-- One file more: made, written. -/
def mid (s : St) (i f : Nat) : St := changed (addFile s f) (.create (nmF i) f)
theorem mid_files (s : St) (i f : Nat) (hf : s.fuse = -1) : (mid s i f).files = fun k => if k = f then ([], 0) else s.files k := by
  unfold mid changed addFile
  rw [if_neg (by simp [hf])]
theorem mid_rest (s : St) (i f : Nat) (hf : s.fuse = -1) : (mid s i f).quota = s.quota ∧ (mid s i f).dead = s.dead ∧ (mid s i f).fuse = -1 ∧ (mid s i f).lasting = s.lasting ∧ (mid s i f).changes = s.changes ++ [.create (nmF i) f] ∧
    (mid s i f).names = s.names.put (kl (nmF i)) (.lit (.int .i64 (f + 1 : Nat))) := by
  unfold mid changed addFile
  rw [if_neg (by simp [hf])]
  exact ⟨rfl, rfl, by show burnF s.fuse = -1; rw [hf]; decide, rfl, rfl, rfl⟩
theorem ord_create {sz fid : Nat → Nat} {i : Nat} {s : St} (h : Ord sz fid i s) (hi : i < 16) : createE s (nmF i) = 0 ∧ (∀ f, createS s (nmF i) f = mid s i f) ∧ namedE s.dead [nmF i] = 0 ∧ look s.names (nmF i) = 0 := by
  have h1 : namedE s.dead [nmF i] = 0 := by rw [h.d]; exact namedF hi
  have h2 : look s.names (nmF i) = 0 := by rw [h.n, look_ordD fid i (by omega) i hi, if_neg (by omega)]
  refine ⟨?_, fun f => ?_, h1, h2⟩
  · unfold createE; rw [if_pos h1, if_pos h2, h.f]; rfl
  · unfold createS; rw [if_pos ⟨h1, h2⟩]; rfl
theorem ord_append {sz fid : Nat → Nat} {i : Nat} {s : St} (h : Ord sz fid i s) (hi : i < 16) (hz : sz i ≤ 255) (f : Nat) (hf : ∀ j, j < i → fid j ≠ f) :
    appendE (mid s i f) (nmF i) (bsF i (sz i)).length = 0 ∧ Ord sz (fun k => if k = i then f else fid k) (i + 1) (appendS (mid s i f) (nmF i) (bsF i (sz i))) := by
  have hm := mid_files s i f h.f
  obtain ⟨m1, m2, m3, m4, m5, m6⟩ := mid_rest s i f h.f
  have hl : look (mid s i f).names (nmF i) = f + 1 := by rw [m6]; exact look_put_same (by rw [h.n]; exact (ordD_tidy fid i).isMap) _ _
  have hE : ofE (mid s i f) (nmF i) = 0 := by unfold ofE; rw [m2, h.d, namedF hi, if_pos rfl, hl]; simp
  have hlen : ∀ k, ((mid s i f).files k).1.length ≤ 255 := fun k => by
    rw [hm]
    by_cases e : k = f
    · simp [e]
    · simp only [if_neg e]; exact h.m k
  have hsz : Maps.size (mid s i f).names ≤ 16 := by
    rw [m6, h.n, size_put (ordD_tidy fid i)]
    have := size_ordD fid i
    split <;> omega
  have hu := used_small hlen (by rw [m6, h.n]; exact ((ordD_tidy fid i).put (kl_isKey _) _).isMap) hsz
  have hq : fitsQ (mid s i f) (bsF i (sz i)).length := by unfold fitsQ; rw [bsF_len, m1, h.q]; omega
  have hS : appendS (mid s i f) (nmF i) (bsF i (sz i)) = setFile (burned (mid s i f)) f (bsF i (sz i), 0) := by
    unfold appendS
    rw [if_pos hE, if_pos hq, if_neg (by rw [m3]; decide), hl, Nat.add_sub_cancel, hm]
    simp
  refine ⟨?_, ?_⟩
  · unfold appendE; rw [if_pos hE, if_pos hq, m3]; rfl
  · rw [hS]
    have hcr : crs fid i = crs (fun k => if k = i then f else fid k) i := crs_congr fun j hj => by simp [Nat.ne_of_lt hj]
    refine ⟨m1.trans h.q, ?_, ?_, m4.trans h.l, ?_, ?_, ?_, ?_, ?_⟩
    · show ((mid s i f).dead || (mid s i f).fuse == 0) = false
      rw [m2, h.d, m3]; rfl
    · show burnF (mid s i f).fuse = -1
      rw [m3]; rfl
    · show (mid s i f).changes = _
      rw [m5, h.c, crs_succ, hcr]; simp
    · show (mid s i f).names = _
      rw [m6, h.n, ordD_succ]
      unfold ordD
      rw [hcr]; simp
    · intro j hj
      show (if (if j = i then f else fid j) = f then _ else (mid s i f).files _) = _
      by_cases e : j = i
      · subst e; simp
      · simp only [if_neg e]
        rw [if_neg (hf j (by omega)), hm]
        simp only [if_neg (hf j (by omega))]
        exact h.b j (by omega)
    · intro j k hj hk
      by_cases e1 : j = i <;> by_cases e2 : k = i
      · intro _; omega
      · simp only [if_pos e1, if_neg e2]; intro e; exact absurd e.symm (hf k (by omega))
      · simp only [if_neg e1, if_pos e2]; intro e; exact absurd e (hf j (by omega))
      · simp only [if_neg e1, if_neg e2]; exact h.a j k (by omega) (by omega)
    · intro k
      show (if k = f then (bsF i (sz i), 0) else (mid s i f).files k).1.length ≤ 255
      by_cases e : k = f
      · rw [if_pos e]; simp only [bsF_len]; exact hz
      · rw [if_neg e]; exact hlen k

/-- Behind the crash. -/
def nOf (names : Int) (n : Nat) : Nat := (min (max names 0) (n : Int)).toNat
theorem ord_cut {sz fid : Nat → Nat} {i N : Nat} {s : St} (h : Ord sz fid i s) (hi : i ≤ 16) (hN : N ≤ i) (keep : List Int) : ∀ k, k ≤ N → ∀ j, j < N →
    (cutUpto keep (ordD fid N) (keysOf (ordD fid N)) { s with names := ordD fid N } k).files (fid j) = if j < k then cutFile keep j (bsF j (sz j), 0) else (bsF j (sz j), 0)
  | 0, _, j, hj => by rw [if_neg (by omega)]; exact h.b j (by omega)
  | k + 1, hk, j, hj => by
    have ih := ord_cut h hi hN keep k (by omega)
    have hkl : k < (keysOf (ordD fid N)).length := by rw [keys_ordD fid N (by omega)]; simp; omega
    have hkey : (⟨((keysOf (ordD fid N))[k]'hkl).toArray⟩ : ByteArray) = nmF k := by
      have : (keysOf (ordD fid N))[k]'hkl = (nmF k).data.toList := by
        simp only [keys_ordD fid N (by omega : N ≤ 16), List.getElem_map, List.getElem_range]
      rw [this]
    have hlook : look (ordD fid N) ⟨((keysOf (ordD fid N))[k]'hkl).toArray⟩ = fid k + 1 := by
      rw [hkey, look_ordD fid N (by omega) k (by omega), if_pos (by omega)]
    rw [cutUpto_next keep _ _ _ k (fid k) hkl hlook]
    show (if fid j = fid k then _ else _) = _
    by_cases e : j = k
    · subst e
      rw [if_pos rfl, if_pos (by omega), ih j hj, if_neg (by omega)]
    · rw [if_neg (fun e' => e (h.a j k (by omega) (by omega) e')), ih j hj]
      by_cases h' : j < k
      · rw [if_pos h', if_pos (by omega)]
      · rw [if_neg h', if_neg (by omega)]
structure Ordc (sz fid : Nat → Nat) (keep : List Int) (N : Nat) (s : St) : Prop where
  d : s.dead = false
  n : s.names = ordD fid N
  b : ∀ j, j < N → s.files (fid j) = cutFile keep j (bsF j (sz j), 0)
theorem ord_crash {sz fid : Nat → Nat} {i : Nat} {s : St} (h : Ord sz fid i s) (hi : i ≤ 16) (names : Int) (keep : List Int) : Ordc sz fid keep (nOf names i) (crashS s names keep) := by
  have hlen : s.changes.length = i := by rw [h.c]; simp [crs]
  have hN : nOf names i ≤ i := by unfold nOf; omega
  have hD : replay s.lasting (s.changes.take (min (max names 0) (s.changes.length : Int)).toNat) = ordD fid (nOf names i) := by
    rw [hlen, h.l, h.c]
    show replay (.map []) ((crs fid i).take (nOf names i)) = _
    unfold ordD
    congr 1
    unfold crs
    rw [← List.map_take, List.take_range, Nat.min_eq_left hN]
  have hk : (keysOf (ordD fid (nOf names i))).length = nOf names i := by rw [keys_ordD fid _ (by omega)]; simp
  unfold crashS
  simp only
  rw [hD]
  refine ⟨rfl, (cutUpto_names keep _ _ _ _).1, fun j hj => ?_⟩
  show (cutUpto keep (ordD fid (nOf names i)) (keysOf (ordD fid (nOf names i))) { s with names := ordD fid (nOf names i) } (keysOf (ordD fid (nOf names i))).length).files (fid j) = _
  rw [ord_cut h hi hN keep _ (by rw [hk]; exact Nat.le_refl _) j hj, if_pos (by rw [hk]; exact hj)]
theorem ordc_list {sz fid : Nat → Nat} {keep : List Int} {N : Nat} {s : St} (h : Ordc sz fid keep N s) (hN : N ≤ 16) : listed s ⟨#[]⟩ = (List.range N).map fun j => (nmF j).data.toList := by
  unfold listed
  rw [h.n, keys_ordD fid N hN]
  rw [List.filter_eq_self.2 (fun x _ => by simp [keepP, h.d, Lib.hasPrefix])]
theorem ordc_read {sz fid : Nat → Nat} {keep : List Int} {N : Nat} {s : St} (h : Ordc sz fid keep N s) (hN : N ≤ 16) {j : Nat} (hj : j < N) :
    ofE s (nmF j) = 0 ∧ readL s (nmF j) = (bsF j (sz j)).take (keepN keep j (bsF j (sz j), 0)) := by
  have hl : look s.names (nmF j) = fid j + 1 := by rw [h.n, look_ordD fid N hN j (by omega), if_pos hj]
  have hE : ofE s (nmF j) = 0 := by unfold ofE; rw [h.d, namedF (by omega), if_pos rfl, hl]; simp
  refine ⟨hE, ?_⟩
  unfold readL
  rw [if_pos hE, hl, Nat.add_sub_cancel, h.b j hj]
  simp [cutFile]
end Go.Proofs.Ytijdgmbpkfmciaa.Fs
