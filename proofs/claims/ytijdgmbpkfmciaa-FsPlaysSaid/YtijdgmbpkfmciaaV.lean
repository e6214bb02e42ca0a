/- The file system: what the document fixes (awake), in plain words. -/
import Derived.Test.YtijdgmbpkfmciaaU
import Derived.Laws.IdiomStrings
import Derived.Lib.BufferRead
namespace Go.Proofs.Ytijdgmbpkfmciaa.Fs
open Go.RowKit Go.Maps Go.ChangeMaps Go.WideMaps Go.Joins Go.Sort

theorem conv_news {w : World} {v : Value} {bs : List UInt8} (h : News w v (bs.map byteV)) : (convert 27 9 v).run Try.prog w = .ok (.string ⟨bs.toArray⟩) w := by
  rcases h with ⟨rfl, e⟩ | ⟨a, c, rfl, hc, h⟩
  · have : bs = [] := by simpa using e
    subst this
    exact Go.Lib.run_convert_nil_bytes w 27 9 5 0 Try.underlying27 Try.underlying5 Try.underlying9
  · rw [List.length_map]
    exact run_convert_bytes_back w 27 9 5 a c bs Try.underlying27 Try.underlying5 Try.underlying9 (fun j hj => h j _ (by rw [List.getElem?_map, List.getElem?_eq_getElem hj]; rfl))

theorem pure_list {A B : List (List UInt8)} (h : A.Perm B) : A.mergeSort leB = B.mergeSort leB := mergeSort_of_perm h
/-- The names, told: a rising list of just those that are there. -/
theorem keysOf_is {D : Dm} (hD : Tidy D) (hS : StrMap D) {L : List (List UInt8)} (hs : L.Pairwise (fun x y => x ≤ y)) (hn : L.Nodup) (hm : ∀ x, x ∈ L ↔ Maps.has D (.string x) = true) : keysOf D = L := by
  obtain ⟨es, rfl, hp⟩ := hD
  obtain ⟨es', e, hk⟩ := hS
  cases e
  have hp' : L.Perm (strKeys (.map es : Dm)) := perm_strKeys hp hk hn hm
  unfold keysOf
  rw [← mergeSort_of_perm hp']
  exact List.mergeSort_of_pairwise (hs.imp (fun h => by simpa [leB] using h))

def nmA : ByteArray := ⟨#[97]⟩
theorem okA : okN nmA = true := by decide
theorem namedA : namedE false [nmA] = 0 := by decide
def D1 (f : Nat) : Dm := (.map [] : Dm).put (kl nmA) (.lit (.int .i64 (f + 1 : Nat)))
theorem look_D1 (f : Nat) : look (D1 f) nmA = f + 1 := look_put_same isMap_empty nmA _
def aw1 (f : Nat) : St := { quota := 100, names := D1 f, lasting := .map [], changes := [.create nmA f], files := fun k => if k = f then ([], 0) else ([], 0), fuse := -1, dead := false }
theorem aw1_eq (f : Nat) : createE (newS 100) nmA = 0 ∧ createS (newS 100) nmA f = aw1 f := by
  have h : namedE (newS 100).dead [nmA] = 0 ∧ look (newS 100).names nmA = 0 := ⟨namedA, rfl⟩
  refine ⟨?_, ?_⟩
  · unfold createE; rw [if_pos h.1, if_pos h.2]; rfl
  · unfold createS; rw [if_pos h]; rfl
theorem used1 (f : Nat) : used (aw1 f) = 0 := by
  show (if false = true then 0 else ((aw1 f).files (((f + 1 : Nat) : Int).toNat - 1)).1.length) + 0 = 0
  simp [aw1]
theorem ofE1 (s : St) (f : Nat) (hd : s.dead = false) (hn : s.names = D1 f) : ofE s nmA = 0 := by
  unfold ofE; rw [hd, namedA, if_pos rfl, hn, look_D1]; simp
def aw2 (f : Nat) : St := { aw1 f with files := fun k => if k = f then ([120, 121], 0) else ([], 0) }
theorem aw2_eq (f : Nat) : appendE (aw1 f) nmA 2 = 0 ∧ appendS (aw1 f) nmA [120, 121] = aw2 f := by
  have h1 := ofE1 (aw1 f) f rfl rfl
  have h2 : fitsQ (aw1 f) 2 := by unfold fitsQ; rw [used1]; show (2 : Int) ≤ 100 - 0; decide
  refine ⟨?_, ?_⟩
  · unfold appendE; rw [if_pos h1, if_pos h2]; rfl
  · unfold appendS
    rw [if_pos h1, if_pos (show fitsQ (aw1 f) ([120, 121] : List UInt8).length from h2), if_neg (by simp [aw1])]
    have hl : look (aw1 f).names nmA = f + 1 := look_D1 f
    rw [hl]
    unfold setFile burned aw2
    simp only [Nat.add_sub_cancel, aw1, if_true]
    congr 1
    funext k
    by_cases e : k = f <;> simp [e]
theorem read2 (f : Nat) : readL (aw2 f) nmA = [120, 121] := by
  unfold readL
  rw [if_pos (ofE1 (aw2 f) f rfl rfl)]
  have hl : look (aw2 f).names nmA = f + 1 := look_D1 f
  rw [hl]; simp [aw2]
theorem keys1 (f : Nat) : keysOf (D1 f) = [[97]] := by
  show List.mergeSort [_] leB = _
  simp [strOf, kl, nmA]
def aw3 (f : Nat) : St := { quota := 100, names := D1 f, lasting := D1 f, changes := [], files := fun k => if k = f then ([], 0) else ([], 0), fuse := -1, dead := false }
theorem aw3_eq (f : Nat) : crashS (aw2 f) 1 [] = aw3 f := by
  have hr : replay (aw2 f).lasting ((aw2 f).changes.take (min (max (1 : Int) 0) ((aw2 f).changes.length : Int)).toNat) = D1 f := rfl
  unfold crashS
  simp only
  rw [hr, keys1]
  have hl : look (D1 f) ⟨(([[97]] : List (List UInt8)).getD 0 []).toArray⟩ = f + 1 := look_D1 f
  simp only [List.length_singleton, cutUpto, hl, Nat.add_sub_cancel]
  unfold setFile aw3 cutFile keepN
  simp [aw2, aw1]
  funext k
  by_cases e : k = f <;> simp [e]
theorem read3 (f : Nat) : readL (aw3 f) nmA = [] := by
  unfold readL
  rw [if_pos (ofE1 (aw3 f) f rfl rfl)]
  have hl : look (aw3 f).names nmA = f + 1 := look_D1 f
  rw [hl]; simp [aw3]
theorem create3 (f f' : Nat) : createE (aw3 f) nmA = 64 ∧ createS (aw3 f) nmA f' = aw3 f := by
  have h : namedE (aw3 f).dead [nmA] = 0 := namedA
  have hl : look (aw3 f).names nmA ≠ 0 := by rw [show look (aw3 f).names nmA = f + 1 from look_D1 f]; omega
  refine ⟨?_, ?_⟩
  · unfold createE; rw [if_pos h, if_neg hl]
  · unfold createS; rw [if_neg (fun h => hl h.2)]
theorem listed3 (f : Nat) : listed (aw3 f) ⟨#[]⟩ = [[97]] := by
  unfold listed
  rw [show keysOf (aw3 f).names = [[97]] from keys1 f]
  simp [keepP, aw3, Lib.hasPrefix]
end Go.Proofs.Ytijdgmbpkfmciaa.Fs
