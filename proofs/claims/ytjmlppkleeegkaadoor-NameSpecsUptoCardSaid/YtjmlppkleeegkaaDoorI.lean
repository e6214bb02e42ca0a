/- Walks: refspecs are read (name.Parse). -/
import Derived.Test.YtjmlppkleeegkaaDoorH
namespace Go.Proofs.YtjmlppkleeegkaaDoor.Nm
open Go.RowKit Go.Lib
open Go (below_drewN)

theorem bcell {W w1 : World} (hb : Below W.heap.size W w1) : (∀ b o, b < W.heap.size → w1.cell? ⟨b, o, none⟩ = W.cell? ⟨b, o, none⟩) ∧ (∀ b o, b < W.heap.size → w1.frozen? ⟨b, o, none⟩ = W.frozen? ⟨b, o, none⟩) :=
  ⟨fun b o h => hb.cell (p := ⟨b, o, none⟩) h, fun b o h => hb.frozen (p := ⟨b, o, none⟩) h⟩

abbrev S (l : List UInt8) : ByteArray := ⟨l.toArray⟩
theorem S_data (l : List UInt8) : (S l).data.toList = l := by simp
theorem S_of (s : ByteArray) : S s.data.toList = s := Lib.mk_data s

theorem set_twice (w : World) (b o : Nat) (v v' : Value) : (w.setCell ⟨b, o, none⟩ v).setCell ⟨b, o, none⟩ v' = w.setCell ⟨b, o, none⟩ v' := by
  unfold World.setCell
  congr 1
  apply Array.ext_getElem?
  intro j
  simp only [Array.getElem?_modify]
  by_cases h : b = j
  · subst h
    cases w.heap[b]? with
    | none => simp
    | some x => cases x <;> simp
  · simp [h]
theorem Glob.of {w w' : World} (h : Glob w) (hc : ∀ b o, b < 3 → w'.cell? ⟨b, o, none⟩ = w.cell? ⟨b, o, none⟩) (hs : w.heap.size ≤ w'.heap.size) : Glob w' := by
  obtain ⟨m, hm⟩ := h.most
  refine ⟨⟨fun c h1 => ?_, fun i h1 => ⟨?_, ?_⟩⟩, ⟨m, (hc 2 0 (by omega)).trans hm⟩, Nat.le_trans h.size hs⟩
  · exact (hc 0 _ (by omega)).trans (h.tabs.1 c h1)
  · exact (hc 1 _ (by omega)).trans (h.tabs.2 i h1).1
  · exact (hc 1 _ (by omega)).trans (h.tabs.2 i h1).2
theorem Glob.alloc {w : World} (h : Glob w) (o : Obj) : Glob (w.alloc o) := h.below ((Below.refl _ _).alloc (Nat.le_refl _) _)
theorem Glob.drewN {w : World} (h : Glob w) (n : Nat) : Glob (w.drewN n) := h.below (below_drewN (Below.refl _ _) _)
theorem Glob.setCell {w : World} (h : Glob w) {a : Addr} (ha : 3 ≤ a.block) (v : Value) : Glob (w.setCell a v) := by
  have hb : Below 3 w (w.setCell a v) := (Below.refl 3 w).setCell ha v
  exact h.of (fun b o hb' => hb.cell (p := ⟨b, o, none⟩) hb') hb.size

/-- Parse's answer as a value. -/
def specV : Option (Bool × List UInt8 × List UInt8) → Value
  | none => .tuple #[.agg #[.bool false, .string ⟨#[]⟩, .string ⟨#[]⟩], .int .i64 3]
  | some (f, a, b) => .tuple #[.agg #[.bool f, .string (S a), .string (S b)], .int .i64 0]

/-- What Parse's callees are asked for. -/
def SideAt (x : ByteArray) (a b : Bool) : Prop := ∀ w, Glob w → Calls Tryd.prog 22 #[.string x] w fun e w' => e = .returned (.tuple #[.bool a, .bool b]) ∧ Below w.heap.size w w'


set_option maxHeartbeats 4000000 in
set_option maxRecDepth 1000000 in
theorem parse_t1 (s s1 B1 B2 : ByteArray) (f d2 : Bool) (w : World) (hG : Glob w)
    (cP : ∀ w, Calls Tryd.prog 20 #[.string s, .string ⟨#[43]⟩] w fun e w' => e = .returned (.tuple #[.string s1, .bool f]) ∧ w' = w)
    (cC : ∀ w, Glob w → Calls Tryd.prog 21 #[.string s1, .string ⟨#[58]⟩] w fun e w' => e = .returned (.tuple #[.string B1, .string B2, .bool true]) ∧ ∃ n, w' = w.drewN n)
    (cD : SideAt B2 false d2) :
    Calls Tryd.prog 8 #[.string s] w fun e w' => e = .returned (.tuple #[.agg #[.bool false, .string ⟨#[]⟩, .string ⟨#[]⟩], .int .i64 3]) ∧ Below w.heap.size w w' := by
  have hGs := hG.size
  have hss := set_twice
  have tok1 : True := trivial
  go_enter Tryd.func8, Tryd.ntmps8
  go_wp2_with (first
    | (go_at_call 20; refine (cP _).mono ?_; rintro e w' ⟨rfl, rfl⟩)
    | (go_at_call 21; refine (cC _ ?_).mono ?_; exact ((hG.alloc _).alloc _); rintro e w2 ⟨rfl, n, rfl⟩)
    | (go_at_call 22; have tk1 := tok1; refine (cD _ ?_).mono ?_; (with_reducible repeat (first | exact hG | refine Glob.setCell ?_ (by first | (simp; done) | (simp; omega)) _ | refine Glob.drewN ?_ _ | refine Glob.alloc ?_ _)); rintro e w3 ⟨rfl, hb3⟩; obtain ⟨hc3, hf3⟩ := bcell hb3; have hz3 : w.heap.size + 1 < w3.heap.size := (by have h := hb3.size; simp at h; omega); have hz3b : w.heap.size < w3.heap.size := (by omega); clear tok1))
  have q0 : w3.cell? ⟨w.heap.size, 0, none⟩ = some (.bool false) := by rw [hc3 _ _ (by first | (simp; done) | (simp; omega))]; go_simp
  have q1 : w3.cell? ⟨w.heap.size, 1, none⟩ = some (.string ⟨#[]⟩) := by rw [hc3 _ _ (by first | (simp; done) | (simp; omega))]; go_simp
  have q2 : w3.cell? ⟨w.heap.size, 2, none⟩ = some (.string ⟨#[]⟩) := by rw [hc3 _ _ (by first | (simp; done) | (simp; omega))]; go_simp
  have p0 : w3.cell? ⟨w.heap.size + 1, 0, none⟩ = some (.bool f) := by rw [hc3 _ _ (by first | (simp; done) | (simp; omega))]; go_simp
  have p1 : w3.cell? ⟨w.heap.size + 1, 1, none⟩ = some (.string B1) := by rw [hc3 _ _ (by first | (simp; done) | (simp; omega))]; go_simp
  have p2 : w3.cell? ⟨w.heap.size + 1, 2, none⟩ = some (.string B2) := by rw [hc3 _ _ (by first | (simp; done) | (simp; omega))]; go_simp
  refine bodyPost_ret (v := .tuple #[.agg #[.bool false, .string ⟨#[]⟩, .string ⟨#[]⟩], .int .i64 3]) (by simp [results, Tryd.results8, go_sem, q0, q1, q2]) rfl ⟨rfl, ?_⟩
  (with_reducible repeat (first | exact Below.refl _ _ | refine Below.setCell ?_ (by first | (simp; done) | (simp; omega)) _ | refine Below.alloc ?_ (by first | (simp; done) | (simp; omega)) _ | refine below_drewN ?_ _ | refine Below.trans ?_ (hb3.mono (by first | (simp; done) | (simp; omega)))))

set_option maxHeartbeats 4000000 in
set_option maxRecDepth 1000000 in
theorem parse_t2a (s s1 B2 : ByteArray) (f f1 f2 : Bool) (w : World) (hG : Glob w)
    (cP : ∀ w, Calls Tryd.prog 20 #[.string s, .string ⟨#[43]⟩] w fun e w' => e = .returned (.tuple #[.string s1, .bool f]) ∧ w' = w)
    (cC : ∀ w, Glob w → Calls Tryd.prog 21 #[.string s1, .string ⟨#[58]⟩] w fun e w' => e = .returned (.tuple #[.string ⟨#[]⟩, .string B2, .bool true]) ∧ ∃ n, w' = w.drewN n)
    (cD : SideAt B2 true true) (cF : SideAt ⟨#[]⟩ f1 f2) :
    Calls Tryd.prog 8 #[.string s] w fun e w' => e = .returned (.tuple #[.agg #[.bool false, .string ⟨#[]⟩, .string ⟨#[]⟩], .int .i64 3]) ∧ Below w.heap.size w w' := by
  have hGs := hG.size
  have hss := set_twice
  have tok1 : True := trivial
  go_enter Tryd.func8, Tryd.ntmps8
  go_wp2_with (first
    | (go_at_call 20; refine (cP _).mono ?_; rintro e w' ⟨rfl, rfl⟩)
    | (go_at_call 21; refine (cC _ ?_).mono ?_; exact ((hG.alloc _).alloc _); rintro e w2 ⟨rfl, n, rfl⟩)
    | (go_at_call 22; have tk1 := tok1; refine (cD _ ?_).mono ?_; (with_reducible repeat (first | exact hG | refine Glob.setCell ?_ (by first | (simp; done) | (simp; omega)) _ | refine Glob.drewN ?_ _ | refine Glob.alloc ?_ _)); rintro e w3 ⟨rfl, hb3⟩; obtain ⟨hc3, hf3⟩ := bcell hb3; have hz3 : w.heap.size + 1 < w3.heap.size := (by have h := hb3.size; simp at h; omega); have hz3b : w.heap.size < w3.heap.size := (by omega); clear tok1)
    | (go_at_call 22; refine (cF _ ?_).mono ?_; refine Glob.below ?_ hb3; (with_reducible repeat (first | exact hG | refine Glob.setCell ?_ (by first | (simp; done) | (simp; omega)) _ | refine Glob.drewN ?_ _ | refine Glob.alloc ?_ _)); rintro e w4 ⟨rfl, hb4⟩; obtain ⟨hc4, hf4⟩ := bcell hb4; have hz4 : w.heap.size + 1 < w4.heap.size := (by have h := hb4.size; omega); have hz4b : w.heap.size < w4.heap.size := (by omega)))
  have q0 : w4.cell? ⟨w.heap.size, 0, none⟩ = some (.bool false) := by rw [hc4 _ _ (by omega), hc3 _ _ (by first | (simp; done) | (simp; omega))]; go_simp
  have q1 : w4.cell? ⟨w.heap.size, 1, none⟩ = some (.string ⟨#[]⟩) := by rw [hc4 _ _ (by omega), hc3 _ _ (by first | (simp; done) | (simp; omega))]; go_simp
  have q2 : w4.cell? ⟨w.heap.size, 2, none⟩ = some (.string ⟨#[]⟩) := by rw [hc4 _ _ (by omega), hc3 _ _ (by first | (simp; done) | (simp; omega))]; go_simp
  have p0 : w4.cell? ⟨w.heap.size + 1, 0, none⟩ = some (.bool f) := by rw [hc4 _ _ (by omega), hc3 _ _ (by first | (simp; done) | (simp; omega))]; go_simp
  have p1 : w4.cell? ⟨w.heap.size + 1, 1, none⟩ = some (.string ⟨#[]⟩) := by rw [hc4 _ _ (by omega), hc3 _ _ (by first | (simp; done) | (simp; omega))]; go_simp
  have p2 : w4.cell? ⟨w.heap.size + 1, 2, none⟩ = some (.string B2) := by rw [hc4 _ _ (by omega), hc3 _ _ (by first | (simp; done) | (simp; omega))]; go_simp
  refine bodyPost_ret (v := .tuple #[.agg #[.bool false, .string ⟨#[]⟩, .string ⟨#[]⟩], .int .i64 3]) (by simp [results, Tryd.results8, go_sem, q0, q1, q2]) rfl ⟨rfl, ?_⟩
  (with_reducible repeat (first | exact Below.refl _ _ | refine Below.setCell ?_ (by first | (simp; done) | (simp; omega)) _ | refine Below.alloc ?_ (by first | (simp; done) | (simp; omega)) _ | refine below_drewN ?_ _ | refine Below.trans ?_ (hb4.mono (by omega)) | refine Below.trans ?_ (hb3.mono (by first | (simp; done) | (simp; omega)))))

set_option maxHeartbeats 4000000 in
set_option maxRecDepth 1000000 in
theorem parse_t2b (s s1 B2 : ByteArray) (f f1 f2 : Bool) (w : World) (hG : Glob w)
    (cP : ∀ w, Calls Tryd.prog 20 #[.string s, .string ⟨#[43]⟩] w fun e w' => e = .returned (.tuple #[.string s1, .bool f]) ∧ w' = w)
    (cC : ∀ w, Glob w → Calls Tryd.prog 21 #[.string s1, .string ⟨#[58]⟩] w fun e w' => e = .returned (.tuple #[.string ⟨#[]⟩, .string B2, .bool true]) ∧ ∃ n, w' = w.drewN n)
    (cD : SideAt B2 true false) (cF : SideAt ⟨#[]⟩ f1 f2) :
    Calls Tryd.prog 8 #[.string s] w fun e w' => e = .returned (.tuple #[.agg #[.bool f, .string ⟨#[]⟩, .string B2], .int .i64 0]) ∧ Below w.heap.size w w' := by
  have hGs := hG.size
  have hss := set_twice
  have tok1 : True := trivial
  go_enter Tryd.func8, Tryd.ntmps8
  go_wp2_with (first
    | (go_at_call 20; refine (cP _).mono ?_; rintro e w' ⟨rfl, rfl⟩)
    | (go_at_call 21; refine (cC _ ?_).mono ?_; exact ((hG.alloc _).alloc _); rintro e w2 ⟨rfl, n, rfl⟩)
    | (go_at_call 22; have tk1 := tok1; refine (cD _ ?_).mono ?_; (with_reducible repeat (first | exact hG | refine Glob.setCell ?_ (by first | (simp; done) | (simp; omega)) _ | refine Glob.drewN ?_ _ | refine Glob.alloc ?_ _)); rintro e w3 ⟨rfl, hb3⟩; obtain ⟨hc3, hf3⟩ := bcell hb3; have hz3 : w.heap.size + 1 < w3.heap.size := (by have h := hb3.size; simp at h; omega); have hz3b : w.heap.size < w3.heap.size := (by omega); clear tok1)
    | (go_at_call 22; refine (cF _ ?_).mono ?_; refine Glob.below ?_ hb3; (with_reducible repeat (first | exact hG | refine Glob.setCell ?_ (by first | (simp; done) | (simp; omega)) _ | refine Glob.drewN ?_ _ | refine Glob.alloc ?_ _)); rintro e w4 ⟨rfl, hb4⟩; obtain ⟨hc4, hf4⟩ := bcell hb4; have hz4 : w.heap.size + 1 < w4.heap.size := (by have h := hb4.size; omega); have hz4b : w.heap.size < w4.heap.size := (by omega)))
  have q0 : w4.cell? ⟨w.heap.size, 0, none⟩ = some (.bool false) := by rw [hc4 _ _ (by omega), hc3 _ _ (by first | (simp; done) | (simp; omega))]; go_simp
  have q1 : w4.cell? ⟨w.heap.size, 1, none⟩ = some (.string ⟨#[]⟩) := by rw [hc4 _ _ (by omega), hc3 _ _ (by first | (simp; done) | (simp; omega))]; go_simp
  have q2 : w4.cell? ⟨w.heap.size, 2, none⟩ = some (.string ⟨#[]⟩) := by rw [hc4 _ _ (by omega), hc3 _ _ (by first | (simp; done) | (simp; omega))]; go_simp
  have p0 : w4.cell? ⟨w.heap.size + 1, 0, none⟩ = some (.bool f) := by rw [hc4 _ _ (by omega), hc3 _ _ (by first | (simp; done) | (simp; omega))]; go_simp
  have p1 : w4.cell? ⟨w.heap.size + 1, 1, none⟩ = some (.string ⟨#[]⟩) := by rw [hc4 _ _ (by omega), hc3 _ _ (by first | (simp; done) | (simp; omega))]; go_simp
  have p2 : w4.cell? ⟨w.heap.size + 1, 2, none⟩ = some (.string B2) := by rw [hc4 _ _ (by omega), hc3 _ _ (by first | (simp; done) | (simp; omega))]; go_simp
  refine bodyPost_ret (v := .tuple #[.agg #[.bool f, .string ⟨#[]⟩, .string B2], .int .i64 0]) (by simp [results, Tryd.results8, go_sem, q0, q1, q2]) rfl ⟨rfl, ?_⟩
  (with_reducible repeat (first | exact Below.refl _ _ | refine Below.setCell ?_ (by first | (simp; done) | (simp; omega)) _ | refine Below.alloc ?_ (by first | (simp; done) | (simp; omega)) _ | refine below_drewN ?_ _ | refine Below.trans ?_ (hb4.mono (by omega)) | refine Below.trans ?_ (hb3.mono (by first | (simp; done) | (simp; omega)))))

set_option maxHeartbeats 4000000 in
set_option maxRecDepth 1000000 in
theorem parse_t3 (s s1 B1 B2 : ByteArray) (f d2 f2 : Bool) (w : World) (hG : Glob w)
    (cP : ∀ w, Calls Tryd.prog 20 #[.string s, .string ⟨#[43]⟩] w fun e w' => e = .returned (.tuple #[.string s1, .bool f]) ∧ w' = w)
    (cC : ∀ w, Glob w → Calls Tryd.prog 21 #[.string s1, .string ⟨#[58]⟩] w fun e w' => e = .returned (.tuple #[.string B1, .string B2, .bool true]) ∧ ∃ n, w' = w.drewN n)
    (cD : SideAt B2 true d2) (cF : SideAt B1 false f2)
    (hne : B1.toList ≠ []) :
    Calls Tryd.prog 8 #[.string s] w fun e w' => e = .returned (.tuple #[.agg #[.bool false, .string ⟨#[]⟩, .string ⟨#[]⟩], .int .i64 3]) ∧ Below w.heap.size w w' := by
  have hGs := hG.size
  have hss := set_twice
  have tok1 : True := trivial
  have ne1 : (B1.toList == []) = false := beq_eq_false_iff_ne.2 hne
  have ne2 : B1.toList.isEmpty = false := by cases h : B1.toList with | nil => exact absurd h hne | cons a t => rfl
  go_enter Tryd.func8, Tryd.ntmps8
  go_wp2_with (first
    | (go_at_call 20; refine (cP _).mono ?_; rintro e w' ⟨rfl, rfl⟩)
    | (go_at_call 21; refine (cC _ ?_).mono ?_; exact ((hG.alloc _).alloc _); rintro e w2 ⟨rfl, n, rfl⟩)
    | (go_at_call 22; have tk1 := tok1; refine (cD _ ?_).mono ?_; (with_reducible repeat (first | exact hG | refine Glob.setCell ?_ (by first | (simp; done) | (simp; omega)) _ | refine Glob.drewN ?_ _ | refine Glob.alloc ?_ _)); rintro e w3 ⟨rfl, hb3⟩; obtain ⟨hc3, hf3⟩ := bcell hb3; have hz3 : w.heap.size + 1 < w3.heap.size := (by have h := hb3.size; simp at h; omega); have hz3b : w.heap.size < w3.heap.size := (by omega); clear tok1)
    | (go_at_call 22; refine (cF _ ?_).mono ?_; refine Glob.below ?_ hb3; (with_reducible repeat (first | exact hG | refine Glob.setCell ?_ (by first | (simp; done) | (simp; omega)) _ | refine Glob.drewN ?_ _ | refine Glob.alloc ?_ _)); rintro e w4 ⟨rfl, hb4⟩; obtain ⟨hc4, hf4⟩ := bcell hb4; have hz4 : w.heap.size + 1 < w4.heap.size := (by have h := hb4.size; omega); have hz4b : w.heap.size < w4.heap.size := (by omega)))
  have q0 : w4.cell? ⟨w.heap.size, 0, none⟩ = some (.bool false) := by rw [hc4 _ _ (by omega), hc3 _ _ (by first | (simp; done) | (simp; omega))]; go_simp
  have q1 : w4.cell? ⟨w.heap.size, 1, none⟩ = some (.string ⟨#[]⟩) := by rw [hc4 _ _ (by omega), hc3 _ _ (by first | (simp; done) | (simp; omega))]; go_simp
  have q2 : w4.cell? ⟨w.heap.size, 2, none⟩ = some (.string ⟨#[]⟩) := by rw [hc4 _ _ (by omega), hc3 _ _ (by first | (simp; done) | (simp; omega))]; go_simp
  have p0 : w4.cell? ⟨w.heap.size + 1, 0, none⟩ = some (.bool f) := by rw [hc4 _ _ (by omega), hc3 _ _ (by first | (simp; done) | (simp; omega))]; go_simp
  have p1 : w4.cell? ⟨w.heap.size + 1, 1, none⟩ = some (.string B1) := by rw [hc4 _ _ (by omega), hc3 _ _ (by first | (simp; done) | (simp; omega))]; go_simp
  have p2 : w4.cell? ⟨w.heap.size + 1, 2, none⟩ = some (.string B2) := by rw [hc4 _ _ (by omega), hc3 _ _ (by first | (simp; done) | (simp; omega))]; go_simp
  refine bodyPost_ret (v := .tuple #[.agg #[.bool false, .string ⟨#[]⟩, .string ⟨#[]⟩], .int .i64 3]) (by simp [results, Tryd.results8, go_sem, q0, q1, q2]) rfl ⟨rfl, ?_⟩
  (with_reducible repeat (first | exact Below.refl _ _ | refine Below.setCell ?_ (by first | (simp; done) | (simp; omega)) _ | refine Below.alloc ?_ (by first | (simp; done) | (simp; omega)) _ | refine below_drewN ?_ _ | refine Below.trans ?_ (hb4.mono (by omega)) | refine Below.trans ?_ (hb3.mono (by first | (simp; done) | (simp; omega)))))

set_option maxHeartbeats 4000000 in
set_option maxRecDepth 1000000 in
theorem parse_t4 (s s1 B1 B2 : ByteArray) (f : Bool) (w : World) (hG : Glob w)
    (cP : ∀ w, Calls Tryd.prog 20 #[.string s, .string ⟨#[43]⟩] w fun e w' => e = .returned (.tuple #[.string s1, .bool f]) ∧ w' = w)
    (cC : ∀ w, Glob w → Calls Tryd.prog 21 #[.string s1, .string ⟨#[58]⟩] w fun e w' => e = .returned (.tuple #[.string B1, .string B2, .bool true]) ∧ ∃ n, w' = w.drewN n)
    (cD : SideAt B2 true false) (cF : SideAt B1 true false)
    (hne : B1.toList ≠ []) :
    Calls Tryd.prog 8 #[.string s] w fun e w' => e = .returned (.tuple #[.agg #[.bool f, .string B1, .string B2], .int .i64 0]) ∧ Below w.heap.size w w' := by
  have hGs := hG.size
  have hss := set_twice
  have tok1 : True := trivial
  have ne1 : (B1.toList == []) = false := beq_eq_false_iff_ne.2 hne
  have ne2 : B1.toList.isEmpty = false := by cases h : B1.toList with | nil => exact absurd h hne | cons a t => rfl
  go_enter Tryd.func8, Tryd.ntmps8
  go_wp2_with (first
    | (go_at_call 20; refine (cP _).mono ?_; rintro e w' ⟨rfl, rfl⟩)
    | (go_at_call 21; refine (cC _ ?_).mono ?_; exact ((hG.alloc _).alloc _); rintro e w2 ⟨rfl, n, rfl⟩)
    | (go_at_call 22; have tk1 := tok1; refine (cD _ ?_).mono ?_; (with_reducible repeat (first | exact hG | refine Glob.setCell ?_ (by first | (simp; done) | (simp; omega)) _ | refine Glob.drewN ?_ _ | refine Glob.alloc ?_ _)); rintro e w3 ⟨rfl, hb3⟩; obtain ⟨hc3, hf3⟩ := bcell hb3; have hz3 : w.heap.size + 1 < w3.heap.size := (by have h := hb3.size; simp at h; omega); have hz3b : w.heap.size < w3.heap.size := (by omega); clear tok1)
    | (go_at_call 22; refine (cF _ ?_).mono ?_; refine Glob.below ?_ hb3; (with_reducible repeat (first | exact hG | refine Glob.setCell ?_ (by first | (simp; done) | (simp; omega)) _ | refine Glob.drewN ?_ _ | refine Glob.alloc ?_ _)); rintro e w4 ⟨rfl, hb4⟩; obtain ⟨hc4, hf4⟩ := bcell hb4; have hz4 : w.heap.size + 1 < w4.heap.size := (by have h := hb4.size; omega); have hz4b : w.heap.size < w4.heap.size := (by omega)))
  have q0 : w4.cell? ⟨w.heap.size, 0, none⟩ = some (.bool false) := by rw [hc4 _ _ (by omega), hc3 _ _ (by first | (simp; done) | (simp; omega))]; go_simp
  have q1 : w4.cell? ⟨w.heap.size, 1, none⟩ = some (.string ⟨#[]⟩) := by rw [hc4 _ _ (by omega), hc3 _ _ (by first | (simp; done) | (simp; omega))]; go_simp
  have q2 : w4.cell? ⟨w.heap.size, 2, none⟩ = some (.string ⟨#[]⟩) := by rw [hc4 _ _ (by omega), hc3 _ _ (by first | (simp; done) | (simp; omega))]; go_simp
  have p0 : w4.cell? ⟨w.heap.size + 1, 0, none⟩ = some (.bool f) := by rw [hc4 _ _ (by omega), hc3 _ _ (by first | (simp; done) | (simp; omega))]; go_simp
  have p1 : w4.cell? ⟨w.heap.size + 1, 1, none⟩ = some (.string B1) := by rw [hc4 _ _ (by omega), hc3 _ _ (by first | (simp; done) | (simp; omega))]; go_simp
  have p2 : w4.cell? ⟨w.heap.size + 1, 2, none⟩ = some (.string B2) := by rw [hc4 _ _ (by omega), hc3 _ _ (by first | (simp; done) | (simp; omega))]; go_simp
  refine bodyPost_ret (v := .tuple #[.agg #[.bool f, .string B1, .string B2], .int .i64 0]) (by simp [results, Tryd.results8, go_sem, q0, q1, q2]) rfl ⟨rfl, ?_⟩
  (with_reducible repeat (first | exact Below.refl _ _ | refine Below.setCell ?_ (by first | (simp; done) | (simp; omega)) _ | refine Below.alloc ?_ (by first | (simp; done) | (simp; omega)) _ | refine below_drewN ?_ _ | refine Below.trans ?_ (hb4.mono (by omega)) | refine Below.trans ?_ (hb3.mono (by first | (simp; done) | (simp; omega)))))

set_option maxHeartbeats 4000000 in
set_option maxRecDepth 1000000 in
theorem parse_t5 (s s1 B1 B2 : ByteArray) (f : Bool) (w : World) (hG : Glob w)
    (cP : ∀ w, Calls Tryd.prog 20 #[.string s, .string ⟨#[43]⟩] w fun e w' => e = .returned (.tuple #[.string s1, .bool f]) ∧ w' = w)
    (cC : ∀ w, Glob w → Calls Tryd.prog 21 #[.string s1, .string ⟨#[58]⟩] w fun e w' => e = .returned (.tuple #[.string B1, .string B2, .bool true]) ∧ ∃ n, w' = w.drewN n)
    (cD : SideAt B2 true true) (cF : SideAt B1 true true)
    (hne : B1.toList ≠ []) :
    Calls Tryd.prog 8 #[.string s] w fun e w' => e = .returned (.tuple #[.agg #[.bool f, .string B1, .string B2], .int .i64 0]) ∧ Below w.heap.size w w' := by
  have hGs := hG.size
  have hss := set_twice
  have tok1 : True := trivial
  have ne1 : (B1.toList == []) = false := beq_eq_false_iff_ne.2 hne
  have ne2 : B1.toList.isEmpty = false := by cases h : B1.toList with | nil => exact absurd h hne | cons a t => rfl
  go_enter Tryd.func8, Tryd.ntmps8
  go_wp2_with (first
    | (go_at_call 20; refine (cP _).mono ?_; rintro e w' ⟨rfl, rfl⟩)
    | (go_at_call 21; refine (cC _ ?_).mono ?_; exact ((hG.alloc _).alloc _); rintro e w2 ⟨rfl, n, rfl⟩)
    | (go_at_call 22; have tk1 := tok1; refine (cD _ ?_).mono ?_; (with_reducible repeat (first | exact hG | refine Glob.setCell ?_ (by first | (simp; done) | (simp; omega)) _ | refine Glob.drewN ?_ _ | refine Glob.alloc ?_ _)); rintro e w3 ⟨rfl, hb3⟩; obtain ⟨hc3, hf3⟩ := bcell hb3; have hz3 : w.heap.size + 1 < w3.heap.size := (by have h := hb3.size; simp at h; omega); have hz3b : w.heap.size < w3.heap.size := (by omega); clear tok1)
    | (go_at_call 22; refine (cF _ ?_).mono ?_; refine Glob.below ?_ hb3; (with_reducible repeat (first | exact hG | refine Glob.setCell ?_ (by first | (simp; done) | (simp; omega)) _ | refine Glob.drewN ?_ _ | refine Glob.alloc ?_ _)); rintro e w4 ⟨rfl, hb4⟩; obtain ⟨hc4, hf4⟩ := bcell hb4; have hz4 : w.heap.size + 1 < w4.heap.size := (by have h := hb4.size; omega); have hz4b : w.heap.size < w4.heap.size := (by omega)))
  have q0 : w4.cell? ⟨w.heap.size, 0, none⟩ = some (.bool false) := by rw [hc4 _ _ (by omega), hc3 _ _ (by first | (simp; done) | (simp; omega))]; go_simp
  have q1 : w4.cell? ⟨w.heap.size, 1, none⟩ = some (.string ⟨#[]⟩) := by rw [hc4 _ _ (by omega), hc3 _ _ (by first | (simp; done) | (simp; omega))]; go_simp
  have q2 : w4.cell? ⟨w.heap.size, 2, none⟩ = some (.string ⟨#[]⟩) := by rw [hc4 _ _ (by omega), hc3 _ _ (by first | (simp; done) | (simp; omega))]; go_simp
  have p0 : w4.cell? ⟨w.heap.size + 1, 0, none⟩ = some (.bool f) := by rw [hc4 _ _ (by omega), hc3 _ _ (by first | (simp; done) | (simp; omega))]; go_simp
  have p1 : w4.cell? ⟨w.heap.size + 1, 1, none⟩ = some (.string B1) := by rw [hc4 _ _ (by omega), hc3 _ _ (by first | (simp; done) | (simp; omega))]; go_simp
  have p2 : w4.cell? ⟨w.heap.size + 1, 2, none⟩ = some (.string B2) := by rw [hc4 _ _ (by omega), hc3 _ _ (by first | (simp; done) | (simp; omega))]; go_simp
  refine bodyPost_ret (v := .tuple #[.agg #[.bool f, .string B1, .string B2], .int .i64 0]) (by simp [results, Tryd.results8, go_sem, q0, q1, q2]) rfl ⟨rfl, ?_⟩
  (with_reducible repeat (first | exact Below.refl _ _ | refine Below.setCell ?_ (by first | (simp; done) | (simp; omega)) _ | refine Below.alloc ?_ (by first | (simp; done) | (simp; omega)) _ | refine below_drewN ?_ _ | refine Below.trans ?_ (hb4.mono (by omega)) | refine Below.trans ?_ (hb3.mono (by first | (simp; done) | (simp; omega)))))

set_option maxHeartbeats 4000000 in
set_option maxRecDepth 1000000 in
theorem parse_t6 (s s1 B1 B2 : ByteArray) (f : Bool) (w : World) (hG : Glob w)
    (cP : ∀ w, Calls Tryd.prog 20 #[.string s, .string ⟨#[43]⟩] w fun e w' => e = .returned (.tuple #[.string s1, .bool f]) ∧ w' = w)
    (cC : ∀ w, Glob w → Calls Tryd.prog 21 #[.string s1, .string ⟨#[58]⟩] w fun e w' => e = .returned (.tuple #[.string B1, .string B2, .bool true]) ∧ ∃ n, w' = w.drewN n)
    (cD : SideAt B2 true false) (cF : SideAt B1 true true)
    (hne : B1.toList ≠ []) :
    Calls Tryd.prog 8 #[.string s] w fun e w' => e = .returned (.tuple #[.agg #[.bool false, .string ⟨#[]⟩, .string ⟨#[]⟩], .int .i64 3]) ∧ Below w.heap.size w w' := by
  have hGs := hG.size
  have hss := set_twice
  have tok1 : True := trivial
  have ne1 : (B1.toList == []) = false := beq_eq_false_iff_ne.2 hne
  have ne2 : B1.toList.isEmpty = false := by cases h : B1.toList with | nil => exact absurd h hne | cons a t => rfl
  go_enter Tryd.func8, Tryd.ntmps8
  go_wp2_with (first
    | (go_at_call 20; refine (cP _).mono ?_; rintro e w' ⟨rfl, rfl⟩)
    | (go_at_call 21; refine (cC _ ?_).mono ?_; exact ((hG.alloc _).alloc _); rintro e w2 ⟨rfl, n, rfl⟩)
    | (go_at_call 22; have tk1 := tok1; refine (cD _ ?_).mono ?_; (with_reducible repeat (first | exact hG | refine Glob.setCell ?_ (by first | (simp; done) | (simp; omega)) _ | refine Glob.drewN ?_ _ | refine Glob.alloc ?_ _)); rintro e w3 ⟨rfl, hb3⟩; obtain ⟨hc3, hf3⟩ := bcell hb3; have hz3 : w.heap.size + 1 < w3.heap.size := (by have h := hb3.size; simp at h; omega); have hz3b : w.heap.size < w3.heap.size := (by omega); clear tok1)
    | (go_at_call 22; refine (cF _ ?_).mono ?_; refine Glob.below ?_ hb3; (with_reducible repeat (first | exact hG | refine Glob.setCell ?_ (by first | (simp; done) | (simp; omega)) _ | refine Glob.drewN ?_ _ | refine Glob.alloc ?_ _)); rintro e w4 ⟨rfl, hb4⟩; obtain ⟨hc4, hf4⟩ := bcell hb4; have hz4 : w.heap.size + 1 < w4.heap.size := (by have h := hb4.size; omega); have hz4b : w.heap.size < w4.heap.size := (by omega)))
  have q0 : w4.cell? ⟨w.heap.size, 0, none⟩ = some (.bool false) := by rw [hc4 _ _ (by omega), hc3 _ _ (by first | (simp; done) | (simp; omega))]; go_simp
  have q1 : w4.cell? ⟨w.heap.size, 1, none⟩ = some (.string ⟨#[]⟩) := by rw [hc4 _ _ (by omega), hc3 _ _ (by first | (simp; done) | (simp; omega))]; go_simp
  have q2 : w4.cell? ⟨w.heap.size, 2, none⟩ = some (.string ⟨#[]⟩) := by rw [hc4 _ _ (by omega), hc3 _ _ (by first | (simp; done) | (simp; omega))]; go_simp
  have p0 : w4.cell? ⟨w.heap.size + 1, 0, none⟩ = some (.bool f) := by rw [hc4 _ _ (by omega), hc3 _ _ (by first | (simp; done) | (simp; omega))]; go_simp
  have p1 : w4.cell? ⟨w.heap.size + 1, 1, none⟩ = some (.string B1) := by rw [hc4 _ _ (by omega), hc3 _ _ (by first | (simp; done) | (simp; omega))]; go_simp
  have p2 : w4.cell? ⟨w.heap.size + 1, 2, none⟩ = some (.string B2) := by rw [hc4 _ _ (by omega), hc3 _ _ (by first | (simp; done) | (simp; omega))]; go_simp
  refine bodyPost_ret (v := .tuple #[.agg #[.bool false, .string ⟨#[]⟩, .string ⟨#[]⟩], .int .i64 3]) (by simp [results, Tryd.results8, go_sem, q0, q1, q2]) rfl ⟨rfl, ?_⟩
  (with_reducible repeat (first | exact Below.refl _ _ | refine Below.setCell ?_ (by first | (simp; done) | (simp; omega)) _ | refine Below.alloc ?_ (by first | (simp; done) | (simp; omega)) _ | refine below_drewN ?_ _ | refine Below.trans ?_ (hb4.mono (by omega)) | refine Below.trans ?_ (hb3.mono (by first | (simp; done) | (simp; omega)))))

set_option maxHeartbeats 4000000 in
set_option maxRecDepth 1000000 in
theorem parse_t7 (s s1 B1 B2 : ByteArray) (f : Bool) (w : World) (hG : Glob w)
    (cP : ∀ w, Calls Tryd.prog 20 #[.string s, .string ⟨#[43]⟩] w fun e w' => e = .returned (.tuple #[.string s1, .bool f]) ∧ w' = w)
    (cC : ∀ w, Glob w → Calls Tryd.prog 21 #[.string s1, .string ⟨#[58]⟩] w fun e w' => e = .returned (.tuple #[.string B1, .string B2, .bool true]) ∧ ∃ n, w' = w.drewN n)
    (cD : SideAt B2 true true) (cF : SideAt B1 true false)
    (hne : B1.toList ≠ []) :
    Calls Tryd.prog 8 #[.string s] w fun e w' => e = .returned (.tuple #[.agg #[.bool false, .string ⟨#[]⟩, .string ⟨#[]⟩], .int .i64 3]) ∧ Below w.heap.size w w' := by
  have hGs := hG.size
  have hss := set_twice
  have tok1 : True := trivial
  have ne1 : (B1.toList == []) = false := beq_eq_false_iff_ne.2 hne
  have ne2 : B1.toList.isEmpty = false := by cases h : B1.toList with | nil => exact absurd h hne | cons a t => rfl
  go_enter Tryd.func8, Tryd.ntmps8
  go_wp2_with (first
    | (go_at_call 20; refine (cP _).mono ?_; rintro e w' ⟨rfl, rfl⟩)
    | (go_at_call 21; refine (cC _ ?_).mono ?_; exact ((hG.alloc _).alloc _); rintro e w2 ⟨rfl, n, rfl⟩)
    | (go_at_call 22; have tk1 := tok1; refine (cD _ ?_).mono ?_; (with_reducible repeat (first | exact hG | refine Glob.setCell ?_ (by first | (simp; done) | (simp; omega)) _ | refine Glob.drewN ?_ _ | refine Glob.alloc ?_ _)); rintro e w3 ⟨rfl, hb3⟩; obtain ⟨hc3, hf3⟩ := bcell hb3; have hz3 : w.heap.size + 1 < w3.heap.size := (by have h := hb3.size; simp at h; omega); have hz3b : w.heap.size < w3.heap.size := (by omega); clear tok1)
    | (go_at_call 22; refine (cF _ ?_).mono ?_; refine Glob.below ?_ hb3; (with_reducible repeat (first | exact hG | refine Glob.setCell ?_ (by first | (simp; done) | (simp; omega)) _ | refine Glob.drewN ?_ _ | refine Glob.alloc ?_ _)); rintro e w4 ⟨rfl, hb4⟩; obtain ⟨hc4, hf4⟩ := bcell hb4; have hz4 : w.heap.size + 1 < w4.heap.size := (by have h := hb4.size; omega); have hz4b : w.heap.size < w4.heap.size := (by omega)))
  have q0 : w4.cell? ⟨w.heap.size, 0, none⟩ = some (.bool false) := by rw [hc4 _ _ (by omega), hc3 _ _ (by first | (simp; done) | (simp; omega))]; go_simp
  have q1 : w4.cell? ⟨w.heap.size, 1, none⟩ = some (.string ⟨#[]⟩) := by rw [hc4 _ _ (by omega), hc3 _ _ (by first | (simp; done) | (simp; omega))]; go_simp
  have q2 : w4.cell? ⟨w.heap.size, 2, none⟩ = some (.string ⟨#[]⟩) := by rw [hc4 _ _ (by omega), hc3 _ _ (by first | (simp; done) | (simp; omega))]; go_simp
  have p0 : w4.cell? ⟨w.heap.size + 1, 0, none⟩ = some (.bool f) := by rw [hc4 _ _ (by omega), hc3 _ _ (by first | (simp; done) | (simp; omega))]; go_simp
  have p1 : w4.cell? ⟨w.heap.size + 1, 1, none⟩ = some (.string B1) := by rw [hc4 _ _ (by omega), hc3 _ _ (by first | (simp; done) | (simp; omega))]; go_simp
  have p2 : w4.cell? ⟨w.heap.size + 1, 2, none⟩ = some (.string B2) := by rw [hc4 _ _ (by omega), hc3 _ _ (by first | (simp; done) | (simp; omega))]; go_simp
  refine bodyPost_ret (v := .tuple #[.agg #[.bool false, .string ⟨#[]⟩, .string ⟨#[]⟩], .int .i64 3]) (by simp [results, Tryd.results8, go_sem, q0, q1, q2]) rfl ⟨rfl, ?_⟩
  (with_reducible repeat (first | exact Below.refl _ _ | refine Below.setCell ?_ (by first | (simp; done) | (simp; omega)) _ | refine Below.alloc ?_ (by first | (simp; done) | (simp; omega)) _ | refine below_drewN ?_ _ | refine Below.trans ?_ (hb4.mono (by omega)) | refine Below.trans ?_ (hb3.mono (by first | (simp; done) | (simp; omega)))))

set_option maxHeartbeats 4000000 in
set_option maxRecDepth 1000000 in
theorem parse_f0 (s s1 B1 B2 : ByteArray) (f d2 : Bool) (w : World) (hG : Glob w)
    (cP : ∀ w, Calls Tryd.prog 20 #[.string s, .string ⟨#[43]⟩] w fun e w' => e = .returned (.tuple #[.string s1, .bool f]) ∧ w' = w)
    (cC : ∀ w, Glob w → Calls Tryd.prog 21 #[.string s1, .string ⟨#[58]⟩] w fun e w' => e = .returned (.tuple #[.string B1, .string B2, .bool false]) ∧ ∃ n, w' = w.drewN n)
    (cD : SideAt B1 false d2) :
    Calls Tryd.prog 8 #[.string s] w fun e w' => e = .returned (.tuple #[.agg #[.bool false, .string ⟨#[]⟩, .string ⟨#[]⟩], .int .i64 3]) ∧ Below w.heap.size w w' := by
  have hGs := hG.size
  have hss := set_twice
  have tok1 : True := trivial
  go_enter Tryd.func8, Tryd.ntmps8
  go_wp2_with (first
    | (go_at_call 20; refine (cP _).mono ?_; rintro e w' ⟨rfl, rfl⟩)
    | (go_at_call 21; refine (cC _ ?_).mono ?_; exact ((hG.alloc _).alloc _); rintro e w2 ⟨rfl, n, rfl⟩)
    | (go_at_call 22; have tk1 := tok1; refine (cD _ ?_).mono ?_; (with_reducible repeat (first | exact hG | refine Glob.setCell ?_ (by first | (simp; done) | (simp; omega)) _ | refine Glob.drewN ?_ _ | refine Glob.alloc ?_ _)); rintro e w3 ⟨rfl, hb3⟩; obtain ⟨hc3, hf3⟩ := bcell hb3; have hz3 : w.heap.size + 1 < w3.heap.size := (by have h := hb3.size; simp at h; omega); have hz3b : w.heap.size < w3.heap.size := (by omega); clear tok1))
  have q0 : w3.cell? ⟨w.heap.size, 0, none⟩ = some (.bool false) := by rw [hc3 _ _ (by first | (simp; done) | (simp; omega))]; go_simp
  have q1 : w3.cell? ⟨w.heap.size, 1, none⟩ = some (.string ⟨#[]⟩) := by rw [hc3 _ _ (by first | (simp; done) | (simp; omega))]; go_simp
  have q2 : w3.cell? ⟨w.heap.size, 2, none⟩ = some (.string ⟨#[]⟩) := by rw [hc3 _ _ (by first | (simp; done) | (simp; omega))]; go_simp
  have p0 : w3.cell? ⟨w.heap.size + 1, 0, none⟩ = some (.bool f) := by rw [hc3 _ _ (by first | (simp; done) | (simp; omega))]; go_simp
  have p1 : w3.cell? ⟨w.heap.size + 1, 1, none⟩ = some (.string B1) := by rw [hc3 _ _ (by first | (simp; done) | (simp; omega))]; go_simp
  have p2 : w3.cell? ⟨w.heap.size + 1, 2, none⟩ = some (.string B1) := by rw [hc3 _ _ (by first | (simp; done) | (simp; omega))]; go_simp
  refine bodyPost_ret (v := .tuple #[.agg #[.bool false, .string ⟨#[]⟩, .string ⟨#[]⟩], .int .i64 3]) (by simp [results, Tryd.results8, go_sem, q0, q1, q2]) rfl ⟨rfl, ?_⟩
  (with_reducible repeat (first | exact Below.refl _ _ | refine Below.setCell ?_ (by first | (simp; done) | (simp; omega)) _ | refine Below.alloc ?_ (by first | (simp; done) | (simp; omega)) _ | refine below_drewN ?_ _ | refine Below.trans ?_ (hb3.mono (by first | (simp; done) | (simp; omega)))))

set_option maxHeartbeats 4000000 in
set_option maxRecDepth 1000000 in
theorem parse_f1 (s s1 B2 : ByteArray) (f d2 : Bool) (w : World) (hG : Glob w)
    (cP : ∀ w, Calls Tryd.prog 20 #[.string s, .string ⟨#[43]⟩] w fun e w' => e = .returned (.tuple #[.string s1, .bool f]) ∧ w' = w)
    (cC : ∀ w, Glob w → Calls Tryd.prog 21 #[.string s1, .string ⟨#[58]⟩] w fun e w' => e = .returned (.tuple #[.string ⟨#[]⟩, .string B2, .bool false]) ∧ ∃ n, w' = w.drewN n)
    (cD : SideAt ⟨#[]⟩ true d2) (cF : SideAt ⟨#[]⟩ true d2) :
    Calls Tryd.prog 8 #[.string s] w fun e w' => e = .returned (.tuple #[.agg #[.bool false, .string ⟨#[]⟩, .string ⟨#[]⟩], .int .i64 3]) ∧ Below w.heap.size w w' := by
  have hGs := hG.size
  have hss := set_twice
  have tok1 : True := trivial
  go_enter Tryd.func8, Tryd.ntmps8
  go_wp2_with (first
    | (go_at_call 20; refine (cP _).mono ?_; rintro e w' ⟨rfl, rfl⟩)
    | (go_at_call 21; refine (cC _ ?_).mono ?_; exact ((hG.alloc _).alloc _); rintro e w2 ⟨rfl, n, rfl⟩)
    | (go_at_call 22; have tk1 := tok1; refine (cD _ ?_).mono ?_; (with_reducible repeat (first | exact hG | refine Glob.setCell ?_ (by first | (simp; done) | (simp; omega)) _ | refine Glob.drewN ?_ _ | refine Glob.alloc ?_ _)); rintro e w3 ⟨rfl, hb3⟩; obtain ⟨hc3, hf3⟩ := bcell hb3; have hz3 : w.heap.size + 1 < w3.heap.size := (by have h := hb3.size; simp at h; omega); have hz3b : w.heap.size < w3.heap.size := (by omega); clear tok1)
    | (go_at_call 22; refine (cF _ ?_).mono ?_; refine Glob.below ?_ hb3; (with_reducible repeat (first | exact hG | refine Glob.setCell ?_ (by first | (simp; done) | (simp; omega)) _ | refine Glob.drewN ?_ _ | refine Glob.alloc ?_ _)); rintro e w4 ⟨rfl, hb4⟩; obtain ⟨hc4, hf4⟩ := bcell hb4; have hz4 : w.heap.size + 1 < w4.heap.size := (by have h := hb4.size; omega); have hz4b : w.heap.size < w4.heap.size := (by omega)))
  have q0 : w4.cell? ⟨w.heap.size, 0, none⟩ = some (.bool false) := by rw [hc4 _ _ (by omega), hc3 _ _ (by first | (simp; done) | (simp; omega))]; go_simp
  have q1 : w4.cell? ⟨w.heap.size, 1, none⟩ = some (.string ⟨#[]⟩) := by rw [hc4 _ _ (by omega), hc3 _ _ (by first | (simp; done) | (simp; omega))]; go_simp
  have q2 : w4.cell? ⟨w.heap.size, 2, none⟩ = some (.string ⟨#[]⟩) := by rw [hc4 _ _ (by omega), hc3 _ _ (by first | (simp; done) | (simp; omega))]; go_simp
  have p0 : w4.cell? ⟨w.heap.size + 1, 0, none⟩ = some (.bool f) := by rw [hc4 _ _ (by omega), hc3 _ _ (by first | (simp; done) | (simp; omega))]; go_simp
  have p1 : w4.cell? ⟨w.heap.size + 1, 1, none⟩ = some (.string ⟨#[]⟩) := by rw [hc4 _ _ (by omega), hc3 _ _ (by first | (simp; done) | (simp; omega))]; go_simp
  have p2 : w4.cell? ⟨w.heap.size + 1, 2, none⟩ = some (.string ⟨#[]⟩) := by rw [hc4 _ _ (by omega), hc3 _ _ (by first | (simp; done) | (simp; omega))]; go_simp
  refine bodyPost_ret (v := .tuple #[.agg #[.bool false, .string ⟨#[]⟩, .string ⟨#[]⟩], .int .i64 3]) (by simp [results, Tryd.results8, go_sem, q0, q1, q2]) rfl ⟨rfl, ?_⟩
  (with_reducible repeat (first | exact Below.refl _ _ | refine Below.setCell ?_ (by first | (simp; done) | (simp; omega)) _ | refine Below.alloc ?_ (by first | (simp; done) | (simp; omega)) _ | refine below_drewN ?_ _ | refine Below.trans ?_ (hb4.mono (by omega)) | refine Below.trans ?_ (hb3.mono (by first | (simp; done) | (simp; omega)))))

set_option maxHeartbeats 4000000 in
set_option maxRecDepth 1000000 in
theorem parse_f2 (s s1 B1 B2 : ByteArray) (f : Bool) (w : World) (hG : Glob w)
    (cP : ∀ w, Calls Tryd.prog 20 #[.string s, .string ⟨#[43]⟩] w fun e w' => e = .returned (.tuple #[.string s1, .bool f]) ∧ w' = w)
    (cC : ∀ w, Glob w → Calls Tryd.prog 21 #[.string s1, .string ⟨#[58]⟩] w fun e w' => e = .returned (.tuple #[.string B1, .string B2, .bool false]) ∧ ∃ n, w' = w.drewN n)
    (cD : SideAt B1 true true) (cF : SideAt B1 true true)
    (hne : B1.toList ≠ []) :
    Calls Tryd.prog 8 #[.string s] w fun e w' => e = .returned (.tuple #[.agg #[.bool f, .string B1, .string B1], .int .i64 0]) ∧ Below w.heap.size w w' := by
  have hGs := hG.size
  have hss := set_twice
  have tok1 : True := trivial
  have ne1 : (B1.toList == []) = false := beq_eq_false_iff_ne.2 hne
  have ne2 : B1.toList.isEmpty = false := by cases h : B1.toList with | nil => exact absurd h hne | cons a t => rfl
  go_enter Tryd.func8, Tryd.ntmps8
  go_wp2_with (first
    | (go_at_call 20; refine (cP _).mono ?_; rintro e w' ⟨rfl, rfl⟩)
    | (go_at_call 21; refine (cC _ ?_).mono ?_; exact ((hG.alloc _).alloc _); rintro e w2 ⟨rfl, n, rfl⟩)
    | (go_at_call 22; have tk1 := tok1; refine (cD _ ?_).mono ?_; (with_reducible repeat (first | exact hG | refine Glob.setCell ?_ (by first | (simp; done) | (simp; omega)) _ | refine Glob.drewN ?_ _ | refine Glob.alloc ?_ _)); rintro e w3 ⟨rfl, hb3⟩; obtain ⟨hc3, hf3⟩ := bcell hb3; have hz3 : w.heap.size + 1 < w3.heap.size := (by have h := hb3.size; simp at h; omega); have hz3b : w.heap.size < w3.heap.size := (by omega); clear tok1)
    | (go_at_call 22; refine (cF _ ?_).mono ?_; refine Glob.below ?_ hb3; (with_reducible repeat (first | exact hG | refine Glob.setCell ?_ (by first | (simp; done) | (simp; omega)) _ | refine Glob.drewN ?_ _ | refine Glob.alloc ?_ _)); rintro e w4 ⟨rfl, hb4⟩; obtain ⟨hc4, hf4⟩ := bcell hb4; have hz4 : w.heap.size + 1 < w4.heap.size := (by have h := hb4.size; omega); have hz4b : w.heap.size < w4.heap.size := (by omega)))
  have q0 : w4.cell? ⟨w.heap.size, 0, none⟩ = some (.bool false) := by rw [hc4 _ _ (by omega), hc3 _ _ (by first | (simp; done) | (simp; omega))]; go_simp
  have q1 : w4.cell? ⟨w.heap.size, 1, none⟩ = some (.string ⟨#[]⟩) := by rw [hc4 _ _ (by omega), hc3 _ _ (by first | (simp; done) | (simp; omega))]; go_simp
  have q2 : w4.cell? ⟨w.heap.size, 2, none⟩ = some (.string ⟨#[]⟩) := by rw [hc4 _ _ (by omega), hc3 _ _ (by first | (simp; done) | (simp; omega))]; go_simp
  have p0 : w4.cell? ⟨w.heap.size + 1, 0, none⟩ = some (.bool f) := by rw [hc4 _ _ (by omega), hc3 _ _ (by first | (simp; done) | (simp; omega))]; go_simp
  have p1 : w4.cell? ⟨w.heap.size + 1, 1, none⟩ = some (.string B1) := by rw [hc4 _ _ (by omega), hc3 _ _ (by first | (simp; done) | (simp; omega))]; go_simp
  have p2 : w4.cell? ⟨w.heap.size + 1, 2, none⟩ = some (.string B1) := by rw [hc4 _ _ (by omega), hc3 _ _ (by first | (simp; done) | (simp; omega))]; go_simp
  refine bodyPost_ret (v := .tuple #[.agg #[.bool f, .string B1, .string B1], .int .i64 0]) (by simp [results, Tryd.results8, go_sem, q0, q1, q2]) rfl ⟨rfl, ?_⟩
  (with_reducible repeat (first | exact Below.refl _ _ | refine Below.setCell ?_ (by first | (simp; done) | (simp; omega)) _ | refine Below.alloc ?_ (by first | (simp; done) | (simp; omega)) _ | refine below_drewN ?_ _ | refine Below.trans ?_ (hb4.mono (by omega)) | refine Below.trans ?_ (hb3.mono (by first | (simp; done) | (simp; omega)))))

set_option maxHeartbeats 4000000 in
set_option maxRecDepth 1000000 in
theorem parse_f3 (s s1 B1 B2 : ByteArray) (f : Bool) (w : World) (hG : Glob w)
    (cP : ∀ w, Calls Tryd.prog 20 #[.string s, .string ⟨#[43]⟩] w fun e w' => e = .returned (.tuple #[.string s1, .bool f]) ∧ w' = w)
    (cC : ∀ w, Glob w → Calls Tryd.prog 21 #[.string s1, .string ⟨#[58]⟩] w fun e w' => e = .returned (.tuple #[.string B1, .string B2, .bool false]) ∧ ∃ n, w' = w.drewN n)
    (cD : SideAt B1 true false) (cF : SideAt B1 true false)
    (hne : B1.toList ≠ []) :
    Calls Tryd.prog 8 #[.string s] w fun e w' => e = .returned (.tuple #[.agg #[.bool f, .string B1, .string B1], .int .i64 0]) ∧ Below w.heap.size w w' := by
  have hGs := hG.size
  have hss := set_twice
  have tok1 : True := trivial
  have ne1 : (B1.toList == []) = false := beq_eq_false_iff_ne.2 hne
  have ne2 : B1.toList.isEmpty = false := by cases h : B1.toList with | nil => exact absurd h hne | cons a t => rfl
  go_enter Tryd.func8, Tryd.ntmps8
  go_wp2_with (first
    | (go_at_call 20; refine (cP _).mono ?_; rintro e w' ⟨rfl, rfl⟩)
    | (go_at_call 21; refine (cC _ ?_).mono ?_; exact ((hG.alloc _).alloc _); rintro e w2 ⟨rfl, n, rfl⟩)
    | (go_at_call 22; have tk1 := tok1; refine (cD _ ?_).mono ?_; (with_reducible repeat (first | exact hG | refine Glob.setCell ?_ (by first | (simp; done) | (simp; omega)) _ | refine Glob.drewN ?_ _ | refine Glob.alloc ?_ _)); rintro e w3 ⟨rfl, hb3⟩; obtain ⟨hc3, hf3⟩ := bcell hb3; have hz3 : w.heap.size + 1 < w3.heap.size := (by have h := hb3.size; simp at h; omega); have hz3b : w.heap.size < w3.heap.size := (by omega); clear tok1)
    | (go_at_call 22; refine (cF _ ?_).mono ?_; refine Glob.below ?_ hb3; (with_reducible repeat (first | exact hG | refine Glob.setCell ?_ (by first | (simp; done) | (simp; omega)) _ | refine Glob.drewN ?_ _ | refine Glob.alloc ?_ _)); rintro e w4 ⟨rfl, hb4⟩; obtain ⟨hc4, hf4⟩ := bcell hb4; have hz4 : w.heap.size + 1 < w4.heap.size := (by have h := hb4.size; omega); have hz4b : w.heap.size < w4.heap.size := (by omega)))
  have q0 : w4.cell? ⟨w.heap.size, 0, none⟩ = some (.bool false) := by rw [hc4 _ _ (by omega), hc3 _ _ (by first | (simp; done) | (simp; omega))]; go_simp
  have q1 : w4.cell? ⟨w.heap.size, 1, none⟩ = some (.string ⟨#[]⟩) := by rw [hc4 _ _ (by omega), hc3 _ _ (by first | (simp; done) | (simp; omega))]; go_simp
  have q2 : w4.cell? ⟨w.heap.size, 2, none⟩ = some (.string ⟨#[]⟩) := by rw [hc4 _ _ (by omega), hc3 _ _ (by first | (simp; done) | (simp; omega))]; go_simp
  have p0 : w4.cell? ⟨w.heap.size + 1, 0, none⟩ = some (.bool f) := by rw [hc4 _ _ (by omega), hc3 _ _ (by first | (simp; done) | (simp; omega))]; go_simp
  have p1 : w4.cell? ⟨w.heap.size + 1, 1, none⟩ = some (.string B1) := by rw [hc4 _ _ (by omega), hc3 _ _ (by first | (simp; done) | (simp; omega))]; go_simp
  have p2 : w4.cell? ⟨w.heap.size + 1, 2, none⟩ = some (.string B1) := by rw [hc4 _ _ (by omega), hc3 _ _ (by first | (simp; done) | (simp; omega))]; go_simp
  refine bodyPost_ret (v := .tuple #[.agg #[.bool f, .string B1, .string B1], .int .i64 0]) (by simp [results, Tryd.results8, go_sem, q0, q1, q2]) rfl ⟨rfl, ?_⟩
  (with_reducible repeat (first | exact Below.refl _ _ | refine Below.setCell ?_ (by first | (simp; done) | (simp; omega)) _ | refine Below.alloc ?_ (by first | (simp; done) | (simp; omega)) _ | refine below_drewN ?_ _ | refine Below.trans ?_ (hb4.mono (by omega)) | refine Below.trans ?_ (hb3.mono (by first | (simp; done) | (simp; omega)))))
end Go.Proofs.YtjmlppkleeegkaaDoor.Nm
