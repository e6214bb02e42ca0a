/- Walks: what a refspec maps (name.Map). -/
import Derived.Test.YtjmlppkleeegkaaDoorJ
set_option linter.unusedVariables false
namespace Go.Proofs.YtjmlppkleeegkaaDoor.Nm
open Go.RowKit Go.Lib
open Go (below_drewN)

/-- Map's answer as a value. -/
def mapV : Option (List UInt8) → Value
  | none => .tuple #[.string ⟨#[]⟩, .bool false]
  | some x => .tuple #[.string (S x), .bool true]
def ValidAt (x : ByteArray) (V : Bool) : Prop := ∀ w, Glob w → Calls Tryd.prog 11 #[.string x] w fun e w' => e = .returned (.bool V) ∧ Below w.heap.size w w'

set_option maxHeartbeats 4000000 in
set_option maxRecDepth 1000000 in
theorem map_m1 (f : Bool) (src dst s A B M1 M2 T : ByteArray) (w : World) (hG : Glob w)
    (cC : ∀ w, Glob w → Calls Tryd.prog 21 #[.string src, .string ⟨#[42]⟩] w fun e w' => e = .returned (.tuple #[.string A, .string B, .bool false]) ∧ ∃ n, w' = w.drewN n) (hne : (s.toList == src.toList) = false) :
    Calls Tryd.prog 10 #[.agg #[.bool f, .string src, .string dst], .string s] w fun e w' => e = .returned (.tuple #[.string ⟨#[]⟩, .bool false]) ∧ Below w.heap.size w w' := by
  have hGs := hG.size
  go_enter Tryd.func10, Tryd.ntmps10
  go_wp2_with (first
    | (go_at_call 21; refine (cC _ ?_).mono ?_; (with_reducible repeat (first | exact hG | refine Glob.setCell ?_ (by first | (simp; done) | (simp; omega)) _ | refine Glob.drewN ?_ _ | refine Glob.alloc ?_ _ | refine Glob.below ?_ hb3)); rintro e w2 ⟨rfl, n, rfl⟩))
  go_ret2
  exact ⟨rfl, by (with_reducible repeat (first | exact Below.refl _ _ | refine Below.alloc ?_ (by first | (simp; done) | (simp; omega)) _ | refine below_drewN ?_ _))⟩

set_option maxHeartbeats 4000000 in
set_option maxRecDepth 1000000 in
theorem map_m2 (f : Bool) (src dst s A B M1 M2 T : ByteArray) (w : World) (hG : Glob w)
    (cC : ∀ w, Glob w → Calls Tryd.prog 21 #[.string src, .string ⟨#[42]⟩] w fun e w' => e = .returned (.tuple #[.string A, .string B, .bool false]) ∧ ∃ n, w' = w.drewN n) (cV : ValidAt dst false) (hne : (s.toList == src.toList) = true) :
    Calls Tryd.prog 10 #[.agg #[.bool f, .string src, .string dst], .string s] w fun e w' => e = .returned (.tuple #[.string ⟨#[]⟩, .bool false]) ∧ Below w.heap.size w w' := by
  have hGs := hG.size
  go_enter Tryd.func10, Tryd.ntmps10
  go_wp2_with (first
    | (go_at_call 21; refine (cC _ ?_).mono ?_; (with_reducible repeat (first | exact hG | refine Glob.setCell ?_ (by first | (simp; done) | (simp; omega)) _ | refine Glob.drewN ?_ _ | refine Glob.alloc ?_ _ | refine Glob.below ?_ hb3)); rintro e w2 ⟨rfl, n, rfl⟩)
    | (go_at_call 11; refine (cV _ ?_).mono ?_; (with_reducible repeat (first | exact hG | refine Glob.setCell ?_ (by first | (simp; done) | (simp; omega)) _ | refine Glob.drewN ?_ _ | refine Glob.alloc ?_ _ | refine Glob.below ?_ hb3)); rintro e w4 ⟨rfl, hb4⟩; obtain ⟨hc4, hf4⟩ := bcell hb4))
  go_ret2
  exact ⟨rfl, by (with_reducible repeat (first | exact Below.refl _ _ | refine Below.alloc ?_ (by first | (simp; done) | (simp; omega)) _ | refine below_drewN ?_ _ | refine Below.trans ?_ (hb4.mono (by first | omega | (simp; done) | (simp; omega)))))⟩

set_option maxHeartbeats 4000000 in
set_option maxRecDepth 1000000 in
theorem map_m3 (f : Bool) (src dst s A B M1 M2 T : ByteArray) (w : World) (hG : Glob w)
    (cC : ∀ w, Glob w → Calls Tryd.prog 21 #[.string src, .string ⟨#[42]⟩] w fun e w' => e = .returned (.tuple #[.string A, .string B, .bool false]) ∧ ∃ n, w' = w.drewN n) (cV : ValidAt dst true) (hne : (s.toList == src.toList) = true) :
    Calls Tryd.prog 10 #[.agg #[.bool f, .string src, .string dst], .string s] w fun e w' => e = .returned (.tuple #[.string dst, .bool true]) ∧ Below w.heap.size w w' := by
  have hGs := hG.size
  go_enter Tryd.func10, Tryd.ntmps10
  go_wp2_with (first
    | (go_at_call 21; refine (cC _ ?_).mono ?_; (with_reducible repeat (first | exact hG | refine Glob.setCell ?_ (by first | (simp; done) | (simp; omega)) _ | refine Glob.drewN ?_ _ | refine Glob.alloc ?_ _ | refine Glob.below ?_ hb3)); rintro e w2 ⟨rfl, n, rfl⟩)
    | (go_at_call 11; refine (cV _ ?_).mono ?_; (with_reducible repeat (first | exact hG | refine Glob.setCell ?_ (by first | (simp; done) | (simp; omega)) _ | refine Glob.drewN ?_ _ | refine Glob.alloc ?_ _ | refine Glob.below ?_ hb3)); rintro e w4 ⟨rfl, hb4⟩; obtain ⟨hc4, hf4⟩ := bcell hb4))
  go_ret2
  exact ⟨rfl, by (with_reducible repeat (first | exact Below.refl _ _ | refine Below.alloc ?_ (by first | (simp; done) | (simp; omega)) _ | refine below_drewN ?_ _ | refine Below.trans ?_ (hb4.mono (by first | omega | (simp; done) | (simp; omega)))))⟩

set_option maxHeartbeats 4000000 in
set_option maxRecDepth 1000000 in
theorem map_m4 (f : Bool) (src dst s A B M1 M2 T : ByteArray) (w : World) (hG : Glob w)
    (cC : ∀ w, Glob w → Calls Tryd.prog 21 #[.string src, .string ⟨#[42]⟩] w fun e w' => e = .returned (.tuple #[.string A, .string B, .bool true]) ∧ ∃ n, w' = w.drewN n) (cP : ∀ w, Calls Tryd.prog 20 #[.string s, .string A] w fun e w' => e = .returned (.tuple #[.string M1, .bool false]) ∧ w' = w) :
    Calls Tryd.prog 10 #[.agg #[.bool f, .string src, .string dst], .string s] w fun e w' => e = .returned (.tuple #[.string ⟨#[]⟩, .bool false]) ∧ Below w.heap.size w w' := by
  have hGs := hG.size
  go_enter Tryd.func10, Tryd.ntmps10
  go_wp2_with (first
    | (go_at_call 21; refine (cC _ ?_).mono ?_; (with_reducible repeat (first | exact hG | refine Glob.setCell ?_ (by first | (simp; done) | (simp; omega)) _ | refine Glob.drewN ?_ _ | refine Glob.alloc ?_ _ | refine Glob.below ?_ hb3)); rintro e w2 ⟨rfl, n, rfl⟩)
    | (go_at_call 20; refine (cP _).mono ?_; rintro e w' ⟨rfl, rfl⟩))
  go_ret2
  exact ⟨rfl, by (with_reducible repeat (first | exact Below.refl _ _ | refine Below.alloc ?_ (by first | (simp; done) | (simp; omega)) _ | refine below_drewN ?_ _))⟩

set_option maxHeartbeats 4000000 in
set_option maxRecDepth 1000000 in
theorem map_m5 (f : Bool) (src dst s A B M1 M2 T : ByteArray) (w : World) (hG : Glob w)
    (cC : ∀ w, Glob w → Calls Tryd.prog 21 #[.string src, .string ⟨#[42]⟩] w fun e w' => e = .returned (.tuple #[.string A, .string B, .bool true]) ∧ ∃ n, w' = w.drewN n) (cP : ∀ w, Calls Tryd.prog 20 #[.string s, .string A] w fun e w' => e = .returned (.tuple #[.string M1, .bool true]) ∧ w' = w) (cS : ∀ w, Calls Tryd.prog 23 #[.string M1, .string B] w fun e w' => e = .returned (.tuple #[.string M2, .bool false]) ∧ w' = w) :
    Calls Tryd.prog 10 #[.agg #[.bool f, .string src, .string dst], .string s] w fun e w' => e = .returned (.tuple #[.string ⟨#[]⟩, .bool false]) ∧ Below w.heap.size w w' := by
  have hGs := hG.size
  go_enter Tryd.func10, Tryd.ntmps10
  go_wp2_with (first
    | (go_at_call 21; refine (cC _ ?_).mono ?_; (with_reducible repeat (first | exact hG | refine Glob.setCell ?_ (by first | (simp; done) | (simp; omega)) _ | refine Glob.drewN ?_ _ | refine Glob.alloc ?_ _ | refine Glob.below ?_ hb3)); rintro e w2 ⟨rfl, n, rfl⟩)
    | (go_at_call 20; refine (cP _).mono ?_; rintro e w' ⟨rfl, rfl⟩)
    | (go_at_call 23; refine (cS _).mono ?_; rintro e w' ⟨rfl, rfl⟩))
  go_ret2
  exact ⟨rfl, by (with_reducible repeat (first | exact Below.refl _ _ | refine Below.alloc ?_ (by first | (simp; done) | (simp; omega)) _ | refine below_drewN ?_ _))⟩

set_option maxHeartbeats 4000000 in
set_option maxRecDepth 1000000 in
theorem map_m6 (f : Bool) (src dst s A B M1 M2 T : ByteArray) (w : World) (hG : Glob w)
    (cC : ∀ w, Glob w → Calls Tryd.prog 21 #[.string src, .string ⟨#[42]⟩] w fun e w' => e = .returned (.tuple #[.string A, .string B, .bool true]) ∧ ∃ n, w' = w.drewN n) (cP : ∀ w, Calls Tryd.prog 20 #[.string s, .string A] w fun e w' => e = .returned (.tuple #[.string M1, .bool true]) ∧ w' = w) (cS : ∀ w, Calls Tryd.prog 23 #[.string M1, .string B] w fun e w' => e = .returned (.tuple #[.string M2, .bool true]) ∧ w' = w) (cR : ∀ w, Glob w → Calls Tryd.prog 24 #[.string dst, .string ⟨#[42]⟩, .string M2, .int .i64 1] w fun e w' => e = .returned (.string T) ∧ Below w.heap.size w w') (cV : ValidAt T false) :
    Calls Tryd.prog 10 #[.agg #[.bool f, .string src, .string dst], .string s] w fun e w' => e = .returned (.tuple #[.string ⟨#[]⟩, .bool false]) ∧ Below w.heap.size w w' := by
  have hGs := hG.size
  go_enter Tryd.func10, Tryd.ntmps10
  go_wp2_with (first
    | (go_at_call 21; refine (cC _ ?_).mono ?_; (with_reducible repeat (first | exact hG | refine Glob.setCell ?_ (by first | (simp; done) | (simp; omega)) _ | refine Glob.drewN ?_ _ | refine Glob.alloc ?_ _ | refine Glob.below ?_ hb3)); rintro e w2 ⟨rfl, n, rfl⟩)
    | (go_at_call 20; refine (cP _).mono ?_; rintro e w' ⟨rfl, rfl⟩)
    | (go_at_call 23; refine (cS _).mono ?_; rintro e w' ⟨rfl, rfl⟩)
    | (go_at_call 24; refine (cR _ ?_).mono ?_; (with_reducible repeat (first | exact hG | refine Glob.setCell ?_ (by first | (simp; done) | (simp; omega)) _ | refine Glob.drewN ?_ _ | refine Glob.alloc ?_ _ | refine Glob.below ?_ hb3)); rintro e w3 ⟨rfl, hb3⟩; obtain ⟨hc3, hf3⟩ := bcell hb3; have hz3 : w.heap.size < w3.heap.size := (by have h := hb3.size; simp at h; omega))
    | (go_at_call 11; refine (cV _ ?_).mono ?_; (with_reducible repeat (first | exact hG | refine Glob.setCell ?_ (by first | (simp; done) | (simp; omega)) _ | refine Glob.drewN ?_ _ | refine Glob.alloc ?_ _ | refine Glob.below ?_ hb3)); rintro e w4 ⟨rfl, hb4⟩; obtain ⟨hc4, hf4⟩ := bcell hb4))
  go_ret2
  exact ⟨rfl, by (with_reducible repeat (first | exact Below.refl _ _ | refine Below.alloc ?_ (by first | (simp; done) | (simp; omega)) _ | refine below_drewN ?_ _ | refine Below.trans ?_ (hb4.mono (by first | omega | (simp; done) | (simp; omega))) | refine Below.trans ?_ (hb3.mono (by first | (simp; done) | (simp; omega)))))⟩

set_option maxHeartbeats 4000000 in
set_option maxRecDepth 1000000 in
theorem map_m7 (f : Bool) (src dst s A B M1 M2 T : ByteArray) (w : World) (hG : Glob w)
    (cC : ∀ w, Glob w → Calls Tryd.prog 21 #[.string src, .string ⟨#[42]⟩] w fun e w' => e = .returned (.tuple #[.string A, .string B, .bool true]) ∧ ∃ n, w' = w.drewN n) (cP : ∀ w, Calls Tryd.prog 20 #[.string s, .string A] w fun e w' => e = .returned (.tuple #[.string M1, .bool true]) ∧ w' = w) (cS : ∀ w, Calls Tryd.prog 23 #[.string M1, .string B] w fun e w' => e = .returned (.tuple #[.string M2, .bool true]) ∧ w' = w) (cR : ∀ w, Glob w → Calls Tryd.prog 24 #[.string dst, .string ⟨#[42]⟩, .string M2, .int .i64 1] w fun e w' => e = .returned (.string T) ∧ Below w.heap.size w w') (cV : ValidAt T true) :
    Calls Tryd.prog 10 #[.agg #[.bool f, .string src, .string dst], .string s] w fun e w' => e = .returned (.tuple #[.string T, .bool true]) ∧ Below w.heap.size w w' := by
  have hGs := hG.size
  go_enter Tryd.func10, Tryd.ntmps10
  go_wp2_with (first
    | (go_at_call 21; refine (cC _ ?_).mono ?_; (with_reducible repeat (first | exact hG | refine Glob.setCell ?_ (by first | (simp; done) | (simp; omega)) _ | refine Glob.drewN ?_ _ | refine Glob.alloc ?_ _ | refine Glob.below ?_ hb3)); rintro e w2 ⟨rfl, n, rfl⟩)
    | (go_at_call 20; refine (cP _).mono ?_; rintro e w' ⟨rfl, rfl⟩)
    | (go_at_call 23; refine (cS _).mono ?_; rintro e w' ⟨rfl, rfl⟩)
    | (go_at_call 24; refine (cR _ ?_).mono ?_; (with_reducible repeat (first | exact hG | refine Glob.setCell ?_ (by first | (simp; done) | (simp; omega)) _ | refine Glob.drewN ?_ _ | refine Glob.alloc ?_ _ | refine Glob.below ?_ hb3)); rintro e w3 ⟨rfl, hb3⟩; obtain ⟨hc3, hf3⟩ := bcell hb3; have hz3 : w.heap.size < w3.heap.size := (by have h := hb3.size; simp at h; omega))
    | (go_at_call 11; refine (cV _ ?_).mono ?_; (with_reducible repeat (first | exact hG | refine Glob.setCell ?_ (by first | (simp; done) | (simp; omega)) _ | refine Glob.drewN ?_ _ | refine Glob.alloc ?_ _ | refine Glob.below ?_ hb3)); rintro e w4 ⟨rfl, hb4⟩; obtain ⟨hc4, hf4⟩ := bcell hb4))
  go_ret2
  exact ⟨rfl, by (with_reducible repeat (first | exact Below.refl _ _ | refine Below.alloc ?_ (by first | (simp; done) | (simp; omega)) _ | refine below_drewN ?_ _ | refine Below.trans ?_ (hb4.mono (by first | omega | (simp; done) | (simp; omega))) | refine Below.trans ?_ (hb3.mono (by first | (simp; done) | (simp; omega)))))⟩
end Go.Proofs.YtjmlppkleeegkaaDoor.Nm
