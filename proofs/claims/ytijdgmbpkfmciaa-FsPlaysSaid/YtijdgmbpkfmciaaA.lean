/- The file system: the abstract state, and what of the world stands for it. -/
import Derived.Test.YtijdgmbpkfmciaaProg
import Derived.WalkKit
import Derived.Maps.Own
import Derived.Maps.OwnOps
import Derived.Maps.OwnSet
import Derived.Maps.Views
import Derived.Maps.Ext
import Derived.Maps.AppendAt
import Derived.Lib.SmallJoins
import Derived.Lib.Hide
import Derived.StringKeys
namespace Go.Proofs.Ytijdgmbpkfmciaa.Fs
open Go.RowKit Go.Maps Go.ChangeMaps Go.WideMaps

abbrev Dm := DataW Unit

/-- How a pointer to a file reads: 0 for nil, its block's number and one. -/
def ptrR : Value → Option (Dm × List MemPlace)
  | .pointer none => some (.lit (.int .i64 0), [])
  | .pointer (some ⟨b, 0, none⟩) => some (.lit (.int .i64 (b + 1)), [])
  | _ => none
def ptrV : Nat → Value
  | 0 => .pointer none
  | f + 1 => .pointer (some ⟨f, 0, none⟩)
theorem ptrR_V (k : Nat) : ptrR (ptrV k) = some (.lit (.int .i64 k), []) := by
  cases k <;> rfl
theorem ptrR_inv {v : Value} {z : Dm × List MemPlace} (h : ptrR v = some z) : ∃ k : Nat, v = ptrV k ∧ z.1 = .lit (.int .i64 k) := by
  unfold ptrR at h
  split at h
  · cases h; exact ⟨0, rfl, rfl⟩
  · rename_i b; cases h; exact ⟨b + 1, rfl, rfl⟩
  · cases h

def kl (s : ByteArray) : Lit := .string s.data.toList
theorem law : Keyed Try.prog 9 := string_keyed Try.underlying9
theorem hkey {s : ByteArray} (h : s.size ≤ maxLen) : keyOf Try.prog 9 (.string s) = some (kl s) := keyOf_string_mk Try.underlying9 h
theorem zeroE (w : World) : (zeroValue 63).run Try.prog w = .ok (.pointer none) w := by kernel_rfl
theorem kl_isKey (s : ByteArray) : WideAt.IsKeyLit (kl s) := by first | exact ⟨_, rfl⟩ | exact Or.inr ⟨_, rfl⟩ | (unfold WideAt.IsKeyLit kl; simp)

/-- What stands under a name: 0: nothing; else the file's block and one. -/
def look (D : Dm) (s : ByteArray) : Nat := match D.atKey (kl s) (.lit (.int .i64 0)) with | .lit (.int _ k) => k.toNat | _ => 0

theorem look_run {w : World} {b n : Nat} {D : Dm} (h : w.ownsMap Try.prog 9 ptrR b n D) {s : ByteArray} (hs : s.size ≤ maxLen) :
    (Instr.lookup 58 (.map (some b)) (.string s) false).run Try.prog w = .ok (ptrV (look D s)) w ∧ D.atKey (kl s) (.lit (.int .i64 0)) = .lit (.int .i64 (look D s)) := by
  obtain ⟨v, ps, hrun, hv⟩ := h.lookup law Try.underlying58 (zeroE w) (zd := .lit (.int .i64 0)) (zp := []) rfl (hkey hs)
  obtain ⟨k, rfl, hk⟩ := ptrR_inv hv
  have e : look D s = k := by
    unfold look
    rw [show D.atKey (kl s) (.lit (.int .i64 0)) = .lit (.int .i64 k) from hk]
    simp
  rw [e]
  exact ⟨hrun, hk⟩

inductive Chg where
  | create (s : ByteArray) (f : Nat)
  | rename (a b : ByteArray)
  | remove (a : ByteArray)

def chgV : Chg → Value
  | .create s f => .iface 68 (.agg #[.string s, .pointer (some ⟨f, 0, none⟩)])
  | .rename a b => .iface 80 (.agg #[.string a, .string b])
  | .remove a => .iface 82 (.agg #[.string a])
def app (D : Dm) : Chg → Dm
  | .create s f => D.put (kl s) (.lit (.int .i64 (f + 1 : Nat)))
  | .rename a b => (D.put (kl b) (.lit (.int .i64 (look D a)))).del (kl a)
  | .remove a => D.del (kl a)

structure St where
  quota : Int
  names : Dm
  lasting : Dm
  changes : List Chg
  files : Nat → List UInt8 × Nat
  fuse : Int
  dead : Bool

/-- Where it lies: the struct's block, both maps', the changes' value, the files' blocks, each file's bytes' value. -/
structure Gh where
  p : Nat
  m : Nat
  l : Nat
  cv : Value
  ids : List Nat
  bv : Nat → Value

def blkOf (v : Value) : List Nat := v.ownBlock.toList
def head (g : Gh) : List Nat := g.p :: g.m :: g.l :: blkOf g.cv
def fps (g : Gh) : List Nat := g.ids ++ g.ids.flatMap fun f => blkOf (g.bv f)
def foot (g : Gh) : List Nat := head g ++ fps g
theorem mem_foot {g : Gh} {b : Nat} : b ∈ foot g ↔ b = g.p ∨ b = g.m ∨ b = g.l ∨ b ∈ blkOf g.cv ∨ b ∈ g.ids ∨ ∃ f ∈ g.ids, b ∈ blkOf (g.bv f) := by
  simp [foot, head, fps]

/-- A slice value that owns just these cells. -/
def Row (w : World) (e : TypeId) (v : Value) (xs : List Value) : Prop :=
  (v = .slice none 0 0 ∧ xs = []) ∨
  ∃ b cap cur, v = .slice (some ⟨b, 0, none⟩) xs.length cap ∧ w.heap[b]? = some (.cells cur e (0, 0)) ∧ xs.length ≤ cap ∧ cap ≤ maxLen ∧ cap ≤ cur.size ∧ (cap = cur.size ∨ cap = xs.length) ∧ cur.toList.take xs.length = xs
def byteV (b : UInt8) : Value := .int .u8 b.toNat

structure Rep (w : World) (g : Gh) (s : St) : Prop where
  cells : w.heap[g.p]? = some (.cells #[.int .i64 s.quota, .map (some g.m), .map (some g.l), g.cv, .int .i64 s.fuse, .bool s.dead] 61 (0, 0))
  nm : w.ownsMap Try.prog 9 ptrR g.m (Maps.size s.names) s.names
  ls : w.ownsMap Try.prog 9 ptrR g.l (Maps.size s.lasting) s.lasting
  ch : w.ownsRow 0 73 1 g.cv s.changes.length (s.changes.map chgV)
  fl : ∀ f ∈ g.ids, w.heap[f]? = some (.cells #[g.bv f, .int .i64 ((s.files f).2 : Nat)] 66 (0, 0)) ∧ Row w 5 (g.bv f) ((s.files f).1.map byteV)
  apart : (foot g).Nodup
  lt : ∀ b ∈ foot g, b < w.heap.size

/-- Nothing but these blocks has turned; there may be new ones. -/
structure Turn (w w' : World) (F : List Nat) : Prop where
  os : w'.os = w.os
  tape : w'.tape = w.tape
  output : w'.output = w.output
  size : w.heap.size ≤ w'.heap.size
  block : ∀ k, k < w.heap.size → k ∉ F → w'.heap[k]? = w.heap[k]?

theorem Turn.refl (w : World) (F : List Nat) : Turn w w F := ⟨rfl, rfl, rfl, Nat.le_refl _, fun _ _ _ => rfl⟩
theorem Turn.trans {w w' w'' : World} {F F' : List Nat} (h : Turn w w' F) (h' : Turn w' w'' F') (hs : ∀ b ∈ F', b ∈ F ∨ w.heap.size ≤ b) : Turn w w'' F :=
  ⟨h'.os.trans h.os, h'.tape.trans h.tape, h'.output.trans h.output, Nat.le_trans h.size h'.size, fun k hk hF => by
    rw [h'.block k (Nat.lt_of_lt_of_le hk h.size) (fun hm => (hs k hm).elim hF (by omega)), h.block k hk hF]⟩
theorem Turn.mono {w w' : World} {F F' : List Nat} (h : Turn w w' F) (hs : ∀ b ∈ F, b ∈ F' ∨ w.heap.size ≤ b) : Turn w w' F' :=
  ⟨h.os, h.tape, h.output, h.size, fun k hk hF => h.block k hk fun hm => (hs k hm).elim hF (by omega)⟩
theorem Turn.below {w w' : World} {F : List Nat} (h : Turn w w' F) {B : Nat} (hB : B ≤ w.heap.size) (hF : ∀ b ∈ F, B ≤ b) : Below B w w' :=
  ⟨h.os, h.tape, h.output, h.size, fun k hk => h.block k (by omega) fun hm => by have := hF k hm; omega⟩
theorem Turn.of_below {w w' : World} (h : Below w.heap.size w w') (F : List Nat) : Turn w w' F := ⟨h.os, h.tape, h.output, h.size, fun k hk _ => h.block k hk⟩
theorem Turn.of_grown {w w' : World} {r : Option Nat} (h : w.grownBy w' r) : Turn w w' r.toList :=
  ⟨h.os, h.tape, h.output, h.size, fun k hk hF => h.block k hk (by intro e; apply hF; rw [← e]; simp)⟩
theorem Turn.alloc (w : World) (o : Obj) (F : List Nat) : Turn w (w.alloc o) F := Turn.of_below ((Below.refl _ _).alloc (Nat.le_refl _) o) F

theorem Row.frame {w w' : World} {e : TypeId} {v : Value} {xs : List Value} (h : Row w e v xs) (hb : ∀ b ∈ blkOf v, w'.heap[b]? = w.heap[b]?) : Row w' e v xs := by
  rcases h with h | ⟨b, cap, cur, rfl, h1, h2⟩
  · exact .inl h
  · exact .inr ⟨b, cap, cur, rfl, (hb b (by simp [blkOf, Value.ownBlock])).trans h1, h2⟩
theorem ownsRow_frame {w w' : World} {e : TypeId} {v : Value} {n : Nat} {xs : List Value} (h : w.ownsRow 0 e 1 v n xs) (hb : ∀ b ∈ blkOf v, w'.heap[b]? = w.heap[b]?) : w'.ownsRow 0 e 1 v n xs := by
  obtain ⟨h0, h⟩ := h
  refine ⟨h0, ?_⟩
  rcases h with h | ⟨b, cap, cur, rfl, h1, h2, h3⟩
  · exact .inl h
  · exact .inr ⟨b, cap, cur, rfl, h1, (hb b (by simp [blkOf, Value.ownBlock])).trans h2, h3⟩
theorem owns_frame {w w' : World} {b n : Nat} {D : Dm} (h : w.ownsMap Try.prog 9 ptrR b n D) (hb : w'.heap[b]? = w.heap[b]?) : w'.ownsMap Try.prog 9 ptrR b n D := by
  obtain ⟨es, c, h1, h2⟩ := h
  exact ⟨es, c, hb.trans h1, h2⟩
theorem owns_tight {w : World} {b n : Nat} {D : Dm} (h : w.ownsMap Try.prog 9 ptrR b n D) : w.ownsMap Try.prog 9 ptrR b (Maps.size D) D := by
  obtain ⟨es, c, h1, h2, _, h4⟩ := h
  refine ⟨es, c, h1, h2, ?_, h4⟩
  rw [h4, Maps.size_eq, length_sorted]
  simp

theorem Rep.frame {w w' : World} {g : Gh} {s : St} (h : Rep w g s) (hb : ∀ b ∈ foot g, w'.heap[b]? = w.heap[b]?) (hz : w.heap.size ≤ w'.heap.size) : Rep w' g s where
  cells := (hb g.p (mem_foot.2 (.inl rfl))).trans h.cells
  nm := owns_frame h.nm (hb g.m (mem_foot.2 (.inr (.inl rfl))))
  ls := owns_frame h.ls (hb g.l (mem_foot.2 (.inr (.inr (.inl rfl)))))
  ch := ownsRow_frame h.ch fun b hm => hb b (mem_foot.2 (.inr (.inr (.inr (.inl hm)))))
  fl := fun f hf => ⟨(hb f (mem_foot.2 (.inr (.inr (.inr (.inr (.inl hf))))))).trans (h.fl f hf).1,
    (h.fl f hf).2.frame fun b hm => hb b (mem_foot.2 (.inr (.inr (.inr (.inr (.inr ⟨f, hf, hm⟩))))))⟩
  apart := h.apart
  lt := fun b hm => Nat.lt_of_lt_of_le (h.lt b hm) hz
theorem Rep.turn {w w' : World} {g : Gh} {s : St} {F : List Nat} (h : Rep w g s) (ht : Turn w w' F) (hF : ∀ b ∈ F, b ∉ foot g ∨ w.heap.size ≤ b) : Rep w' g s :=
  h.frame (fun b hm => ht.block b (h.lt b hm) fun hf => (hF b hf).elim (fun hn => hn hm) (by have := h.lt b hm; omega)) ht.size
/-- The head's blocks have turned; the files stand. -/
theorem Rep.newhead {w w' : World} {g g' : Gh} {s s' : St} {F : List Nat} (h : Rep w g s) (ht : Turn w w' F) (hF : ∀ b ∈ F, b ∈ head g ∨ w.heap.size ≤ b)
    (hids : g'.ids = g.ids) (hbv : g'.bv = g.bv) (hfi : s'.files = s.files)
    (hcells : w'.heap[g'.p]? = some (.cells #[.int .i64 s'.quota, .map (some g'.m), .map (some g'.l), g'.cv, .int .i64 s'.fuse, .bool s'.dead] 61 (0, 0)))
    (hnm : w'.ownsMap Try.prog 9 ptrR g'.m (Maps.size s'.names) s'.names) (hls : w'.ownsMap Try.prog 9 ptrR g'.l (Maps.size s'.lasting) s'.lasting)
    (hch : w'.ownsRow 0 73 1 g'.cv s'.changes.length (s'.changes.map chgV)) (hnd : (head g').Nodup) (hsub : ∀ b ∈ head g', b ∈ head g ∨ w.heap.size ≤ b) (hlt : ∀ b ∈ head g', b < w'.heap.size) :
    Rep w' g' s' ∧ ∀ b ∈ foot g', b ∈ foot g ∨ w.heap.size ≤ b := by
  have hap := h.apart
  unfold foot at hap
  rw [List.nodup_append] at hap
  obtain ⟨_, hfp, hdis⟩ := hap
  have hfps : fps g' = fps g := by unfold fps; rw [hids, hbv]
  have hlf : ∀ b ∈ fps g, b < w.heap.size := fun b hb => h.lt b (by unfold foot; exact List.mem_append.2 (.inr hb))
  have hkeep : ∀ b ∈ fps g, w'.heap[b]? = w.heap[b]? := fun b hb => ht.block b (hlf b hb) fun hm => (hF b hm).elim (fun hh => hdis b hh b hb rfl) (by have := hlf b hb; omega)
  refine ⟨⟨hcells, hnm, hls, hch, ?_, ?_, ?_⟩, ?_⟩
  · intro f hf
    rw [hids] at hf
    rw [hbv, hfi]
    exact ⟨(hkeep f (by unfold fps; simp [hf])).trans (h.fl f hf).1, (h.fl f hf).2.frame fun b hm => hkeep b (by unfold fps; simp only [List.mem_append, List.mem_flatMap]; exact .inr ⟨f, hf, hm⟩)⟩
  · unfold foot
    rw [List.nodup_append, hfps]
    refine ⟨hnd, hfp, fun a ha b hb e => ?_⟩
    subst e
    rcases hsub a ha with h1 | h1
    · exact hdis a h1 a hb rfl
    · have := hlf a hb; omega
  · intro b hb
    unfold foot at hb
    rw [hfps] at hb
    rcases List.mem_append.1 hb with h1 | h1
    · exact hlt b h1
    · exact Nat.lt_of_lt_of_le (hlf b h1) ht.size
  · intro b hb
    unfold foot at hb ⊢
    rw [hfps] at hb
    rcases List.mem_append.1 hb with h1 | h1
    · exact (hsub b h1).imp (fun x => List.mem_append.2 (.inl x)) id
    · exact .inl (List.mem_append.2 (.inr h1))
end Go.Proofs.Ytijdgmbpkfmciaa.Fs
