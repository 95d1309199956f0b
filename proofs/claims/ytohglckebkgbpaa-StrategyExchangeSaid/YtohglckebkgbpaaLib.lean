/-
  Small words that the walks of this seat share: how slices read, what a call that only makes memory leaves.
-/
import Derived.Test.YtohglckebkgbpaaRows
import Derived.WalkKit
import Derived.WalkLawsBesides
import Derived.WalkSpells
import Derived.BigQuiet
import Derived.Deep.QuietTactic
import Derived.Lib.Hide
import Derived.Laws.EntriesVeiled
import Derived.StillTailTactics
import Derived.Deep.RegionWith
import Derived.Deep.RegionHeld3
import Derived.Deep.LoopGhost
namespace Go.Proofs.Ytohglckebkgbpaa
open Go.RowKit

abbrev Mem := Addr → Option Value

/-- whatever m holds m' holds -/
def Sub (m m' : Mem) : Prop := ∀ a v, m a = some v → m' a = some v
theorem Sub.refl (m : Mem) : Sub m m := fun _ _ h => h
theorem Sub.trans {a b c : Mem} (h : Sub a b) (k : Sub b c) : Sub a c := fun x v e => k x v (h x v e)
theorem cell_lt {w : World} {a : Addr} {v : Value} (h : w.cell? a = some v) : a.block < w.heap.size := World.block_lt_of_cell? w a h
theorem bsub {w w' : World} (h : Below w.heap.size w w') : Sub w.cell? w'.cell? := fun a v e => by rw [h.cell (cell_lt e)]; exact e

theorem bstep {w W w1 : World} (h : Below w.heap.size w W) (k : Below W.heap.size W w1) : Below w.heap.size w w1 := h.trans (k.mono h.size)
theorem below_alloc (w : World) (o : Obj) : Below w.heap.size w (w.alloc o) := (Below.refl _ _).alloc (Nat.le_refl _) o
theorem below_drew (w : World) : Below w.heap.size w w.drew := (Below.refl _ _).drew
theorem bcell {W w1 : World} (hb : Below W.heap.size W w1) : ∀ b o, b < W.heap.size → w1.cell? ⟨b, o, none⟩ = W.cell? ⟨b, o, none⟩ := fun b o h => hb.cell (p := ⟨b, o, none⟩) h
theorem bfree {W w1 : World} (hb : Below W.heap.size W w1) : ∀ b o, b < W.heap.size → w1.frozen? ⟨b, o, none⟩ = W.frozen? ⟨b, o, none⟩ := fun b o h => hb.frozen (p := ⟨b, o, none⟩) h
theorem below_drewN (w : World) (n : Nat) : Below w.heap.size w (w.drewN n) := ⟨rfl, rfl, rfl, Nat.le_refl _, fun _ _ => rfl⟩
theorem heap_at (w : World) (o : Obj) (k : Nat) (h : k = w.heap.size) : (w.alloc o).heap[k]? = some o := by subst h; exact heap_alloc_new w o
theorem cell_new (w : World) (v : Value) (e : TypeId) : (w.alloc (.cells #[v] e)).cell? ⟨w.heap.size, 0, none⟩ = some v := by go_simp

/-- the call returns v; nothing that was there has turned -/
def Ret (w : World) (v : Value) (e : Ending) (w' : World) : Prop := e = .returned v ∧ Below w.heap.size w w'
/-- the call returns a value that reads so in the new memory -/
def RetR (w : World) (R : World → Value → Prop) (e : Ending) (w' : World) : Prop := ∃ v, e = .returned v ∧ R w' v ∧ Below w.heap.size w w'

/-- a slice value over elements of one cell: the cells hold what R says -/
def SlAt {α : Type} (R : Mem → Value → α → Prop) (m : Mem) (v : Value) (xs : List α) : Prop :=
  ∃ a cap, v = .slice a xs.length cap ∧ xs.length ≤ cap ∧ cap ≤ maxLen ∧
    ∀ j (h : j < xs.length), ∃ b off u, a = some ⟨b, off, none⟩ ∧ m ⟨b, off + j, none⟩ = some u ∧ R m u xs[j]

theorem SlAt.mono {α : Type} {R : Mem → Value → α → Prop} (hR : ∀ {m m' : Mem} {v x}, Sub m m' → R m v x → R m' v x) {m m' : Mem} {v : Value} {xs : List α} (hs : Sub m m') (h : SlAt R m v xs) : SlAt R m' v xs := by
  obtain ⟨a, cap, hv, h1, h2, h3⟩ := h
  exact ⟨a, cap, hv, h1, h2, fun j hj => let ⟨b, off, u, e1, e2, e3⟩ := h3 j hj; ⟨b, off, u, e1, hs _ _ e2, hR hs e3⟩⟩

def IntR (_ : Mem) (v : Value) (n : Int) : Prop := v = .int .i64 n
def BoolR (_ : Mem) (v : Value) (b : Bool) : Prop := v = .bool b
abbrev Ints : Mem → Value → List Int → Prop := SlAt IntR
abbrev Bools : Mem → Value → List Bool → Prop := SlAt BoolR
abbrev Rows2 : Mem → Value → List (List Int) → Prop := SlAt Ints
theorem Ints.mono {m m' : Mem} {v : Value} {xs : List Int} (hs : Sub m m') (h : Ints m v xs) : Ints m' v xs := SlAt.mono (fun _ h => h) hs h
theorem Bools.mono {m m' : Mem} {v : Value} {xs : List Bool} (hs : Sub m m') (h : Bools m v xs) : Bools m' v xs := SlAt.mono (fun _ h => h) hs h
theorem Rows2.mono {m m' : Mem} {v : Value} {xs : List (List Int)} (hs : Sub m m') (h : Rows2 m v xs) : Rows2 m' v xs := SlAt.mono (R := Ints) (fun {_ _ _ _} hs h => Ints.mono hs h) hs h

theorem SlAt.shape {α : Type} {R : Mem → Value → α → Prop} {m : Mem} {v : Value} {xs : List α} (h : SlAt R m v xs) : ∃ a cap, v = .slice a xs.length cap ∧ xs.length ≤ cap ∧ cap ≤ 9223372036854775807 := by
  obtain ⟨a, cap, hv, h1, h2, _⟩ := h
  exact ⟨a, cap, hv, h1, h2⟩
theorem SlAt.get {α : Type} {R : Mem → Value → α → Prop} {m : Mem} {a : Option Addr} {n cap : Nat} {xs : List α} (h : SlAt R m (.slice a n cap) xs) {j : Nat} (hj : j < xs.length) :
    ∃ b off u, a = some ⟨b, off, none⟩ ∧ m ⟨b, off + j, none⟩ = some u ∧ R m u xs[j] := by
  obtain ⟨a', cap', hv, _, _, h3⟩ := h
  cases hv
  exact h3 j hj
theorem Ints.get {m m' : Mem} {a : Option Addr} {n cap : Nat} {xs : List Int} (h : Ints m (.slice a n cap) xs) (hs : Sub m m') {j : Nat} (hj : j < xs.length) :
    ∃ b off, a = some ⟨b, off, none⟩ ∧ m' ⟨b, off + j, none⟩ = some (.int .i64 xs[j]) := by
  obtain ⟨b, off, u, e1, e2, e3⟩ := SlAt.get h hj
  cases e3
  exact ⟨b, off, e1, hs _ _ e2⟩
theorem Bools.get {m m' : Mem} {a : Option Addr} {n cap : Nat} {xs : List Bool} (h : Bools m (.slice a n cap) xs) (hs : Sub m m') {j : Nat} (hj : j < xs.length) :
    ∃ b off, a = some ⟨b, off, none⟩ ∧ m' ⟨b, off + j, none⟩ = some (.bool xs[j]) := by
  obtain ⟨b, off, u, e1, e2, e3⟩ := SlAt.get h hj
  cases e3
  exact ⟨b, off, e1, hs _ _ e2⟩
theorem Rows2.get {m m' : Mem} {a : Option Addr} {n cap : Nat} {xs : List (List Int)} (h : Rows2 m (.slice a n cap) xs) (hs : Sub m m') {j : Nat} (hj : j < xs.length) :
    ∃ b off a' cap', a = some ⟨b, off, none⟩ ∧ m' ⟨b, off + j, none⟩ = some (.slice a' xs[j].length cap') ∧ xs[j].length ≤ cap' ∧ cap' ≤ 9223372036854775807 ∧ Hid (Ints m' (.slice a' xs[j].length cap') xs[j]) := by
  obtain ⟨b, off, u, e1, e2, e3⟩ := SlAt.get h hj
  obtain ⟨a', cap', rfl, h1, h2⟩ := SlAt.shape e3
  exact ⟨b, off, a', cap', e1, hs _ _ e2, h1, h2, Ints.mono hs e3⟩

theorem Ints.one {m : Mem} {b off cap : Nat} {x : Int} (h : m ⟨b, off, none⟩ = some (.int .i64 x)) (hc : 1 ≤ cap) (hm : cap ≤ maxLen) : Ints m (.slice (some ⟨b, off, none⟩) 1 cap) [x] := by
  refine ⟨some ⟨b, off, none⟩, cap, rfl, by simpa using hc, hm, fun j hj => ⟨b, off, .int .i64 x, rfl, ?_, ?_⟩⟩
  · have : j = 0 := by simp at hj; omega
    subst this; exact h
  · have : j = 0 := by simp at hj; omega
    subst this; rfl

theorem ret_int {k : IntKind} {a b : Int} (h : a = b) : Ending.returned (.int k a) = .returned (.int k b) := by rw [h]
theorem ret_bool {a b : Bool} (h : a = b) : Ending.returned (.bool a) = .returned (.bool b) := by rw [h]

/-- function g has a body of its own: a call of it enters it -/
structure Enters (P : Program) (g : FuncId) : Prop where
  out : ∀ (args : Array Value) (w : World), (callFunc g args).run P w = .ok (.enter g args) w

/-- the worlds that w may have grown to, none of its blocks turned -/
def Bel (w : World) : Type := {u : World // Below w.heap.size w u}
instance (w : World) : Nonempty (Bel w) := ⟨⟨w, Below.refl _ _⟩⟩
/-- a region that draws its order, whose operations read and whose callees only make memory: one walk, in the order of the text -/
theorem wp_region_bel {P : Program} {id : Nat} {Q : Exit → Act → World → Prop} {a : Act} {w : World} {l : List Oper} (hm : P.follows .mixedOrders = true) (hB : Region.lexB .any l.toArray = true)
    (h : wpQuiet P l.toArray (fun w' => ∃ u : Bel w, w' = u.1) (fun a' => ∀ w', (∃ u : Bel w, w' = u.1) → Q .normal a' w') l a) : (Code.region id l.toArray true).wp P Q a w :=
  wp_region_quiet (C := fun w' => ∃ u : Bel w, w' = u.1) hm hB ⟨⟨w.drew, below_drew w⟩, rfl⟩ (by simpa using h)
theorem Calls.bel {P : Program} {f : FuncId} {args : Array Value} {w : World} {u : Bel w} {v : Value} (h : Calls P f args u.1 (Ret u.1 v)) : Calls P f args u.1 (fun e w'' => e = .returned v ∧ ∃ u' : Bel w, w'' = u'.1) :=
  h.mono fun _ w' ⟨he, hb⟩ => ⟨he, ⟨⟨w', bstep u.2 hb⟩, rfl⟩⟩
theorem bel_cell {w : World} (u : Bel w) : ∀ b o, b < w.heap.size → u.1.cell? ⟨b, o, none⟩ = w.cell? ⟨b, o, none⟩ := fun b o h => u.2.cell (p := ⟨b, o, none⟩) h
theorem bel_sub {w : World} (u : Bel w) : Sub w.cell? u.1.cell? := bsub u.2

/-- likewise, where the last operations come in one order and may do anything -/
theorem wp_region_tail {P : Program} {id : Nat} {Q : Exit → Act → World → Prop} {a : Act} {w : World} {l : List Oper} (n : Nat) (hm : P.follows .mixedOrders = true) (hB : Region.lexTailB .any l.toArray n = true)
    (h : wpStill P l.toArray w.drew (fun a' => wpList P l.toArray Q (l.drop n) a' w.drew) (l.take n) a) : (Code.region id l.toArray true).wp P Q a w := wp_region_still_tail n hm hB h
theorem Ints.cut {m : Mem} {a : Option Addr} {n cap k cap' : Nat} {xs : List Int} (h : Ints m (.slice a n cap) xs) (hk : k ≤ xs.length) (h1 : k ≤ cap') (h2 : cap' ≤ maxLen) : Ints m (.slice a k cap') (xs.take k) := by
  obtain ⟨a', cap2, hv, _, _, h3⟩ := h
  cases hv
  refine ⟨a, cap', by rw [List.length_take, Nat.min_eq_left hk], by rw [List.length_take]; omega, h2, fun j hj => ?_⟩
  have hj' : j < xs.length := by rw [List.length_take] at hj; omega
  obtain ⟨b, off, u, e1, e2, e3⟩ := h3 j hj'
  exact ⟨b, off, u, e1, e2, by rw [List.getElem_take]; exact e3⟩
theorem Ints.take {m : Mem} {a : Option Addr} {n cap k : Nat} {xs : List Int} (h : Ints m (.slice a n cap) xs) (hk : k ≤ xs.length) : Ints m (.slice a k cap) (xs.take k) := by
  obtain ⟨a', cap', hv, h1, h2, h3⟩ := h
  cases hv
  refine ⟨a, cap, by rw [List.length_take, Nat.min_eq_left hk], by rw [List.length_take]; omega, h2, fun j hj => ?_⟩
  have hj' : j < xs.length := by rw [List.length_take] at hj; omega
  obtain ⟨b, off, u, e1, e2, e3⟩ := h3 j hj'
  exact ⟨b, off, u, e1, e2, by rw [List.getElem_take]; exact e3⟩
/-- a slice from lo on, in the same memory -/
theorem Ints.drop {m : Mem} {b off n cap lo : Nat} {xs : List Int} (h : Ints m (.slice (some ⟨b, off, none⟩) n cap) xs) (hk : lo ≤ xs.length) : Ints m (.slice (some ⟨b, off + lo, none⟩) (n - lo) (cap - lo)) (xs.drop lo) := by
  obtain ⟨a', cap', hv, h1, h2, h3⟩ := h
  cases hv
  refine ⟨_, cap - lo, by rw [List.length_drop], by rw [List.length_drop]; omega, by omega, fun j hj => ?_⟩
  have hj' : lo + j < xs.length := by rw [List.length_drop] at hj; omega
  obtain ⟨b', off', u, e1, e2, e3⟩ := h3 (lo + j) hj'
  cases e1
  exact ⟨b, off + lo, u, rfl, by rw [Nat.add_assoc]; exact e2, by rw [List.getElem_drop]; exact e3⟩
/-- literals -/
theorem SlAt.lit1 {α : Type} {R : Mem → Value → α → Prop} {m : Mem} {b : Nat} {u0 : Value} {x0 : α} (h0 : m ⟨b, 0, none⟩ = some u0) (r0 : R m u0 x0) : SlAt R m (.slice (some ⟨b, 0, none⟩) 1 1) [x0] :=
  ⟨_, 1, rfl, by simp, by simp [maxLen], fun j hj => match j, hj with | 0, _ => ⟨b, 0, u0, rfl, h0, r0⟩ | j + 1, hj => absurd hj (by simp)⟩
theorem SlAt.lit2 {α : Type} {R : Mem → Value → α → Prop} {m : Mem} {b : Nat} {u0 u1 : Value} {x0 x1 : α} (h0 : m ⟨b, 0, none⟩ = some u0) (h1 : m ⟨b, 1, none⟩ = some u1) (r0 : R m u0 x0) (r1 : R m u1 x1) : SlAt R m (.slice (some ⟨b, 0, none⟩) 2 2) [x0, x1] :=
  ⟨_, 2, rfl, by simp, by simp [maxLen], fun j hj => match j, hj with | 0, _ => ⟨b, 0, u0, rfl, h0, r0⟩ | 1, _ => ⟨b, 0, u1, rfl, h1, r1⟩ | j + 2, hj => absurd hj (by simp)⟩
theorem SlAt.lit3 {α : Type} {R : Mem → Value → α → Prop} {m : Mem} {b : Nat} {u0 u1 u2 : Value} {x0 x1 x2 : α} (h0 : m ⟨b, 0, none⟩ = some u0) (h1 : m ⟨b, 1, none⟩ = some u1) (h2 : m ⟨b, 2, none⟩ = some u2) (r0 : R m u0 x0) (r1 : R m u1 x1) (r2 : R m u2 x2) : SlAt R m (.slice (some ⟨b, 0, none⟩) 3 3) [x0, x1, x2] :=
  ⟨_, 3, rfl, by simp, by simp [maxLen], fun j hj => match j, hj with | 0, _ => ⟨b, 0, u0, rfl, h0, r0⟩ | 1, _ => ⟨b, 0, u1, rfl, h1, r1⟩ | 2, _ => ⟨b, 0, u2, rfl, h2, r2⟩ | j + 3, hj => absurd hj (by simp)⟩
end Go.Proofs.Ytohglckebkgbpaa
