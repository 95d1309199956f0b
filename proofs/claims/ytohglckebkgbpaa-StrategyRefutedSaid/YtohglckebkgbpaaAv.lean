/-
  Data by type, abstract values, and how memory reads as them: the state of an evaluator that works on plain data.
-/
import Derived.Test.YtohglckebkgbpaaLib
import Derived.Laws.AppendOwn
import Derived.Laws.OwnMore
namespace Go.Proofs.Ytohglckebkgbpaa
open Go.RowKit

/-- the types of plain data -/
inductive Ty where
  | int (k : IntKind) | bool | str | sl (e : Ty) | unit | pair (a b : Ty) | st (b : Ty) | tup (b : Ty)
  deriving DecidableEq
abbrev Ty.T : Ty → Type
  | .int _ => Int
  | .bool => Bool
  | .str => List UInt8
  | .sl e => List e.T
  | .unit => Unit
  | .pair a b => a.T × b.T
  | .st b => b.T
  | .tup b => b.T
/-- cells of a value in memory -/
def Ty.sz : Ty → Nat
  | .unit => 0
  | .pair a b => a.sz + b.sz
  | .st b => b.sz
  | .tup _ => 0
  | _ => 1
/-- the zero value -/
def Ty.d : (t : Ty) → t.T
  | .int _ => (0 : Int)
  | .bool => false
  | .str => []
  | .sl _ => []
  | .unit => ()
  | .pair a b => (a.d, b.d)
  | .st b => b.d
  | .tup b => b.d
def Ty.agg : Ty → Bool
  | .st _ => true
  | _ => false
def Ty.isT : Ty → Bool
  | .tup _ => true
  | _ => false
/-- types whose values hold no address -/
def Ty.plain : Ty → Bool
  | .int _ => true
  | .bool => true
  | .str => true
  | .sl _ => false
  | .unit => true
  | .pair a b => a.plain && b.plain
  | .st b => b.plain
  | .tup b => b.plain

def lo : IntKind → Int
  | .i8 => -128 | .i16 => -32768 | .i32 => -2147483648 | .i64 => -9223372036854775808
  | .u8 => 0 | .u16 => 0 | .u32 => 0 | .u64 => 0
def hi : IntKind → Int
  | .i8 => 127 | .i16 => 32767 | .i32 => 2147483647 | .i64 => 9223372036854775807
  | .u8 => 255 | .u16 => 65535 | .u32 => 4294967295 | .u64 => 18446744073709551615
def inK (k : IntKind) (n : Int) : Prop := lo k ≤ n ∧ n ≤ hi k
instance (k : IntKind) (n : Int) : Decidable (inK k n) := inferInstanceAs (Decidable (_ ∧ _))
theorem wrap_inK {k : IntKind} {n : Int} (h : inK k n) : k.wrap n = n := by
  unfold inK lo hi at h
  cases k <;> simp only [IntKind.wrap, IntKind.bits, IntKind.signed, Bool.true_and, Bool.false_and, Bool.false_eq_true, if_false, decide_eq_true_eq, Nat.reduceSub, Int.reducePow] at * <;> first | (split <;> (rename_i hh; simp at hh; omega)) | omega

/-- cells that read as data -/
def RepC (F : Mem) : (t : Ty) → List Value → t.T → Prop
  | .int k, us, n => us = [.int k n] ∧ inK k n
  | .bool, us, b => us = [.bool b]
  | .str, us, s => us = [.string ⟨s.toArray⟩] ∧ s.length ≤ maxLen
  | .sl e, us, xs => ∃ ad cap, us = [.slice ad (List.length xs) cap] ∧ List.length xs ≤ cap ∧ cap ≤ maxLen ∧
      ∀ i (h : i < List.length xs), ∃ b off vs, ad = some ⟨b, off, none⟩ ∧ (∀ j u, vs[j]? = some u → F ⟨b, off + (i * e.sz + j), none⟩ = some u) ∧ RepC F e vs (List.get xs ⟨i, h⟩)
  | .unit, us, _ => us = []
  | .pair a b, us, x => ∃ u1 u2, us = u1 ++ u2 ∧ RepC F a u1 x.1 ∧ RepC F b u2 x.2
  | .st b, us, x => RepC F b us x
  | .tup _, _, _ => False

theorem RepC.len {F : Mem} : ∀ {t : Ty} {us : List Value} {x : t.T}, RepC F t us x → us.length = t.sz
  | .int _, _, _, h => by rw [h.1]; rfl
  | .bool, _, _, h => by rw [show _ = _ from h]; rfl
  | .str, _, _, h => by rw [h.1]; rfl
  | .sl _, _, _, h => by obtain ⟨_, _, rfl, _⟩ := h; rfl
  | .unit, _, _, h => by rw [show _ = _ from h]; rfl
  | .pair _ _, _, _, h => by
    obtain ⟨u1, u2, rfl, h1, h2⟩ := h
    rw [List.length_append, h1.len, h2.len]; rfl
  | .st b, _, _, h => RepC.len (t := b) (show RepC F b _ _ from h)
  | .tup _, _, _, h => h.elim
theorem RepC.one {F : Mem} : ∀ {t : Ty} {us : List Value} {x : t.T}, RepC F t us x → ∀ u ∈ us, u.oneCell' = true
  | .int _, _, _, h => by rw [h.1]; simp [Value.oneCell']
  | .bool, _, _, h => by rw [show _ = _ from h]; simp [Value.oneCell']
  | .str, _, _, h => by rw [h.1]; simp [Value.oneCell']
  | .sl _, _, _, h => by obtain ⟨_, _, rfl, _⟩ := h; simp [Value.oneCell']
  | .unit, _, _, h => by rw [show _ = _ from h]; simp
  | .pair _ _, _, _, h => by
    obtain ⟨u1, u2, rfl, h1, h2⟩ := h
    intro u hu
    rcases List.mem_append.1 hu with k | k
    · exact h1.one u k
    · exact h2.one u k
  | .st b, _, _, h => RepC.one (t := b) (show RepC F b _ _ from h)
  | .tup _, _, _, h => h.elim
theorem RepC.mono {F F' : Mem} (hs : Sub F F') : ∀ {t : Ty} {us : List Value} {x : t.T}, RepC F t us x → RepC F' t us x
  | .int _, _, _, h => h
  | .bool, _, _, h => h
  | .str, _, _, h => h
  | .sl _, _, _, h => by
    obtain ⟨ad, cap, h1, h2, h3, h4⟩ := h
    exact ⟨ad, cap, h1, h2, h3, fun i hi => let ⟨b, off, vs, e1, e2, e3⟩ := h4 i hi; ⟨b, off, vs, e1, fun j u hu => hs _ _ (e2 j u hu), e3.mono hs⟩⟩
  | .unit, _, _, h => h
  | .pair _ _, _, _, h => by
    obtain ⟨u1, u2, e, h1, h2⟩ := h
    exact ⟨u1, u2, e, h1.mono hs, h2.mono hs⟩
  | .st b, _, _, h => RepC.mono (t := b) hs (show RepC F b _ _ from h)
  | .tup _, _, _, h => h.elim
theorem RepC.plain {F F' : Mem} : ∀ {t : Ty} {us : List Value} {x : t.T}, t.plain = true → RepC F t us x → RepC F' t us x
  | .int _, _, _, _, h => h
  | .bool, _, _, _, h => h
  | .str, _, _, _, h => h
  | .sl _, _, _, hp, _ => by simp [Ty.plain] at hp
  | .unit, _, _, _, h => h
  | .pair _ _, _, _, hp, h => by
    obtain ⟨u1, u2, e, h1, h2⟩ := h
    simp only [Ty.plain, Bool.and_eq_true] at hp
    exact ⟨u1, u2, e, h1.plain hp.1, h2.plain hp.2⟩
  | .st b, _, _, hp, h => RepC.plain (t := b) (by simpa [Ty.plain] using hp) (show RepC F b _ _ from h)
  | .tup _, _, _, _, h => h.elim

/-- what every reading of data knows: lengths and numbers fit -/
def WF : (t : Ty) → t.T → Prop
  | .int k, n => inK k n
  | .bool, _ => True
  | .str, s => s.length ≤ maxLen
  | .sl e, xs => List.length xs ≤ maxLen ∧ ∀ x ∈ (xs : List e.T), WF e x
  | .unit, _ => True
  | .pair a b, x => WF a x.1 ∧ WF b x.2
  | .st b, x => WF b x
  | .tup b, x => WF b x
theorem RepC.wf {F : Mem} : ∀ {t : Ty} {us : List Value} {x : t.T}, RepC F t us x → WF t x
  | .int _, _, _, h => h.2
  | .bool, _, _, _ => trivial
  | .str, _, _, h => h.2
  | .sl e, _, xs, h => by
    obtain ⟨_, cap, _, h1, h2, h3⟩ := h
    refine ⟨Nat.le_trans h1 h2, fun x hx => ?_⟩
    obtain ⟨i, hi, rfl⟩ := List.mem_iff_getElem.1 hx
    obtain ⟨_, _, _, _, _, h4⟩ := h3 i hi
    exact h4.wf
  | .unit, _, _, _ => trivial
  | .pair _ _, _, _, h => let ⟨_, _, _, h1, h2⟩ := h; ⟨h1.wf, h2.wf⟩
  | .st b, _, _, h => RepC.wf (t := b) (show RepC F b _ _ from h)
  | .tup _, _, _, h => h.elim

/-- a value in a slot that reads as data -/
def RepV (F : Mem) : (t : Ty) → Value → t.T → Prop
  | .st b, v, x => ∃ us : List Value, v = .agg us.toArray ∧ RepC F b us x
  | .tup b, v, x => ∃ vs : List Value, v = .tuple vs.toArray ∧ RepTup b vs x
  | .unit, _, _ => False
  | .pair _ _, _, _ => False
  | .int k, v, x => RepC F (.int k) [v] x
  | .bool, v, x => RepC F .bool [v] x
  | .str, v, x => RepC F .str [v] x
  | .sl e, v, x => RepC F (.sl e) [v] x
where
  RepTup : (t : Ty) → List Value → t.T → Prop
  | .unit, vs, _ => vs = []
  | .pair a b, vs, x => ∃ v vs', vs = v :: vs' ∧ RepV1 a v x.1 ∧ RepTup b vs' x.2
  | _, _, _ => False
  RepV1 : (t : Ty) → Value → t.T → Prop
  | .st b, v, x => ∃ us : List Value, v = .agg us.toArray ∧ RepC F b us x
  | .tup _, _, _ => False
  | .unit, _, _ => False
  | .pair _ _, _, _ => False
  | .int k, v, x => RepC F (.int k) [v] x
  | .bool, v, x => RepC F .bool [v] x
  | .str, v, x => RepC F .str [v] x
  | .sl e, v, x => RepC F (.sl e) [v] x

theorem RepV1.mono {F F' : Mem} (hs : Sub F F') : ∀ {t : Ty} {v : Value} {x : t.T}, RepV.RepV1 F t v x → RepV.RepV1 F' t v x
  | .st _, _, _, h => let ⟨us, e, h1⟩ := h; ⟨us, e, h1.mono hs⟩
  | .tup _, _, _, h => h.elim
  | .unit, _, _, h => h.elim
  | .pair _ _, _, _, h => h.elim
  | .int _, _, _, h => RepC.mono hs (show RepC F (.int _) _ _ from h)
  | .bool, _, _, h => RepC.mono hs (show RepC F .bool _ _ from h)
  | .str, _, _, h => RepC.mono hs (show RepC F .str _ _ from h)
  | .sl _, _, _, h => RepC.mono hs (show RepC F (.sl _) _ _ from h)
theorem RepTup.mono {F F' : Mem} (hs : Sub F F') : ∀ {t : Ty} {vs : List Value} {x : t.T}, RepV.RepTup F t vs x → RepV.RepTup F' t vs x
  | .unit, _, _, h => h
  | .pair _ _, _, _, h => let ⟨v, vs', e, h1, h2⟩ := h; ⟨v, vs', e, RepV1.mono hs h1, RepTup.mono hs h2⟩
  | .int _, _, _, h => h.elim
  | .bool, _, _, h => h.elim
  | .str, _, _, h => h.elim
  | .sl _, _, _, h => h.elim
  | .st _, _, _, h => h.elim
  | .tup _, _, _, h => h.elim
theorem RepV.mono {F F' : Mem} (hs : Sub F F') {t : Ty} {v : Value} {x : t.T} (h : RepV F t v x) : RepV F' t v x := by
  cases t with
  | tup b => obtain ⟨vs, e, h1⟩ := h; exact ⟨vs, e, RepTup.mono hs h1⟩
  | st b => obtain ⟨us, e, h1⟩ := h; exact ⟨us, e, h1.mono hs⟩
  | unit => exact h.elim
  | pair a b => exact h.elim
  | int k => exact RepC.mono hs (show RepC F (.int k) _ _ from h)
  | bool => exact RepC.mono hs (show RepC F .bool _ _ from h)
  | str => exact RepC.mono hs (show RepC F .str _ _ from h)
  | sl e => exact RepC.mono hs (show RepC F (.sl e) _ _ from h)
theorem RepV.cells {F : Mem} {t : Ty} {v : Value} {x : t.T} (ht : t.isT = false) (h : RepV F t v x) : RepC F t v.cells.toList x := by
  cases t with
  | tup b => simp [Ty.isT] at ht
  | st b => obtain ⟨us, rfl, h1⟩ := h; show RepC F b _ x; simpa [Value.cells] using h1
  | unit => exact h.elim
  | pair a b => exact h.elim
  | int k => obtain ⟨e, h1⟩ := h; cases e; exact ⟨rfl, h1⟩
  | bool => cases (show [v] = _ from h); rfl
  | str => obtain ⟨e, h1⟩ := h; cases e; exact ⟨rfl, h1⟩
  | sl e =>
    obtain ⟨ad, cap, e, r⟩ := h
    cases e
    exact ⟨ad, cap, rfl, r⟩
theorem RepV.wf {F : Mem} {t : Ty} {v : Value} {x : t.T} (ht : t.isT = false) (h : RepV F t v x) : WF t x := (h.cells ht).wf
theorem RepV.plain {F F' : Mem} {t : Ty} {v : Value} {x : t.T} (ht : t.isT = false) (hp : t.plain = true) (h : RepV F t v x) : RepV F' t v x := by
  cases t with
  | tup b => simp [Ty.isT] at ht
  | st b => obtain ⟨us, e, h1⟩ := h; exact ⟨us, e, h1.plain (by simpa [Ty.plain] using hp)⟩
  | unit => exact h.elim
  | pair a b => exact h.elim
  | int k => exact RepC.plain rfl (show RepC F (.int k) _ _ from h)
  | bool => exact RepC.plain rfl (show RepC F .bool _ _ from h)
  | str => exact RepC.plain rfl (show RepC F .str _ _ from h)
  | sl e => simp [Ty.plain] at hp
/-- from cells to the value of the slot into which they are loaded -/
theorem RepC.agg {F : Mem} {b : Ty} {us : List Value} {x : b.T} (h : RepC F b us x) : RepV F (.st b) (.agg us.toArray) x := ⟨us, rfl, h⟩
def Ty.cell : Ty → Bool
  | .int _ => true
  | .bool => true
  | .str => true
  | .sl _ => true
  | _ => false
theorem RepC.single {F : Mem} {t : Ty} {u : Value} {x : t.T} (ht : t.cell = true) (h : RepC F t [u] x) : RepV F t u x := by
  cases t <;> first | (simp [Ty.cell] at ht; done) | exact h

/-- what a function value has captured: data, or the address of cells that stay as they are -/
inductive Cap where
  | d (t : Ty) (x : t.T)
  | kp (t : Ty) (x : t.T)
/-- abstract values -/
inductive AV where
  | any
  | nil
  | d (t : Ty) (x : t.T)
  | kp (t : Ty) (x : t.T)
  | hp (h off : Nat)
  | he (h : Nat) (t : Ty) (i : Nat)
  | hs (h : Nat)
  | fn (f : FuncId) (caps : List Cap)
  | opt (g : Bool) (a : AV)
  | v (x : Value)
/-- abstract objects: a slice's row that the call owns; cells that the call owns -/
inductive Ob where
  | row (e : TypeId) (t : Ty) (xs : List t.T)
  | cells (cs : List AV)

/-- the address at which a reading of cells begins -/
def PtAt (F : Mem) (t : Ty) (v : Value) (x : t.T) : Prop := ∃ b off us, v = .pointer (some ⟨b, off, none⟩) ∧ (∀ j u, (us : List Value)[j]? = some u → F ⟨b, off + j, none⟩ = some u) ∧ RepC F t us x
theorem PtAt.mono {F F' : Mem} (hs : Sub F F') {t : Ty} {v : Value} {x : t.T} (h : PtAt F t v x) : PtAt F' t v x :=
  let ⟨b, off, us, e, h1, h2⟩ := h; ⟨b, off, us, e, fun j u hu => hs _ _ (h1 j u hu), h2.mono hs⟩
def RepCap (F : Mem) : Cap → Value → Prop
  | .d t x, v => RepV F t v x
  | .kp t x, v => PtAt F t v x
theorem RepCap.mono {F F' : Mem} (hs : Sub F F') {c : Cap} {v : Value} (h : RepCap F c v) : RepCap F' c v := by
  cases c with
  | d t x => exact RepV.mono hs h
  | kp t x => exact PtAt.mono hs h
/-- how a value reads: ρ gives each owned object's address (a pointer, or the slice itself) -/
def RepA (ρ : Nat → Value) (F : Mem) : AV → Value → Prop
  | .any, _ => True
  | .nil, v => v = .slice none 0 0
  | .d t x, v => RepV F t v x
  | .kp t x, v => PtAt F t v x
  | .hp h off, v => ∃ b, ρ h = .pointer (some ⟨b, 0, none⟩) ∧ v = .pointer (some ⟨b, off, none⟩)
  | .he h t i, v => ∃ b n cap, ρ h = .slice (some ⟨b, 0, none⟩) n cap ∧ i < n ∧ v = .pointer (some ⟨b, i * t.sz, none⟩)
  | .hs h, v => v = ρ h
  | .fn f caps, v => ∃ vs : List Value, v = .func (.func f) #[] vs.toArray ∧ vs.length = caps.length ∧ ∀ j (c : Cap), caps[j]? = some c → RepCap F c (vs.getD j undef)
  | .opt g a, v => (g = true → RepA ρ F a v) ∧ (g = false → v = undef)
  | .v x, v => v = x
theorem RepA.mono {ρ : Nat → Value} {F F' : Mem} (hs : Sub F F') : ∀ {a : AV} {v : Value}, RepA ρ F a v → RepA ρ F' a v
  | .any, _, _ => trivial
  | .nil, _, h => h
  | .d _ _, _, h => RepV.mono hs h
  | .kp _ _, _, h => PtAt.mono hs h
  | .hp _ _, _, h => h
  | .he _ _ _, _, h => h
  | .hs _, _, h => h
  | .fn _ _, _, h => let ⟨vs, e, h1, h2⟩ := h; ⟨vs, e, h1, fun j c hc => (h2 j c hc).mono hs⟩
  | .opt _ _, _, h => ⟨fun hg => RepA.mono hs (h.1 hg), h.2⟩
  | .v _, _, h => h
/-- does a value name object h? -/
def AV.uses (h : Nat) : AV → Bool
  | .hp k _ => Nat.beq k h
  | .he k _ _ => Nat.beq k h
  | .hs k => Nat.beq k h
  | .opt _ a => a.uses h
  | _ => false
def AV.erase (h : Nat) (a : AV) : AV := bif a.uses h then .any else a
def Ob.uses (h : Nat) : Ob → Bool
  | .row _ _ _ => false
  | .cells cs => cs.any (·.uses h)
def Ob.erase (h : Nat) : Ob → Ob
  | .row e t xs => .row e t xs
  | .cells cs => .cells (cs.map (·.erase h))
theorem RepA.other {ρ ρ' : Nat → Value} {F : Mem} {h : Nat} (hρ : ∀ k, k ≠ h → ρ' k = ρ k) : ∀ {a : AV} {v : Value}, a.uses h = false → RepA ρ F a v → RepA ρ' F a v
  | .any, _, _, _ => trivial
  | .nil, _, _, r => r
  | .d _ _, _, _, r => r
  | .kp _ _, _, _, r => r
  | .hp k _, _, hu, r => by
    have : k ≠ h := by simp only [AV.uses] at hu; intro e; subst e; simp at hu
    simp only [RepA, hρ k this]; exact r
  | .he k _ _, _, hu, r => by
    have : k ≠ h := by simp only [AV.uses] at hu; intro e; subst e; simp at hu
    simp only [RepA, hρ k this]; exact r
  | .hs k, _, hu, r => by
    have : k ≠ h := by simp only [AV.uses] at hu; intro e; subst e; simp at hu
    simp only [RepA, hρ k this]; exact r
  | .fn _ _, _, _, r => r
  | .opt _ _, _, hu, r => ⟨fun hg => RepA.other hρ (by simpa [AV.uses] using hu) (r.1 hg), r.2⟩
  | .v _, _, _, r => r
theorem AV.erase_uses (h : Nat) (a : AV) : (a.erase h).uses h = false := by
  unfold AV.erase; cases hu : a.uses h <;> simp [AV.uses, hu]
theorem RepA.erased {ρ : Nat → Value} {F : Mem} {h : Nat} {a : AV} {v : Value} (r : RepA ρ F a v) : RepA ρ F (a.erase h) v := by
  unfold AV.erase; cases hu : a.uses h <;> simp [RepA, r]

/-- the block of an owned object -/
def blk : Value → Option Nat
  | .pointer (some a) => some a.block
  | .slice (some a) _ _ => some a.block
  | _ => none
/-- cells that read as a list of data -/
def RepCs (F : Mem) (t : Ty) (us : List Value) (xs : List t.T) : Prop := us.length = xs.length * t.sz ∧ ∀ i (h : i < xs.length), RepC F t ((us.drop (i * t.sz)).take t.sz) xs[i]
theorem RepCs.mono {F F' : Mem} (hs : Sub F F') {t : Ty} {us : List Value} {xs : List t.T} (h : RepCs F t us xs) : RepCs F' t us xs := ⟨h.1, fun i hi => (h.2 i hi).mono hs⟩
/-- an object in memory -/
def ObR (n0 : Nat) (ρ : Nat → Value) (F : Mem) (w : World) (r : Value) : Ob → Prop
  | .row e t xs => ∃ us, w.ownsRow n0 e t.sz r xs.length us ∧ RepCs F t us xs
  | .cells cs => ∃ b arr e, r = .pointer (some ⟨b, 0, none⟩) ∧ n0 ≤ b ∧ w.heap[b]? = some (.cells arr e (0, 0)) ∧ arr.size = cs.length ∧ (∀ u ∈ arr.toList, u.oneCell' = true) ∧ ∀ j (c : AV), cs[j]? = some c → RepA ρ F c (arr.getD j undef)
end Go.Proofs.Ytohglckebkgbpaa
