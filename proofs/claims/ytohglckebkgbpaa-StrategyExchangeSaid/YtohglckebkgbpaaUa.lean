/-
  Data by type, abstract values, and how memory reads as them: the state of an evaluator that works on plain data (second make: function values that share memory, loops over functions, maps).
-/
import Derived.Test.YtohglckebkgbpaaMaps
import Derived.Laws.AppendOwn
import Derived.Lib.ConvBytes
import Derived.Laws.OwnMore
namespace Go.Proofs.Ytohglckebkgbpaa
open Go.RowKit

/-- the types of plain data -/
inductive Ty where
  | int (k : IntKind) | bool | str | sl (e : Ty) | arr (n : Nat) (e : Ty) | unit | pair (a b : Ty) | st (b : Ty) | tup (b : Ty)
  deriving DecidableEq
abbrev Ty.T : Ty → Type
  | .int _ => Int
  | .bool => Bool
  | .str => List UInt8
  | .sl e => List e.T
  | .arr _ e => List e.T
  | .unit => Unit
  | .pair a b => a.T × b.T
  | .st b => b.T
  | .tup b => b.T
/-- cells of a value in memory -/
def Ty.sz : Ty → Nat
  | .unit => 0
  | .pair a b => a.sz + b.sz
  | .st b => b.sz
  | .arr n e => n * e.sz
  | .tup _ => 0
  | _ => 1
def replL {α : Type} : Nat → α → List α
  | 0, _ => []
  | n + 1, a => a :: replL n a
theorem replL_eq {α : Type} : ∀ (n : Nat) (a : α), replL n a = List.replicate n a
  | 0, _ => rfl
  | n + 1, a => by simp [replL, replL_eq n a, List.replicate_succ]
/-- the zero value -/
def Ty.d : (t : Ty) → t.T
  | .int _ => (0 : Int)
  | .bool => false
  | .str => []
  | .sl _ => []
  | .arr n e => replL n e.d
  | .unit => ()
  | .pair a b => (a.d, b.d)
  | .st b => b.d
  | .tup b => b.d
def Ty.isT : Ty → Bool
  | .tup _ => true
  | _ => false
/-- types whose values hold no address -/
def Ty.plain : Ty → Bool
  | .int _ => true
  | .bool => true
  | .str => true
  | .sl _ => false
  | .arr _ e => e.plain
  | .unit => true
  | .pair a b => a.plain && b.plain
  | .st b => b.plain
  | .tup b => b.plain

def lo : IntKind → Int
  | .i8 => -128 | .i16 => -32768 | .i32 => -2147483648 | .i64 => -9223372036854775808
  | .u8 => 0 | .u16 => 0 | .u32 => 0 | .u64 => 0
def hi : IntKind → Int
  | .i8 => 127 | .i16 => 32767 | .i32 => 2147483647 | .i64 => 9223372036854775807
  | .u8 => 255 | .u16 => 65535 | .u32 => 4294967295 | .u64 => 18446744073709551615
def inK (k : IntKind) (n : Int) : Prop := lo k ≤ n ∧ n ≤ hi k
instance (k : IntKind) (n : Int) : Decidable (inK k n) := inferInstanceAs (Decidable (_ ∧ _))
theorem wrap_inK {k : IntKind} {n : Int} (h : inK k n) : k.wrap n = n := by
  unfold inK lo hi at h
  cases k <;> simp only [IntKind.wrap, IntKind.bits, IntKind.signed, Bool.true_and, Bool.false_and, Bool.false_eq_true, if_false, decide_eq_true_eq, Nat.reduceSub, Int.reducePow] at * <;> first | (split <;> (rename_i hh; simp at hh; omega)) | omega

/-- cells that read as data -/
def RepC (F : Mem) : (t : Ty) → List Value → t.T → Prop
  | .int k, us, n => us = [.int k n] ∧ inK k n
  | .bool, us, b => us = [.bool b]
  | .str, us, s => us = [.string ⟨s.toArray⟩] ∧ s.length ≤ maxLen
  | .sl e, us, xs => ∃ ad cap, us = [.slice ad (List.length xs) cap] ∧ List.length xs ≤ cap ∧ cap ≤ maxLen ∧
      ∀ i (h : i < List.length xs), ∃ b off vs, ad = some ⟨b, off, none⟩ ∧ (∀ j u, vs[j]? = some u → F ⟨b, off + (i * e.sz + j), none⟩ = some u) ∧ RepC F e vs (List.get xs ⟨i, h⟩)
  | .arr n e, us, xs => us.length = n * e.sz ∧ List.length xs = n ∧ (∀ u ∈ us, u.oneCell' = true) ∧ ∀ i (h : i < List.length xs), RepC F e ((us.drop (i * e.sz)).take e.sz) (List.get xs ⟨i, h⟩)
  | .unit, us, _ => us = []
  | .pair a b, us, x => ∃ u1 u2, us = u1 ++ u2 ∧ RepC F a u1 x.1 ∧ RepC F b u2 x.2
  | .st b, us, x => RepC F b us x
  | .tup _, _, _ => False

theorem RepC.len {F : Mem} : ∀ {t : Ty} {us : List Value} {x : t.T}, RepC F t us x → us.length = t.sz
  | .int _, _, _, h => by rw [h.1]; rfl
  | .bool, _, _, h => by rw [show _ = _ from h]; rfl
  | .str, _, _, h => by rw [h.1]; rfl
  | .sl _, _, _, h => by obtain ⟨_, _, rfl, _⟩ := h; rfl
  | .arr _ _, _, _, h => h.1
  | .unit, _, _, h => by rw [show _ = _ from h]; rfl
  | .pair _ _, _, _, h => by
    obtain ⟨u1, u2, rfl, h1, h2⟩ := h
    rw [List.length_append, h1.len, h2.len]; rfl
  | .st b, _, _, h => RepC.len (t := b) (show RepC F b _ _ from h)
  | .tup _, _, _, h => h.elim
theorem RepC.one {F : Mem} : ∀ {t : Ty} {us : List Value} {x : t.T}, RepC F t us x → ∀ u ∈ us, u.oneCell' = true
  | .int _, _, _, h => by rw [h.1]; simp [Value.oneCell']
  | .bool, _, _, h => by rw [show _ = _ from h]; simp [Value.oneCell']
  | .str, _, _, h => by rw [h.1]; simp [Value.oneCell']
  | .sl _, _, _, h => by obtain ⟨_, _, rfl, _⟩ := h; simp [Value.oneCell']
  | .arr _ _, _, _, h => h.2.2.1
  | .unit, _, _, h => by rw [show _ = _ from h]; simp
  | .pair _ _, _, _, h => by
    obtain ⟨u1, u2, rfl, h1, h2⟩ := h
    intro u hu
    rcases List.mem_append.1 hu with k | k
    · exact h1.one u k
    · exact h2.one u k
  | .st b, _, _, h => RepC.one (t := b) (show RepC F b _ _ from h)
  | .tup _, _, _, h => h.elim
theorem RepC.mono {F F' : Mem} (hs : Sub F F') : ∀ {t : Ty} {us : List Value} {x : t.T}, RepC F t us x → RepC F' t us x
  | .int _, _, _, h => h
  | .bool, _, _, h => h
  | .str, _, _, h => h
  | .sl _, _, _, h => by
    obtain ⟨ad, cap, h1, h2, h3, h4⟩ := h
    exact ⟨ad, cap, h1, h2, h3, fun i hi => let ⟨b, off, vs, e1, e2, e3⟩ := h4 i hi; ⟨b, off, vs, e1, fun j u hu => hs _ _ (e2 j u hu), e3.mono hs⟩⟩
  | .arr _ _, _, _, h => ⟨h.1, h.2.1, h.2.2.1, fun i hi => (h.2.2.2 i hi).mono hs⟩
  | .unit, _, _, h => h
  | .pair _ _, _, _, h => by
    obtain ⟨u1, u2, e, h1, h2⟩ := h
    exact ⟨u1, u2, e, h1.mono hs, h2.mono hs⟩
  | .st b, _, _, h => RepC.mono (t := b) hs (show RepC F b _ _ from h)
  | .tup _, _, _, h => h.elim
theorem RepC.plain {F F' : Mem} : ∀ {t : Ty} {us : List Value} {x : t.T}, t.plain = true → RepC F t us x → RepC F' t us x
  | .int _, _, _, _, h => h
  | .bool, _, _, _, h => h
  | .str, _, _, _, h => h
  | .sl _, _, _, hp, _ => by simp [Ty.plain] at hp
  | .arr _ e, _, _, hp, h => ⟨h.1, h.2.1, h.2.2.1, fun i hi => (h.2.2.2 i hi).plain (by simpa [Ty.plain] using hp)⟩
  | .unit, _, _, _, h => h
  | .pair _ _, _, _, hp, h => by
    obtain ⟨u1, u2, e, h1, h2⟩ := h
    simp only [Ty.plain, Bool.and_eq_true] at hp
    exact ⟨u1, u2, e, h1.plain hp.1, h2.plain hp.2⟩
  | .st b, _, _, hp, h => RepC.plain (t := b) (by simpa [Ty.plain] using hp) (show RepC F b _ _ from h)
  | .tup _, _, _, _, h => h.elim

/-- what every reading of data knows: lengths and numbers fit -/
def WF : (t : Ty) → t.T → Prop
  | .int k, n => inK k n
  | .bool, _ => True
  | .str, s => s.length ≤ maxLen
  | .sl e, xs => List.length xs ≤ maxLen ∧ ∀ x ∈ (xs : List e.T), WF e x
  | .arr n e, xs => List.length xs = n ∧ ∀ x ∈ (xs : List e.T), WF e x
  | .unit, _ => True
  | .pair a b, x => WF a x.1 ∧ WF b x.2
  | .st b, x => WF b x
  | .tup b, x => WF b x
theorem RepC.wf {F : Mem} : ∀ {t : Ty} {us : List Value} {x : t.T}, RepC F t us x → WF t x
  | .int _, _, _, h => h.2
  | .bool, _, _, _ => trivial
  | .str, _, _, h => h.2
  | .sl e, _, xs, h => by
    obtain ⟨_, cap, _, h1, h2, h3⟩ := h
    refine ⟨Nat.le_trans h1 h2, fun x hx => ?_⟩
    obtain ⟨i, hi, rfl⟩ := List.mem_iff_getElem.1 hx
    obtain ⟨_, _, _, _, _, h4⟩ := h3 i hi
    exact h4.wf
  | .arr n e, _, xs, h => by
    refine ⟨h.2.1, fun x hx => ?_⟩
    obtain ⟨i, hi, rfl⟩ := List.mem_iff_getElem.1 hx
    exact (h.2.2.2 i hi).wf
  | .unit, _, _, _ => trivial
  | .pair _ _, _, _, h => let ⟨_, _, _, h1, h2⟩ := h; ⟨h1.wf, h2.wf⟩
  | .st b, _, _, h => RepC.wf (t := b) (show RepC F b _ _ from h)
  | .tup _, _, _, h => h.elim

/-- a value in a slot that reads as data; within a tuple no tuple -/
def RepV1 (F : Mem) : (t : Ty) → Value → t.T → Prop
  | .st b, v, x => ∃ us : List Value, v = .agg us.toArray ∧ RepC F b us x
  | .arr n e, v, x => ∃ us : List Value, v = .agg us.toArray ∧ RepC F (.arr n e) us x
  | .tup _, _, _ => False
  | .unit, _, _ => False
  | .pair _ _, _, _ => False
  | .int k, v, x => RepC F (.int k) [v] x
  | .bool, v, x => RepC F .bool [v] x
  | .str, v, x => RepC F .str [v] x
  | .sl e, v, x => RepC F (.sl e) [v] x
def RepTup (F : Mem) : (t : Ty) → List Value → t.T → Prop
  | .unit, vs, _ => vs = []
  | .pair a b, vs, x => ∃ v vs', vs = v :: vs' ∧ RepV1 F a v x.1 ∧ RepTup F b vs' x.2
  | _, _, _ => False
def RepV (F : Mem) : (t : Ty) → Value → t.T → Prop
  | .st b, v, x => ∃ us : List Value, v = .agg us.toArray ∧ RepC F b us x
  | .arr n e, v, x => ∃ us : List Value, v = .agg us.toArray ∧ RepC F (.arr n e) us x
  | .tup b, v, x => ∃ vs : List Value, v = .tuple vs.toArray ∧ RepTup F b vs x
  | .unit, _, _ => False
  | .pair _ _, _, _ => False
  | .int k, v, x => RepC F (.int k) [v] x
  | .bool, v, x => RepC F .bool [v] x
  | .str, v, x => RepC F .str [v] x
  | .sl e, v, x => RepC F (.sl e) [v] x
theorem RepV1.mono {F F' : Mem} (hs : Sub F F') : ∀ {t : Ty} {v : Value} {x : t.T}, RepV1 F t v x → RepV1 F' t v x
  | .st _, _, _, h => let ⟨us, e, h1⟩ := h; ⟨us, e, h1.mono hs⟩
  | .arr _ _, _, _, h => let ⟨us, e, h1⟩ := h; ⟨us, e, h1.mono hs⟩
  | .tup _, _, _, h => h.elim
  | .unit, _, _, h => h.elim
  | .pair _ _, _, _, h => h.elim
  | .int _, _, _, h => RepC.mono hs (show RepC F (.int _) _ _ from h)
  | .bool, _, _, h => RepC.mono hs (show RepC F .bool _ _ from h)
  | .str, _, _, h => RepC.mono hs (show RepC F .str _ _ from h)
  | .sl _, _, _, h => RepC.mono hs (show RepC F (.sl _) _ _ from h)
theorem RepTup.mono {F F' : Mem} (hs : Sub F F') : ∀ {t : Ty} {vs : List Value} {x : t.T}, RepTup F t vs x → RepTup F' t vs x
  | .unit, _, _, h => h
  | .pair _ _, _, _, h => let ⟨v, vs', e, h1, h2⟩ := h; ⟨v, vs', e, RepV1.mono hs h1, RepTup.mono hs h2⟩
  | .int _, _, _, h => h.elim
  | .bool, _, _, h => h.elim
  | .str, _, _, h => h.elim
  | .sl _, _, _, h => h.elim
  | .arr _ _, _, _, h => h.elim
  | .st _, _, _, h => h.elim
  | .tup _, _, _, h => h.elim
theorem RepV.mono {F F' : Mem} (hs : Sub F F') {t : Ty} {v : Value} {x : t.T} (h : RepV F t v x) : RepV F' t v x := by
  cases t with
  | tup b => obtain ⟨vs, e, h1⟩ := h; exact ⟨vs, e, RepTup.mono hs h1⟩
  | st b => obtain ⟨us, e, h1⟩ := h; exact ⟨us, e, h1.mono hs⟩
  | arr n b => obtain ⟨us, e, h1⟩ := h; exact ⟨us, e, h1.mono hs⟩
  | unit => exact h.elim
  | pair a b => exact h.elim
  | int k => exact RepC.mono hs (show RepC F (.int k) _ _ from h)
  | bool => exact RepC.mono hs (show RepC F .bool _ _ from h)
  | str => exact RepC.mono hs (show RepC F .str _ _ from h)
  | sl e => exact RepC.mono hs (show RepC F (.sl e) _ _ from h)
theorem RepV.cells {F : Mem} {t : Ty} {v : Value} {x : t.T} (ht : t.isT = false) (h : RepV F t v x) : RepC F t v.cells.toList x := by
  cases t with
  | tup b => simp [Ty.isT] at ht
  | st b => obtain ⟨us, rfl, h1⟩ := h; show RepC F b _ x; simpa [Value.cells] using h1
  | arr n b => obtain ⟨us, rfl, h1⟩ := h; simpa [Value.cells] using h1
  | unit => exact h.elim
  | pair a b => exact h.elim
  | int k => obtain ⟨e, h1⟩ := h; cases e; exact ⟨rfl, h1⟩
  | bool => cases (show [v] = _ from h); rfl
  | str => obtain ⟨e, h1⟩ := h; cases e; exact ⟨rfl, h1⟩
  | sl e =>
    obtain ⟨ad, cap, e, r⟩ := h
    cases e
    exact ⟨ad, cap, rfl, r⟩
theorem RepV.wf {F : Mem} {t : Ty} {v : Value} {x : t.T} (ht : t.isT = false) (h : RepV F t v x) : WF t x := (h.cells ht).wf
theorem RepV.plain {F F' : Mem} {t : Ty} {v : Value} {x : t.T} (ht : t.isT = false) (hp : t.plain = true) (h : RepV F t v x) : RepV F' t v x := by
  cases t with
  | tup b => simp [Ty.isT] at ht
  | st b => obtain ⟨us, e, h1⟩ := h; exact ⟨us, e, h1.plain (by simpa [Ty.plain] using hp)⟩
  | arr n b => obtain ⟨us, e, h1⟩ := h; exact ⟨us, e, h1.plain hp⟩
  | unit => exact h.elim
  | pair a b => exact h.elim
  | int k => exact RepC.plain rfl (show RepC F (.int k) _ _ from h)
  | bool => exact RepC.plain rfl (show RepC F .bool _ _ from h)
  | str => exact RepC.plain rfl (show RepC F .str _ _ from h)
  | sl e => simp [Ty.plain] at hp
/-- types of one cell -/
def Ty.cell : Ty → Bool
  | .int _ => true
  | .bool => true
  | .str => true
  | .sl _ => true
  | _ => false
theorem RepC.single {F : Mem} {t : Ty} {u : Value} {x : t.T} (ht : t.cell = true) (h : RepC F t [u] x) : RepV F t u x := by
  cases t <;> first | (simp [Ty.cell] at ht; done) | exact h

/-- values of one cell, and what function values have captured: data; the address of cells that stay as they are; what the call owns -/
inductive Cap where
  | any
  | nil
  | d (t : Ty) (x : t.T)
  | kp (t : Ty) (x : t.T)
  | hp (h off : Nat)
  | hs (h : Nat)
/-- abstract values -/
inductive AV where
  | any
  | c (a : Cap)
  | he (h : Nat) (t : Ty) (i : Nat)
  | hv (h : Nat) (t : Ty) (l r : Nat)
  | fn (f : FuncId) (caps : List Cap)
  | ag (l : List Cap)
  | tg (l : List Cap)
  | ifd (i : TypeId) (t : Ty) (x : t.T)
  | opt (g : Bool) (a : AV)
  | v (x : Value)
@[match_pattern] abbrev AV.nil : AV := .c .nil
@[match_pattern] abbrev AV.d (t : Ty) (x : t.T) : AV := .c (.d t x)
@[match_pattern] abbrev AV.kp (t : Ty) (x : t.T) : AV := .c (.kp t x)
@[match_pattern] abbrev AV.hp (h off : Nat) : AV := .c (.hp h off)
@[match_pattern] abbrev AV.hs (h : Nat) : AV := .c (.hs h)
abbrev Env := Nat → AV
/-- a loop over a function: its text, and the slots when it began -/
structure LInfo where
  fn : FuncId
  e : Env
  nt : Nat
  ps : List Nat
  asg : Code
  body : Code
/-- abstract objects: a slice's row that the call owns; cells; a map; a loop over a function; the block for its rounds' deferred calls -/
inductive Ob where
  | row (e : TypeId) (t : Ty) (xs : List t.T)
  | cells (cs : List AV)
  | map (k v : Ty) (l : List (k.T × v.T))
  | lp (jump : Option Code)
  | dfr

/-- the address at which a reading of cells begins -/
def PtAt (F : Mem) (t : Ty) (v : Value) (x : t.T) : Prop := ∃ b off us, v = .pointer (some ⟨b, off, none⟩) ∧ (∀ j u, (us : List Value)[j]? = some u → F ⟨b, off + j, none⟩ = some u) ∧ RepC F t us x
theorem PtAt.mono {F F' : Mem} (hs : Sub F F') {t : Ty} {v : Value} {x : t.T} (h : PtAt F t v x) : PtAt F' t v x :=
  let ⟨b, off, us, e, h1, h2⟩ := h; ⟨b, off, us, e, fun j u hu => hs _ _ (h1 j u hu), h2.mono hs⟩
/-- how a value reads: ρ gives each owned object's address (a pointer, or the slice itself) -/
def RepCap (ρ : Nat → Value) (F : Mem) : Cap → Value → Prop
  | .any, _ => True
  | .nil, v => v = .slice none 0 0
  | .d t x, v => RepV F t v x
  | .kp t x, v => PtAt F t v x
  | .hp h off, v => ∃ b, ρ h = .pointer (some ⟨b, 0, none⟩) ∧ v = .pointer (some ⟨b, off, none⟩)
  | .hs h, v => v = ρ h
theorem RepCap.mono {ρ : Nat → Value} {F F' : Mem} (hs : Sub F F') {c : Cap} {v : Value} (h : RepCap ρ F c v) : RepCap ρ F' c v := by
  cases c with
  | any => trivial
  | nil => exact h
  | d t x => exact RepV.mono hs h
  | kp t x => exact PtAt.mono hs h
  | hp k off => exact h
  | hs k => exact h
def RepCs' (ρ : Nat → Value) (F : Mem) (l : List Cap) (vs : List Value) : Prop := vs.length = l.length ∧ ∀ j (c : Cap), l[j]? = some c → RepCap ρ F c (vs.getD j undef)
theorem RepCs'.mono {ρ : Nat → Value} {F F' : Mem} (hs : Sub F F') {l : List Cap} {vs : List Value} (h : RepCs' ρ F l vs) : RepCs' ρ F' l vs := ⟨h.1, fun j c hc => (h.2 j c hc).mono hs⟩
def RepA (ρ : Nat → Value) (F : Mem) : AV → Value → Prop
  | .any, _ => True
  | .c c, v => RepCap ρ F c v
  | .he h t i, v => ∃ b n cap, ρ h = .slice (some ⟨b, 0, none⟩) n cap ∧ i < n ∧ v = .pointer (some ⟨b, i * t.sz, none⟩)
  | .hv h t l r, v => ∃ ad n cap, ρ h = .slice ad n cap ∧ l ≤ r ∧ r ≤ n ∧ n ≤ cap ∧ cap ≤ maxLen ∧ v = .slice (if cap = l then ad else ad.map (·.add (l * t.sz))) (r - l) (cap - l)
  | .fn f caps, v => ∃ vs : List Value, v = .func (.func f) #[] vs.toArray ∧ RepCs' ρ F caps vs
  | .ag l, v => ∃ vs : List Value, v = .agg vs.toArray ∧ RepCs' ρ F l vs
  | .tg l, v => ∃ vs : List Value, v = .tuple vs.toArray ∧ RepCs' ρ F l vs
  | .ifd i t x, v => ∃ u, v = .iface i u ∧ RepV F t u x
  | .opt g a, v => (g = true → RepA ρ F a v) ∧ (g = false → v = undef)
  | .v x, v => v = x
theorem RepA.mono {ρ : Nat → Value} {F F' : Mem} (hs : Sub F F') : ∀ {a : AV} {v : Value}, RepA ρ F a v → RepA ρ F' a v
  | .any, _, _ => trivial
  | .c _, _, h => RepCap.mono hs h
  | .he _ _ _, _, h => h
  | .hv _ _ _ _, _, h => h
  | .fn _ _, _, h => let ⟨vs, e, h1⟩ := h; ⟨vs, e, h1.mono hs⟩
  | .ag _, _, h => let ⟨vs, e, h1⟩ := h; ⟨vs, e, h1.mono hs⟩
  | .tg _, _, h => let ⟨vs, e, h1⟩ := h; ⟨vs, e, h1.mono hs⟩
  | .ifd _ _ _, _, h => let ⟨u, e, h1⟩ := h; ⟨u, e, h1.mono hs⟩
  | .opt _ _, _, h => ⟨fun hg => RepA.mono hs (h.1 hg), h.2⟩
  | .v _, _, h => h
/-- does a value name object h? -/
def Cap.uses (h : Nat) : Cap → Bool
  | .hp k _ => Nat.beq k h
  | .hs k => Nat.beq k h
  | _ => false
def AV.uses (h : Nat) : AV → Bool
  | .c a => a.uses h
  | .he k _ _ => Nat.beq k h
  | .hv k _ _ _ => Nat.beq k h
  | .fn _ l => l.any (·.uses h)
  | .ag l => l.any (·.uses h)
  | .tg l => l.any (·.uses h)
  | .opt _ a => a.uses h
  | _ => false
def Ob.uses (h : Nat) : Ob → Bool
  | .cells cs => cs.any (·.uses h)
  | _ => false
theorem RepCap.agree {ρ ρ' : Nat → Value} {F : Mem} {c : Cap} {v : Value} (hu : ∀ h, c.uses h = true → ρ' h = ρ h) (r : RepCap ρ F c v) : RepCap ρ' F c v := by
  cases c with
  | hp k off => have := hu k (by simp [Cap.uses]); simp only [RepCap, this]; exact r
  | hs k => have := hu k (by simp [Cap.uses]); simp only [RepCap, this]; exact r
  | _ => exact r
theorem RepCs'.agree {ρ ρ' : Nat → Value} {F : Mem} {l : List Cap} {vs : List Value} (hu : ∀ h, l.any (·.uses h) = true → ρ' h = ρ h) (r : RepCs' ρ F l vs) : RepCs' ρ' F l vs :=
  ⟨r.1, fun j c hc => (r.2 j c hc).agree fun h k => hu h (List.any_eq_true.2 ⟨c, List.mem_of_getElem? hc, k⟩)⟩
/-- only the names that a value uses matter -/
theorem RepA.agree {ρ ρ' : Nat → Value} {F : Mem} : ∀ {a : AV} {v : Value}, (∀ h, a.uses h = true → ρ' h = ρ h) → RepA ρ F a v → RepA ρ' F a v
  | .any, _, _, _ => trivial
  | .c _, _, hu, r => RepCap.agree hu r
  | .he k _ _, _, hu, r => by
    have := hu k (by simp [AV.uses])
    simp only [RepA, this]; exact r
  | .hv k _ _ _, _, hu, r => by
    have := hu k (by simp [AV.uses])
    simp only [RepA, this]; exact r
  | .fn _ _, _, hu, r => let ⟨vs, e, h1⟩ := r; ⟨vs, e, h1.agree hu⟩
  | .ag _, _, hu, r => let ⟨vs, e, h1⟩ := r; ⟨vs, e, h1.agree hu⟩
  | .tg _, _, hu, r => let ⟨vs, e, h1⟩ := r; ⟨vs, e, h1.agree hu⟩
  | .ifd _ _ _, _, _, r => r
  | .opt _ a, _, hu, r => ⟨fun hg => RepA.agree (a := a) hu (r.1 hg), r.2⟩
  | .v _, _, _, r => r
theorem RepA.other {ρ ρ' : Nat → Value} {F : Mem} {h : Nat} (hρ : ∀ k, k ≠ h → ρ' k = ρ k) {a : AV} {v : Value} (hu : a.uses h = false) (r : RepA ρ F a v) : RepA ρ' F a v :=
  r.agree fun k hk => hρ k fun e => by subst e; rw [hu] at hk; simp at hk

/-- the block of an owned object -/
def blk : Value → Option Nat
  | .pointer (some a) => some a.block
  | .slice (some a) _ _ => some a.block
  | .map (some b) => some b
  | .func (.yield l) _ _ => some l
  | .chan (some b) => some b
  | _ => none
/-- cells that read as a list of data -/
def RepCs (F : Mem) (t : Ty) (us : List Value) (xs : List t.T) : Prop := us.length = xs.length * t.sz ∧ ∀ i (h : i < xs.length), RepC F t ((us.drop (i * t.sz)).take t.sz) xs[i]
theorem RepCs.mono {F F' : Mem} (hs : Sub F F') {t : Ty} {us : List Value} {xs : List t.T} (h : RepCs F t us xs) : RepCs F' t us xs := ⟨h.1, fun i hi => (h.2 i hi).mono hs⟩
/-- what stays fixed while a call runs: blocks that are not its own, the loops over functions around it, world and memory at the start -/
structure Bx where
  Z : Nat → Prop
  LC : Nat → Option LInfo
  w0 : World
  F0 : Mem
/-- equality of data -/
def decT : (t : Ty) → DecidableEq t.T
  | .int _ => inferInstanceAs (DecidableEq Int)
  | .bool => inferInstanceAs (DecidableEq Bool)
  | .str => inferInstanceAs (DecidableEq (List UInt8))
  | .sl e => have := decT e; inferInstanceAs (DecidableEq (List e.T))
  | .arr _ e => have := decT e; inferInstanceAs (DecidableEq (List e.T))
  | .unit => inferInstanceAs (DecidableEq Unit)
  | .pair a b => have := decT a; have := decT b; inferInstanceAs (DecidableEq (a.T × b.T))
  | .st b => decT b
  | .tup b => decT b
instance (t : Ty) : DecidableEq t.T := decT t
/-- plain data as cells, and as a value -/
def encC : (t : Ty) → t.T → List Value
  | .int k, n => [.int k n]
  | .bool, b => [.bool b]
  | .str, s => [.string ⟨s.toArray⟩]
  | .sl _, _ => []
  | .arr _ e, xs => List.flatMap (encC e) xs
  | .unit, _ => []
  | .pair a b, x => encC a x.1 ++ encC b x.2
  | .st b, x => encC b x
  | .tup _, _ => []
def encV (t : Ty) (x : t.T) : Value := bif t.cell then (encC t x).headD undef else .agg (encC t x).toArray
/-- entries of a map read as a list of data -/
def MapR (F : Mem) (k v : Ty) (ls : List (k.T × Value)) (l : List (k.T × v.T)) : Prop := ls.length = l.length ∧ ∀ (j : Nat) (p : k.T × Value) (q : k.T × v.T), ls[j]? = some p → l[j]? = some q → p.1 = q.1 ∧ RepV F v p.2 q.2
theorem MapR.mono {F F' : Mem} (hs : Sub F F') {k v : Ty} {ls : List (k.T × Value)} {l : List (k.T × v.T)} (h : MapR F k v ls l) : MapR F' k v ls l := ⟨h.1, fun j p q hp hq => ⟨(h.2 j p q hp hq).1, (h.2 j p q hp hq).2.mono hs⟩⟩
def lstate (j : Option Code) : LoopState := if j.isNone then .ready else .done
/-- an object in memory -/
def ObR (B : Bx) (ρ : Nat → Value) (F : Mem) (w : World) (h : Nat) (r : Value) : Ob → Prop
  | .row e t xs => ∃ us, w.ownsRow 0 e t.sz r xs.length us ∧ RepCs F t us xs
  | .cells cs => ∃ b arr e, r = .pointer (some ⟨b, 0, none⟩) ∧ w.heap[b]? = some (.cells arr e (0, 0)) ∧ arr.size = cs.length ∧ (∀ u ∈ arr.toList, u.oneCell' = true) ∧ ∀ j (c : AV), cs[j]? = some c → RepA ρ F c (arr.getD j undef)
  | .map k v l => ∃ b ls, r = .map (some b) ∧ MapAt (encV k) w b ls ∧ MapR F k v ls l ∧ ∀ q ∈ l, WF k q.1 ∧ WF v q.2
  | .lp jump => ∃ b info tmps D, r = .func (.yield b) #[] #[] ∧ B.LC h = some info ∧ w.heap[b]? = some (.loop { state := lstate jump, pending := jump, fn := info.fn, tmps := tmps, params := info.ps.toArray, assign := info.asg, body := info.body, defers := D }) ∧
      tmps.size = info.nt ∧ ∀ t, RepA ρ F (info.e t) (tmps.getD t undef)
  | .dfr => ∃ b, r = .chan (some b) ∧ w.heap[b]? = some (.deferred (some []))
end Go.Proofs.Ytohglckebkgbpaa
