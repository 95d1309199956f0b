/-
  The state that the evaluator stands for: memory that stays as it is, and the objects that the call owns.
-/
import Derived.Test.YtohglckebkgbpaaVc
namespace Go.Proofs.Ytohglckebkgbpaa
open Go.RowKit

def zeroVB (t : Ty) (z : Value) : Bool := match t, z with
  | .st b, .agg cs => (match zeroB b cs.toList with | some [] => true | _ => false)
  | .st _, _ => false
  | .unit, _ => false
  | .pair _ _, _ => false
  | .tup _, _ => false
  | .int k, .int k' n => decide (k = k') && decide (n = 0)
  | .bool, .bool b => !b
  | .str, .string s => s.data.toList.isEmpty
  | .sl _, .slice none 0 0 => true
  | _, _ => false
def fieldsB (T : Tab) : List Field → Ty → Nat → Bool
  | [], .unit, _ => true
  | f :: fs, .pair a r, off => decide (T.ty f.type = some a) && Nat.beq f.offset off && fieldsB T fs r (off + a.sz)
  | _, _, _ => false
def tiB (P : Program) (T : Tab) (i : TypeId) (ti : TI) : Bool :=
  (match P.info? i with
  | some inf => Nat.beq inf.size ti.ty.sz && Nat.beq inf.bytes ti.bytes && (match inf.zero with | some z => zeroVB ti.ty z | none => false)
  | none => false) &&
  (match P.underlying i, ti.ty with
  | some (.int k), .int k' => decide (k = k')
  | some .bool, .bool => true
  | some .string, .str => true
  | some (.slice e), .sl t => Nat.beq e ti.elem && decide (T.ty e = some t) && Nat.blt 0 t.sz
  | some (.struct fs), .st b => fieldsB T fs.toList b 0
  | _, _ => false)
def tabB (P : Program) (T : Tab) : Bool := T.tys.all fun p => tiB P T p.1 p.2

theorem look_mem {α : Type} : ∀ {l : List (Nat × α)} {i : Nat} {x : α}, look l i = some x → (i, x) ∈ l
  | [], _, _, h => by simp [look] at h
  | p :: r, i, x, h => by
    simp only [look] at h
    cases hb : Nat.beq p.1 i with
    | true =>
      rw [hb] at h
      have e1 : p.1 = i := Nat.eq_of_beq_eq_true hb
      have e2 : p.2 = x := by simpa using h
      subst e1; subst e2; simp
    | false => rw [hb] at h; exact List.mem_cons_of_mem _ (look_mem h)
theorem tab_ti {P : Program} {T : Tab} (hT : tabB P T = true) {i : TypeId} {ti : TI} (h : look T.tys i = some ti) : tiB P T i ti = true := by
  have := List.all_eq_true.1 hT _ (look_mem h); exact this
theorem ty_look {T : Tab} {i : TypeId} {t : Ty} (h : T.ty i = some t) : ∃ ti, look T.tys i = some ti ∧ ti.ty = t := by
  unfold Tab.ty at h
  cases hl : look T.tys i with
  | none => rw [hl] at h; simp at h
  | some ti => rw [hl] at h; exact ⟨ti, rfl, by simpa using h⟩
theorem ti_info {P : Program} {T : Tab} {i : TypeId} {ti : TI} (h : tiB P T i ti = true) : ∃ inf z, P.info? i = some inf ∧ inf.size = ti.ty.sz ∧ inf.bytes = ti.bytes ∧ inf.zero = some z ∧ zeroVB ti.ty z = true := by
  unfold tiB at h
  rw [Bool.and_eq_true] at h
  have h1 := h.1
  cases hi : P.info? i with
  | none => rw [hi] at h1; simp at h1
  | some inf =>
    rw [hi] at h1
    simp only [Bool.and_eq_true] at h1
    obtain ⟨⟨e1, e2⟩, e3⟩ := h1
    cases hz : inf.zero with
    | none => rw [hz] at e3; simp at e3
    | some z => rw [hz] at e3; exact ⟨inf, z, rfl, Nat.eq_of_beq_eq_true e1, Nat.eq_of_beq_eq_true e2, hz, e3⟩
theorem ti_slice {P : Program} {T : Tab} {i : TypeId} {ti : TI} {t : Ty} (h : tiB P T i ti = true) (ht : ti.ty = .sl t) : P.underlying i = some (.slice ti.elem) ∧ T.ty ti.elem = some t := by
  unfold tiB at h
  rw [Bool.and_eq_true] at h
  have h1 := h.2
  rw [ht] at h1
  cases hu : P.underlying i with
  | none => rw [hu] at h1; simp at h1
  | some d =>
    rw [hu] at h1
    cases d <;> simp at h1
    obtain ⟨⟨e1, e2⟩, _⟩ := h1
    subst e1
    exact ⟨rfl, e2⟩
theorem ti_pos {P : Program} {T : Tab} {i : TypeId} {ti : TI} {t : Ty} (h : tiB P T i ti = true) (ht : ti.ty = .sl t) : 0 < t.sz := by
  unfold tiB at h
  rw [Bool.and_eq_true] at h
  have h1 := h.2
  rw [ht] at h1
  cases hu : P.underlying i with
  | none => rw [hu] at h1; simp at h1
  | some d =>
    rw [hu] at h1
    cases d <;> simp at h1
    exact h1.2
theorem ti_struct {P : Program} {T : Tab} {i : TypeId} {ti : TI} {b : Ty} (h : tiB P T i ti = true) (ht : ti.ty = .st b) : ∃ fs, P.underlying i = some (.struct fs) ∧ fieldsB T fs.toList b 0 = true := by
  unfold tiB at h
  rw [Bool.and_eq_true] at h
  have h1 := h.2
  rw [ht] at h1
  cases hu : P.underlying i with
  | none => rw [hu] at h1; simp at h1
  | some d =>
    rw [hu] at h1
    cases d <;> simp at h1
    exact ⟨_, rfl, h1⟩
def aggD : TypeDesc → Bool
  | .struct _ => true
  | .array _ _ => true
  | _ => false
/-- a type of one cell is no struct and no array -/
theorem ti_cell {P : Program} {T : Tab} {i : TypeId} {ti : TI} (h : tiB P T i ti = true) (ht : ti.ty.cell = true) : ∃ d, P.underlying i = some d ∧ aggD d = false := by
  unfold tiB at h
  rw [Bool.and_eq_true] at h
  have h1 := h.2
  cases hu : P.underlying i with
  | none => rw [hu] at h1; simp at h1
  | some d =>
    rw [hu] at h1
    cases d <;> cases ht' : ti.ty <;> rw [ht'] at h1 ht <;> simp [Ty.cell] at h1 ht <;> exact ⟨_, rfl, rfl⟩

theorem castT_some {a b : Ty} {x : a.T} {y : b.T} (h : castT a b x = some y) : ∃ e : a = b, e ▸ x = y := by
  unfold castT at h
  split at h
  · rename_i e; exact ⟨e, by simpa using h⟩
  · simp at h
theorem castT_self (a : Ty) (x : a.T) : castT a a x = some x := by simp [castT]
theorem as_rep {ρ : Nat → Value} {F : Mem} {t : Ty} {a : AV} {v : Value} {x : t.T} (h : a.as t = some x) (r : RepA ρ F a v) : RepV F t v x := by
  cases a with
  | d t' y => obtain ⟨rfl, rfl⟩ := castT_some h; exact r
  | nil =>
    cases t with
    | sl e =>
      simp only [AV.as, Option.some.injEq] at h
      subst h
      rw [show v = _ from r]
      exact ⟨none, 0, rfl, by simp, by simp [maxLen], fun i hi => absurd hi (by simp)⟩
    | _ => simp [AV.as] at h
  | _ => simp [AV.as] at h

theorem inK0 (k : IntKind) : inK k 0 := by unfold inK lo hi; cases k <;> decide
theorem str0 {s : ByteArray} (h : s.data.toList.isEmpty = true) : s = ⟨([] : List UInt8).toArray⟩ := by
  cases s with
  | mk d => simp at h; simp [h]
/-- zero values read as zero -/
theorem zeroB_rep {F : Mem} : ∀ {t : Ty} {us r : List Value}, zeroB t us = some r → ∃ u, us = u ++ r ∧ RepC F t u t.d
  | .unit, us, r, h => by simp only [zeroB, Option.some.injEq] at h; subst h; exact ⟨[], rfl, rfl⟩
  | .pair a b, us, r, h => by
    simp only [zeroB] at h
    cases h1 : zeroB a us with
    | none => rw [h1] at h; simp at h
    | some m =>
      rw [h1] at h
      obtain ⟨u1, rfl, k1⟩ := zeroB_rep (F := F) h1
      obtain ⟨u2, rfl, k2⟩ := zeroB_rep (F := F) h
      exact ⟨u1 ++ u2, by simp, u1, u2, rfl, k1, k2⟩
  | .st b, us, r, h => zeroB_rep (t := b) h
  | .int k, us, r, h => by
    cases us with
    | nil => simp [zeroB] at h
    | cons u us =>
      cases u <;> try (simp [zeroB] at h; done)
      rename_i k' n
      by_cases hn : n = 0
      · subst hn
        by_cases hk : k = k'
        · subst hk
          simp only [zeroB, if_true, Option.some.injEq] at h
          subst h
          exact ⟨[_], rfl, rfl, inK0 k⟩
        · simp [zeroB, hk] at h
      · exfalso
        unfold zeroB at h
        split at h <;> simp_all
  | .bool, us, r, h => by
    cases us with
    | nil => simp [zeroB] at h
    | cons u us =>
      cases u <;> try (simp [zeroB] at h; done)
      rename_i b
      cases b
      · simp only [zeroB, Option.some.injEq] at h
        subst h
        exact ⟨[_], rfl, rfl⟩
      · simp [zeroB] at h
  | .str, us, r, h => by
    cases us with
    | nil => simp [zeroB] at h
    | cons u us =>
      cases u <;> try (simp [zeroB] at h; done)
      rename_i s
      cases hs : s.data.toList.isEmpty with
      | false => simp only [zeroB, hs, cond_false] at h; simp at h
      | true =>
        simp only [zeroB, hs, cond_true, Option.some.injEq] at h
        subst h
        exact ⟨[_], rfl, by rw [str0 hs]; rfl, Nat.zero_le _⟩
  | .sl e, us, r, h => by
    cases us with
    | nil => simp [zeroB] at h
    | cons u us =>
      unfold zeroB at h
      split at h <;> try (simp at h; done)
      all_goals (try (simp_all; done))
      rename_i heq
      simp only [Option.some.injEq] at h
      subst h
      cases heq
      exact ⟨[_], rfl, none, 0, rfl, Nat.zero_le _, by simp [maxLen], fun i hi => absurd hi (Nat.not_lt_zero _)⟩
  | .tup _, us, r, h => by simp [zeroB] at h
theorem zeroVB_rep {F : Mem} {t : Ty} {z : Value} (h : zeroVB t z = true) : RepC F t z.cells.toList t.d ∧ z.cells.size = t.sz := by
  have key : RepC F t z.cells.toList t.d := by
    cases t with
    | st b =>
      cases z <;> try (simp [zeroVB] at h; done)
      rename_i cs
      simp only [zeroVB] at h
      split at h
      · rename_i hz
        obtain ⟨u, hu, k⟩ := zeroB_rep (F := F) hz
        rw [List.append_nil] at hu
        show RepC F b cs.toList b.d
        rw [hu]
        exact k
      · simp at h
    | int k =>
      cases z <;> try (simp [zeroVB] at h; done)
      simp only [zeroVB, Bool.and_eq_true, decide_eq_true_eq] at h
      obtain ⟨rfl, rfl⟩ := h
      exact ⟨rfl, inK0 k⟩
    | bool =>
      cases z <;> try (simp [zeroVB] at h; done)
      rename_i b
      cases b
      · exact rfl
      · simp [zeroVB] at h
    | str =>
      cases z <;> try (simp [zeroVB] at h; done)
      rename_i s
      simp only [zeroVB] at h
      refine ⟨?_, Nat.zero_le _⟩
      rw [str0 h]
      rfl
    | sl e =>
      unfold zeroVB at h
      split at h <;> try (simp_all; done)
      exact ⟨none, 0, rfl, Nat.zero_le _, by simp [maxLen], fun i hi => absurd hi (Nat.not_lt_zero _)⟩
    | _ => simp [zeroVB] at h
  exact ⟨key, by simpa using key.len⟩

/-- memory and owned objects, without the slots -/
structure St (w0 : World) (F0 : Mem) (ρ : Nat → Value) (F : Mem) (M : Mm) (w : World) : Prop where
  below : Below w0.heap.size w0 w
  sub : Sub F w.cell?
  sub0 : Sub F0 F
  new : ∀ a u, F a = some u → F0 a = none → w0.heap.size ≤ a.block
  obs : ∀ h o, M h = some o → ObR w0.heap.size ρ F w (ρ h) o
  apart : ∀ h o b, M h = some o → blk (ρ h) = some b → ∀ a u, F a = some u → a.block ≠ b
  inj : ∀ h h' o o' b, M h = some o → M h' = some o' → blk (ρ h) = some b → blk (ρ h') = some b → h = h'

theorem blk_own {v : Value} {n0 e size n : Nat} {xs : List Value} {w : World} (h : w.ownsRow n0 e size v n xs) : blk v = v.ownBlock := by
  rcases h.2 with ⟨rfl, _⟩ | ⟨g, cap, cur, rfl, _⟩ <;> rfl
theorem ObR.lt {n0 : Nat} {ρ : Nat → Value} {F : Mem} {w : World} {r : Value} {o : Ob} (h : ObR n0 ρ F w r o) : ∀ b, blk r = some b → n0 ≤ b ∧ b < w.heap.size := by
  intro b hb
  cases o with
  | row e t xs =>
    obtain ⟨us, h1, _⟩ := h
    rw [blk_own h1] at hb
    exact h1.lt b hb
  | cells cs =>
    obtain ⟨b', arr, e, rfl, h1, h2, _⟩ := h
    simp only [blk, Option.some.injEq] at hb
    subst hb
    exact ⟨h1, (Array.getElem?_eq_some_iff.1 h2).1⟩
theorem ObR.kept {n0 : Nat} {ρ : Nat → Value} {F F' : Mem} {w w' : World} {row : Option Nat} {r : Value} {o : Ob} (hs : Sub F F') (hg : w.grownBy w' row) (hne : blk r = none ∨ blk r ≠ row) (h : ObR n0 ρ F w r o) : ObR n0 ρ F' w' r o := by
  cases o with
  | row e t xs =>
    obtain ⟨us, h1, h2⟩ := h
    exact ⟨us, h1.kept hg (by rwa [blk_own h1] at hne), h2.mono hs⟩
  | cells cs =>
    obtain ⟨b, arr, e, rfl, h1, h2, h3, h4, h5⟩ := h
    refine ⟨b, arr, e, rfl, h1, ?_, h3, h4, fun j c hc => (h5 j c hc).mono hs⟩
    rw [hg.block b (Array.getElem?_eq_some_iff.1 h2).1 (by simpa [blk] using hne)]
    exact h2
theorem ObR.other {n0 : Nat} {ρ ρ' : Nat → Value} {F : Mem} {w : World} {r : Value} {o : Ob} {h : Nat} (hρ : ∀ k, k ≠ h → ρ' k = ρ k) (hu : o.uses h = false) (k : ObR n0 ρ F w r o) : ObR n0 ρ' F w r o := by
  cases o with
  | row e t xs => exact k
  | cells cs =>
    obtain ⟨b, arr, e, rfl, h1, h2, h3, h4, h5⟩ := k
    refine ⟨b, arr, e, rfl, h1, h2, h3, h4, fun j c hc => ?_⟩
    refine (h5 j c hc).other hρ ?_
    simp only [Ob.uses, List.any_eq_false] at hu
    simpa using hu c (List.mem_of_getElem? hc)
theorem cell_grown {w w' : World} {row : Option Nat} (hg : w.grownBy w' row) {F : Mem} (hs : Sub F w.cell?) (hF : ∀ b, row = some b → ∀ a u, F a = some u → a.block ≠ b) : Sub F w'.cell? := by
  intro a u hu
  have h1 := hs a u hu
  refine hg.cell h1 fun e => ?_
  exact hF _ e.symm a u hu rfl

section
variable {w0 : World} {F0 : Mem} {ρ : Nat → Value} {F : Mem} {M : Mm} {w : World}
/-- the world grows; the object whose row may have been written is given up -/
theorem St.grow {w' : World} {row : Option Nat} {M' : Mm} (s : St w0 F0 ρ F M w) (hg : w.grownBy w' row) (hr : ∀ b, row = some b → w0.heap.size ≤ b ∧ ∀ a u, F a = some u → a.block ≠ b)
    (hM : ∀ h o, M' h = some o → M h = some o ∧ (row = none ∨ blk (ρ h) ≠ row)) : St w0 F0 ρ F M' w' where
  below := s.below.grown hg s.below.size fun k hk => (hr k hk).1
  sub := cell_grown hg s.sub fun b hb => (hr b hb).2
  sub0 := s.sub0
  new := s.new
  obs h o ho := by
    obtain ⟨h1, h2⟩ := hM h o ho
    refine (s.obs h o h1).kept (fun _ _ e => e) hg ?_
    rcases h2 with h2 | h2
    · subst h2
      cases hb : blk (ρ h) <;> simp
    · exact .inr h2
  apart h o b ho := s.apart h o b (hM h o ho).1
  inj h h' o o' b ho ho' := s.inj h h' o o' b (hM h o ho).1 (hM h' o' ho').1
/-- cells become memory that stays as it is -/
theorem St.fact (s : St w0 F0 ρ F M w) (b : Nat) (hb : w0.heap.size ≤ b) (hM : ∀ h o, M h = some o → blk (ρ h) ≠ some b) :
    St w0 F0 ρ (fun a => if a.block = b then w.cell? a else F a) M w ∧ Sub F (fun a => if a.block = b then w.cell? a else F a) := by
  have hs : Sub F (fun a => if a.block = b then w.cell? a else F a) := by
    intro a u hu
    dsimp only
    split
    · exact s.sub a u hu
    · exact hu
  refine ⟨⟨s.below, ?_, s.sub0.trans hs, ?_, ?_, ?_, s.inj⟩, hs⟩
  · intro a u hu
    by_cases e : a.block = b
    · simpa [e] using hu
    · exact s.sub a u (by simpa [e] using hu)
  · intro a u hu h0
    by_cases e : a.block = b
    · omega
    · exact s.new a u (by simpa [e] using hu) h0
  · intro h o ho
    exact (s.obs h o ho).kept hs (row := none) ⟨rfl, rfl, rfl, Nat.le_refl _, fun _ _ _ => rfl⟩ (by cases blk (ρ h) <;> simp)
  · intro h o b' ho hb' a u hu
    by_cases e : a.block = b
    · intro e'
      exact hM h o ho (by rw [hb', ← e', e])
    · exact s.apart h o b' ho hb' a u (by simpa [e] using hu)
/-- a new object -/
theorem St.add (s : St w0 F0 ρ F M w) (d : Nat) (r : Value) (o : Ob) (hd : M d = none) (hu : ∀ h o, M h = some o → o.uses d = false) (ho : ObR w0.heap.size (upd ρ d r) F w r o)
    (hb : ∀ b, blk r = some b → (∀ a u, F a = some u → a.block ≠ b) ∧ ∀ h o, M h = some o → blk (ρ h) ≠ some b) : St w0 F0 (upd ρ d r) F (upd M d (some o)) w := by
  have e1 : ∀ k, k ≠ d → upd ρ d r k = ρ k := fun k hk => by
    have : Nat.beq k d = false := by cases hq : Nat.beq k d; rfl; exact absurd (Nat.eq_of_beq_eq_true hq) hk
    simp [upd, this]
  have e2 : ∀ k, k ≠ d → upd M d (some o) k = M k := fun k hk => by
    have : Nat.beq k d = false := by cases hq : Nat.beq k d; rfl; exact absurd (Nat.eq_of_beq_eq_true hq) hk
    simp [upd, this]
  have e3 : upd ρ d r d = r := by simp [upd, Nat.beq_refl]
  have e4 : upd M d (some o) d = some o := by simp [upd, Nat.beq_refl]
  refine ⟨s.below, s.sub, s.sub0, s.new, ?_, ?_, ?_⟩
  · intro h o' ho'
    by_cases hh : h = d
    · subst hh
      rw [e4] at ho'
      cases ho'
      rw [e3]
      exact ho
    · rw [e2 h hh] at ho'
      rw [e1 h hh]
      exact (s.obs h o' ho').other e1 (hu h o' ho')
  · intro h o' b ho' hb'
    by_cases hh : h = d
    · subst hh
      rw [e3] at hb'
      exact (hb b hb').1
    · rw [e2 h hh] at ho'
      rw [e1 h hh] at hb'
      exact s.apart h o' b ho' hb'
  · intro h h' o1 o2 b h1 h2 b1 b2
    by_cases hh : h = d
    · by_cases hh' : h' = d
      · rw [hh, hh']
      · subst hh
        rw [e3] at b1
        rw [e2 h' hh'] at h2
        rw [e1 h' hh'] at b2
        exact absurd b2 ((hb b b1).2 h' o2 h2)
    · by_cases hh' : h' = d
      · subst hh'
        rw [e3] at b2
        rw [e2 h hh] at h1
        rw [e1 h hh] at b1
        exact absurd b1 ((hb b b2).2 h o1 h1)
      · rw [e2 h hh] at h1
        rw [e1 h hh] at b1
        rw [e2 h' hh'] at h2
        rw [e1 h' hh'] at b2
        exact s.inj h h' o1 o2 b h1 h2 b1 b2
/-- an object is written in place -/
theorem St.put {w' : World} (s : St w0 F0 ρ F M w) (h : Nat) (o o' : Ob) (b : Nat) (ho : M h = some o) (hb : blk (ρ h) = some b) (hg : w.grownBy w' (some b)) (hR : ObR w0.heap.size ρ F w' (ρ h) o') : St w0 F0 ρ F (upd M h (some o')) w' := by
  have e2 : ∀ k, k ≠ h → upd M h (some o') k = M k := fun k hk => by
    have : Nat.beq k h = false := by cases hq : Nat.beq k h; rfl; exact absurd (Nat.eq_of_beq_eq_true hq) hk
    simp [upd, this]
  have e4 : upd M h (some o') h = some o' := by simp [upd, Nat.beq_refl]
  have n0 := ((s.obs h o ho).lt b hb).1
  have old : ∀ k ob, upd M h (some o') k = some ob → ∃ ob', M k = some ob' := fun k ob hk => by
    by_cases hh : k = h
    · subst hh; exact ⟨o, ho⟩
    · rw [e2 k hh] at hk; exact ⟨ob, hk⟩
  refine ⟨s.below.grown hg s.below.size fun k hk => by cases hk; exact n0, cell_grown hg s.sub fun b' hb' => by cases hb'; exact s.apart h o b ho hb, s.sub0, s.new, ?_, ?_, ?_⟩
  · intro k ob hk
    by_cases hh : k = h
    · subst hh
      rw [e4] at hk
      cases hk
      exact hR
    · rw [e2 k hh] at hk
      refine (s.obs k ob hk).kept (fun _ _ e => e) hg ?_
      cases hq : blk (ρ k) with
      | none => exact .inl rfl
      | some c =>
        refine .inr fun e => hh ?_
        cases e
        exact s.inj k h ob o b hk ho hq hb
  · intro k ob c hk hc
    obtain ⟨ob', h'⟩ := old k ob hk
    exact s.apart k ob' c h' hc
  · intro k k' ob ob' c hk hk' hc hc'
    obtain ⟨o1, h1⟩ := old k ob hk
    obtain ⟨o2, h2⟩ := old k' ob' hk'
    exact s.inj k k' o1 o2 c h1 h2 hc hc'
/-- objects are given up -/
theorem St.drop {M' : Mm} (s : St w0 F0 ρ F M w) (hM : ∀ h o, M' h = some o → M h = some o) : St w0 F0 ρ F M' w :=
  s.grow (row := none) ⟨rfl, rfl, rfl, Nat.le_refl _, fun _ _ _ => rfl⟩ (by simp) fun h o ho => ⟨hM h o ho, .inl rfl⟩
end
end Go.Proofs.Ytohglckebkgbpaa
