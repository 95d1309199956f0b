/-
  What the evaluator says of an operation is so: all operations together.
-/
import Derived.Test.YtohglckebkgbpaaMt
namespace Go.Proofs.Ytohglckebkgbpaa
open Go.RowKit

def allocB (own : List Nat) (d : Nat) : Op → Bool
  | .buildSlice _ _ _ => memB own d
  | .box _ _ => memB own d
  | .alloc _ => memB own d
  | .makeSlice _ _ _ => true
  | .call { callee := .builtin .append, .. } => true
  | _ => false
/-- an object's name that nothing bears yet -/
def Fresh (M : Mm) (evf : Operand → AV) (d : Nat) : Prop := M d = none ∧ (∀ h o, M h = some o → o.uses d = false) ∧ ∀ x, (evf x).uses d = false

section
variable {P : Program} {T : Tab} {w0 : World} {F0 : Mem} {ρ : Nat → Value} {F : Mem} {M : Mm} {w : World} {o : Oper} {ρ0 : Operand → Value} {d : Nat} {evf : Operand → AV} {own : List Nat}
theorem bif_some {α : Type} {c : Bool} {x : Option α} {y : α} (h : (bif c then x else none) = some y) : c = true ∧ x = some y := by cases c <;> simp_all
theorem out1_some {p : Option (Option Prop × AV)} {out : Out} (h : out1 M p = some out) : ∃ q, p = some q ∧ out = ⟨q.1, q.2, M⟩ := by
  cases p with
  | none => simp [out1] at h
  | some q => simp only [out1, Option.some.injEq] at h; exact ⟨q, rfl, h.symm⟩
theorem out0_some {p : Option AV} {out : Out} (h : out0 M p = some out) : ∃ q, p = some q ∧ out = ⟨none, q, M⟩ := by
  cases p with
  | none => simp [out0] at h
  | some q => simp only [out0, Option.some.injEq] at h; exact ⟨q, rfl, h.symm⟩
theorem blt_lt {a b : Nat} (h : Nat.blt a b = true) : a < b := by simp [Nat.blt] at h; omega
theorem OpOk.cast {d d' : Option Nat} {val : AV} {M' : Mm} (e : d = d') (h : OpOk P w0 F0 ρ F w o ρ0 d val M') : OpOk P w0 F0 ρ F w o ρ0 d' val M' := e ▸ h
theorem op_sound (hT : tabB P T = true) (st : St w0 F0 ρ F M w) (hev : ∀ x, RepA ρ F (evf x) (ρ0 x)) (hfr : allocB own d o.op = true → Fresh M evf d) {out : Out} (h : opA T own d o.type o.op evf M = some out) (hob : ∀ p, out.ob = some p → p) :
    OpOk P w0 F0 ρ F w o ρ0 (bif allocB own d o.op then some d else none) out.val out.M := by
  cases hop : o.op with
  | move x =>
    rw [hop] at h
    simp only [opA, Option.some.injEq] at h
    subst h
    exact s_move (T := T) st hev hop
  | assign x =>
    rw [hop] at h
    simp only [opA, Option.some.injEq] at h
    subst h
    exact s_assign (T := T) st hev hop
  | pick c a b =>
    rw [hop] at h
    simp only [opA] at h
    split at h <;> try (simp at h; done)
    rename_i g hg
    obtain ⟨q, hq, rfl⟩ := out1_some h
    exact s_pick st hev hop hg hq hob
  | binOp op t x y t2 =>
    rw [hop] at h
    simp only [opA] at h
    obtain ⟨q, hq, rfl⟩ := out1_some h
    exact s_bin hT st hev hop hq hob
  | unOp op t x =>
    rw [hop] at h
    simp only [opA] at h
    obtain ⟨q, hq, rfl⟩ := out1_some h
    exact s_un st hev hop hq hob
  | convert s t x =>
    rw [hop] at h
    simp only [opA] at h
    split at h <;> try (simp at h; done)
    rename_i σ τ h1 h2
    obtain ⟨q, hq, rfl⟩ := out1_some h
    exact s_conv hT st hev hop h1 h2 hq hob
  | load t x =>
    rw [hop] at h
    simp only [opA] at h
    split at h <;> try (simp at h; done)
    rename_i τ h1
    obtain ⟨q, hq, rfl⟩ := out0_some h
    exact s_load hT st hev hop h1 hq
  | store t p x =>
    rw [hop] at h
    simp only [opA] at h
    split at h <;> try (simp at h; done)
    rename_i τ h1
    split at h <;> simp only [Option.some.injEq, reduceCtorEq] at h
    rename_i M' h2
    subst h
    exact s_store hT st hev hop h1 h2
  | fieldAddr s x k =>
    rw [hop] at h
    simp only [opA] at h
    split at h <;> try (simp at h; done)
    rename_i b h1
    split at h <;> try (simp at h; done)
    rename_i t h2
    cases hz : Nat.beq t.sz 0 with
    | true => rw [hz] at h; simp at h
    | false =>
      rw [hz] at h
      simp only [cond_false] at h
      split at h <;> try (simp at h; done)
      · rename_i b' y h3
        split at h <;> try (simp at h; done)
        rename_i e
        subst e
        obtain ⟨q, hq, rfl⟩ := out0_some h
        exact s_fieldAddr hT st hev hop h1 h2 hz (.inl ⟨y, h3, hq⟩)
      · rename_i hh off h3
        simp only [Option.some.injEq] at h
        subst h
        exact s_fieldAddr hT st hev hop h1 h2 hz (.inr ⟨hh, off, h3, rfl⟩)
  | field s x k =>
    rw [hop] at h
    simp only [opA] at h
    split at h <;> try (simp at h; done)
    rename_i b b' y h1 h2
    split at h <;> try (simp at h; done)
    rename_i e
    subst e
    obtain ⟨q, hq, rfl⟩ := out0_some h
    exact s_field hT st hev hop h1 h2 hq
  | indexAddr t x i =>
    rw [hop] at h
    simp only [opA] at h
    split at h <;> try (simp at h; done)
    rename_i τ k n h1 h2
    split at h <;> try (simp at h; done)
    · rename_i τ' xs h3
      split at h <;> simp only [Option.some.injEq, reduceCtorEq] at h
      rename_i e
      subst e
      subst h
      exact s_indexAddr hT st hev hop h1 h2 (.inl ⟨xs, h3, hob _ rfl, rfl⟩)
    · rename_i hh h3
      split at h <;> try (simp at h; done)
      rename_i E τ' xs h4
      split at h <;> simp only [Option.some.injEq, reduceCtorEq] at h
      rename_i e
      subst e
      subst h
      exact s_indexAddr hT st hev hop h1 h2 (.inr ⟨hh, E, xs, h3, h4, hob _ rfl, rfl⟩)
  | index t x i =>
    rw [hop] at h
    simp only [opA] at h
    split at h <;> simp only [Option.some.injEq, reduceCtorEq] at h
    rename_i s k n h1 h2 h3
    subst h
    exact s_index hT st hev hop h1 h2 h3 (hob _ rfl)
  | slice t x l hh m =>
    rw [hop] at h
    simp only [opA] at h
    split at h <;> try (simp at h; done)
    rename_i τ h1
    split at h <;> try (simp at h; done)
    rename_i l' h' m' h2 h3 h4
    obtain ⟨q, hq, rfl⟩ := out1_some h
    exact s_slice hT st hev hop h1 h2 h3 h4 hq hob
  | build t ps =>
    rw [hop] at h
    simp only [opA] at h
    split at h <;> try (simp at h; done)
    rename_i b h1
    split at h <;> simp only [Option.some.injEq, reduceCtorEq] at h
    rename_i x h2
    subst h
    exact s_build hT st hev hop h1 h2
  | buildSlice t n ps =>
    rw [hop] at h
    simp only [opA] at h
    split at h <;> try (simp at h; done)
    rename_i τ by_ e h1
    obtain ⟨c, h⟩ := bif_some h
    rw [Bool.and_eq_true] at c
    split at h <;> try (simp at h; done)
    rename_i xs h2
    refine OpOk.cast (d := bif memB own d then some d else none) rfl <| s_buildSlice (d := d) (own := own) hT st hev hop h1 (Nat.le_of_ble_eq_true c.1) (blt_lt c.2) h2 (fun hb => ?_) ?_
    · have := hfr (by rw [hop]; exact hb)
      exact ⟨this.1, this.2.1⟩
    · revert h
      cases memB own d <;> simp only [cond_true, cond_false, Option.some.injEq] <;> exact fun h => h.symm
  | makeSlice t l c =>
    rw [hop] at h
    simp only [opA] at h
    split at h <;> try (simp at h; done)
    rename_i τ by_ e h1
    split at h <;> try (simp at h; done)
    rename_i te n m h2 h3 h4
    obtain ⟨c, h⟩ := bif_some h
    rw [Bool.and_eq_true] at c
    simp only [Option.some.injEq] at h
    subst h
    have := hfr (by rw [hop]; rfl)
    exact OpOk.cast rfl <| s_makeSlice hT st hev hop h1 h2 h3 h4 (blt_lt c.1) (blt_lt c.2) (hob _ rfl) ⟨this.1, this.2.1⟩
  | box t x =>
    rw [hop] at h
    simp only [opA] at h
    split at h <;> try (simp at h; done)
    rename_i τ h1
    cases hb : memB own d with
    | false =>
      rw [hb] at h
      simp only [cond_false] at h
      split at h <;> simp only [Option.some.injEq, reduceCtorEq] at h
      rename_i y h2
      subst h
      exact s_box_kp hT st hev hop h1 h2
    | true =>
      rw [hb] at h
      simp only [cond_true] at h
      have hf := hfr (by rw [hop]; exact hb)
      split at h
      · rename_i b
        split at h <;> simp only [Option.some.injEq, reduceCtorEq] at h
        rename_i y h2
        subst h
        obtain ⟨ti, hl, he⟩ := ty_look h1
        have hr := (as_rep h2 (hev x)).cells rfl
        have hr' : RepC F b (ρ0 x).cells.toList y := hr
        obtain ⟨l1, l2⟩ := leafA_rep (ρ := ρ) hr'
        exact OpOk.cast (by simp [allocB, hb]) <| s_box_own st hop (by rw [l1]; simp) hr'.one (fun j c hj => ⟨l2 j c hj, leafA_uses (List.mem_of_getElem? hj)⟩) ⟨hf.1, hf.2.1⟩
      · obtain ⟨c, h⟩ := bif_some h
        rw [Bool.and_eq_true] at c
        simp only [Option.some.injEq] at h
        subst h
        obtain ⟨q1, q2⟩ := cell_one st c.2 (hev x)
        refine OpOk.cast (by simp [allocB, hb]) <| s_box_own st hop (by rw [q1]; rfl) (by rw [q1]; simpa using q2) (fun j c hj => ?_) ⟨hf.1, hf.2.1⟩
        match j, hj with
        | 0, hj => simp at hj; subst hj; rw [q1]; exact ⟨hev x, hf.2.2 x⟩
  | alloc t =>
    rw [hop] at h
    simp only [opA] at h
    split at h <;> try (simp at h; done)
    rename_i τ h1
    refine OpOk.cast (d := bif memB own d then some d else none) rfl <| s_alloc (d := d) (own := own) hT st hop h1 (fun hb => ?_) ?_
    · have := hfr (by rw [hop]; exact hb)
      exact ⟨this.1, this.2.1⟩
    · revert h
      cases memB own d <;> simp only [cond_true, cond_false, Option.some.injEq] <;> exact fun h => h.symm
  | makeFunc fn first caps =>
    rw [hop] at h
    cases fn <;> try (simp [opA] at h; done)
    rename_i f
    simp only [opA] at h
    obtain ⟨c, h⟩ := bif_some h
    split at h <;> simp only [Option.some.injEq, reduceCtorEq] at h
    rename_i cs h1
    subst h
    exact s_makeFunc st hev hop (by have := Nat.eq_of_beq_eq_true c; rwa [lenL_eq] at this) h1
  | extract x k =>
    rw [hop] at h
    simp only [opA] at h
    split at h <;> try (simp at h; done)
    rename_i b y h1
    obtain ⟨q, hq, rfl⟩ := out0_some h
    exact s_extract st hev hop h1 hq
  | call c =>
    rw [hop] at h
    obtain ⟨callee, args, tys⟩ := c
    cases callee with
    | value f => simp [opA] at h
    | invoke r n => simp [opA] at h
    | builtin b =>
      cases b <;> try (simp [opA] at h; done)
      case append =>
        simp only [opA] at h
        split at h <;> try (simp at h; done)
        rename_i s x t t' h1 h2
        obtain ⟨c, h⟩ := bif_some h
        have e := Nat.eq_of_beq_eq_true c
        subst e
        split at h <;> try (simp at h; done)
        rename_i τ by_ e h3
        split at h <;> try (simp at h; done)
        rename_i te hh xs ys h4 h5 h6
        obtain ⟨_, h⟩ := bif_some h
        obtain ⟨c2, h⟩ := bif_some h
        rw [Bool.and_eq_true] at c2
        simp only [Option.some.injEq] at h
        subst h
        have := hfr (by rw [hop]; rfl)
        exact OpOk.cast rfl <| s_append hT st hev hop h1 h2 h3 h4 h5 h6 (blt_lt c2.1) (blt_lt c2.2) (hob _ rfl) ⟨this.1, this.2.1⟩
      case len =>
        simp only [opA] at h
        split at h <;> try (simp at h; done)
        rename_i x t h1 h2
        split at h <;> try (simp at h; done)
        rename_i τ h3
        obtain ⟨q, hq, rfl⟩ := out0_some h
        exact s_len hT st hev hop h1 h2 h3 hq
      case min =>
        simp only [opA] at h
        split at h <;> try (simp at h; done)
        rename_i x y h1
        split at h <;> try (simp at h; done)
        rename_i k a k' b h2 h3
        split at h <;> simp only [Option.some.injEq, reduceCtorEq] at h
        rename_i e
        subst e
        subst h
        exact s_minmax true st hev hop h1 h2 h3
      case max =>
        simp only [opA] at h
        split at h <;> try (simp at h; done)
        rename_i x y h1
        split at h <;> try (simp at h; done)
        rename_i k a k' b h2 h3
        split at h <;> simp only [Option.some.injEq, reduceCtorEq] at h
        rename_i e
        subst e
        subst h
        exact s_minmax false st hev hop h1 h2 h3
  | _ => rw [hop] at h; simp [opA] at h
end
end Go.Proofs.Ytohglckebkgbpaa
