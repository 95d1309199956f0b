/-
  A region that draws its order, whose operations read, and whose calls make memory and come in one order: one walk, in the order of the text.
-/
import Derived.Test.YtlfngcmlaiinoaaLib
import Derived.OrdersHeld
namespace Go.Proofs.Ytlfngcmlaiinoaa
open Go.RowKit

/-- a call of a Go function -/
def isGoCall (o : Oper) : Bool := match o.op with
  | .call c => (match c.callee with | .builtin _ => false | _ => true)
  | _ => false
/-- an operation that yields a value if it yields -/
def valueOp (o : Oper) : Bool := match o.op with
  | .move _ | .assign _ | .pick _ _ _ | .load _ _ | .build _ _ | .binOp _ _ _ _ _ | .unOp _ _ _ | .convert _ _ _ | .fieldAddr _ _ _ | .field _ _ _ | .indexAddr _ _ _ | .index _ _ _ | .slice _ _ _ _ _ | .lookup _ _ _ _ => true
  | .call c => (match c.callee with | .builtin .len => true | .builtin .cap => true | _ => false)
  | _ => false

theorem value_bind {P : Program} {w w' : World} {n : Next} {α : Type} {s : Sem α} {f : α → Value} (h : (s >>= fun x => (pure (Next.value (f x)) : Sem Next)).run P w = .ok n w') : ∃ u, n = .value u := by
  simp only [Sem.run_bind] at h
  cases hs : s.run P w with
  | ok u w1 => rw [hs] at h; simp [Sem.run_pure] at h; exact ⟨_, h.1.symm⟩
  | halt x w1 => rw [hs] at h; simp at h

theorem value_of {P : Program} {o : Oper} {ρ : Operand → Value} {w w' : World} {n : Next} (hv : valueOp o = true) (h : (execOp ρ o).run P w = .ok n w') : ∃ u, n = .value u := by
  unfold execOp at h
  cases ho : o.op <;> simp only [ho] at h <;> (try (exact value_bind h)) <;> (try (simp [valueOp, ho] at hv; done))
  case move x => simp [Sem.run_pure] at h; exact ⟨_, h.1.symm⟩
  case assign x => simp [Sem.run_pure] at h; exact ⟨_, h.1.symm⟩
  case call c =>
    obtain ⟨callee, args, tys⟩ := c
    cases callee with
    | value f => simp [valueOp, ho] at hv
    | invoke r nm => simp [valueOp, ho] at hv
    | builtin b =>
      cases b <;> (try (simp [valueOp, ho] at hv; done))
      all_goals
        simp only [resolve, Sem.run_bind, Sem.run_pure, Result.andThen_ok, invoke, builtin] at h
        exact value_bind (f := fun x => x) (by simpa only [Sem.run_bind, Sem.run_pure] using h)

/-- an operation of the quiet kind yields its value in every world of the class -/
theorem yields_of_quiet {P : Program} {ops : Array Oper} {C : World → Prop} {o : Oper} {a : Act} {v : Value} (hw : Region.wanted o (yielded ops a.tmps) = true) (hv : valueOp o = true) (h : ∀ w, C w → o.quietAt P a C w v) : YieldsIf P ops C o v a := by
  refine .inl ⟨hw, fun w hC => ?_⟩
  have h1 := h w hC
  unfold Oper.quietAt at h1
  cases hr : (execOp a.eval o).run P w with
  | ok n w' =>
    obtain ⟨u, rfl⟩ := value_of hv hr
    rw [hr] at h1
    obtain ⟨e1, e2⟩ := h1
    rw [e1, e2]
  | halt x w' => rw [hr] at h1; exact absurd h1 (by simp [Oper.quietUpon])

/-- the walk in the order of the text -/
def wpLex (P : Program) (ops : Array Oper) (C : World → Prop) (Q : Exit → Act → World → Prop) : List Oper → Act → World → Prop
  | [], a, w => Q .normal a w
  | o :: rest, a, w =>
    (isGoCall o = true ∧ Region.wanted o (yielded ops a.tmps) = true ∧ o.wp P a w (fun a' w' => C w' ∧ wpLex P ops C Q rest a' w') Q) ∨
    ((isGoCall o = false ∨ Region.wanted o (yielded ops a.tmps) = false) ∧ wpQuiet P ops C (fun a' => wpLex P ops C Q rest a' w) [o] a)

section
variable {P : Program} {ops : Array Oper} {C : World → Prop} {Q : Exit → Act → World → Prop} {o : Oper} {rest : List Oper} {a : Act} {w : World}
theorem quiet1_mono {K K' : Act → Prop} (hk : ∀ a, K a → K' a) (h : wpQuiet P ops C K [o] a) : wpQuiet P ops C K' [o] a := by
  simp only [wpQuiet] at h ⊢
  split
  · rename_i hw; rw [if_pos hw] at h; exact Oper.quiet_mono hk h
  · rename_i hw; rw [if_neg hw] at h; exact hk _ h
/-- the same behind a name that no unifier opens -/
structure Lex (P : Program) (ops : Array Oper) (C : World → Prop) (Q : Exit → Act → World → Prop) (l : List Oper) (a : Act) (w : World) : Prop where
  out : wpLex P ops C Q l a w
theorem lex_nil (h : Q .normal a w) : Lex P ops C Q [] a w := ⟨h⟩
theorem lex_on (h : Lex P ops C Q rest a w) : wpQuiet P ops C (fun a' => Lex P ops C Q rest a' w) [] a := h
theorem lex_pure (hc : isGoCall o = false) (h : wpQuiet P ops C (fun a' => Lex P ops C Q rest a' w) [o] a) : Lex P ops C Q (o :: rest) a w := ⟨.inr ⟨.inl hc, quiet1_mono (fun _ h => h.out) h⟩⟩
theorem lex_skip (hc : Region.wanted o (yielded ops a.tmps) = false) (h : wpQuiet P ops C (fun a' => Lex P ops C Q rest a' w) [o] a) : Lex P ops C Q (o :: rest) a w := ⟨.inr ⟨.inr hc, quiet1_mono (fun _ h => h.out) h⟩⟩
theorem lex_call (hc : isGoCall o = true) (hw : Region.wanted o (yielded ops a.tmps) = true) (h : ∀ K : Act → World → Prop, Hid (∀ a' w', C w' → Lex P ops C Q rest a' w' → K a' w') → o.wp P a w K Q) : Lex P ops C Q (o :: rest) a w :=
  ⟨.inl ⟨hc, hw, h _ (fun _ _ h1 h2 => ⟨h1, h2.out⟩)⟩⟩
end

/-- the first k listed -/
def firstK (n k : Nat) : Array Bool := (List.range k).foldl (fun l i => l.setIfInBounds i true) (Array.replicate n false)
theorem firstK_succ (n k : Nat) : firstK n (k + 1) = (firstK n k).setIfInBounds k true := by simp [firstK, List.range_succ, List.foldl_append]
/-- what the kernel looks at: in the order of the text each operation is ready and apart from what may come; at a call nothing else is ready -/
def lexG (ops : Array Oper) : Bool :=
  Region.noSelect ops && (Region.ready .any ops (firstK ops.size ops.size)).isEmpty && (List.range ops.size).all fun k =>
    (Region.ready .any ops (firstK ops.size k)).contains k && Region.free .any ops (firstK ops.size k) k &&
      match ops[k]? with
      | some o => if isGoCall o then Region.ready .any ops (firstK ops.size k) == [k] else valueOp o
      | none => false

theorem wpAnyH_of_lex {P : Program} {ops : Array Oper} {C : World → Prop} {Q : Exit → Act → World → Prop} (hB : lexG ops = true) (hQ : ∀ c a d v w, Q (.panic c) (a.put d v) w → Q (.panic c) a w) :
    ∀ (m k : Nat) (a : Act) (w : World), k + m = ops.size → C w → wpLex P ops C Q (ops.toList.drop k) a w → wpAnyH P .any ops Q C m (firstK ops.size k) a w := by
  simp only [lexG, Bool.and_eq_true, List.all_eq_true, List.mem_range, List.isEmpty_iff] at hB
  obtain ⟨⟨hno, hend⟩, hB⟩ := hB
  intro m
  induction m with
  | zero =>
    intro k a w hk hC h
    have hk' : k = ops.size := by omega
    subst hk'
    rw [List.drop_of_length_le (by simp)] at h
    exact wpAnyH_done hend h 0
  | succ m ih =>
    intro k a w hk hC h
    have hlt : k < ops.size := by omega
    have hi : ops[k]? = some ops[k] := by simp [hlt]
    obtain ⟨⟨hr, hf⟩, hx⟩ := hB k hlt
    rw [hi] at hx
    simp only at hx
    rw [List.drop_eq_getElem_cons (by simpa using hlt)] at h
    simp only [Array.getElem_toList] at h
    have next : ∀ a' w', C w' → wpLex P ops C Q (ops.toList.drop (k + 1)) a' w' → wpAnyH P .any ops Q C m ((firstK ops.size k).setIfInBounds k true) a' w' := fun a' w' h1 h2 => by
      rw [← firstK_succ]; exact ih (k + 1) a' w' (by omega) h1 h2
    rcases h with ⟨hc, hw, hwp⟩ | ⟨hc, hq⟩
    · rw [hc] at hx
      simp only [if_true, beq_iff_eq] at hx
      refine wpAnyH_all hx (by simp) fun i hmem => ?_
      rw [List.mem_singleton.1 hmem]
      unfold wpOp
      simp only [hi, hw, if_true]
      exact .inl (Oper.wp_mono (fun a' w' h => ⟨h.1, next a' w' h.1 h.2⟩) hwp)
    · simp only [wpQuiet] at hq
      by_cases hw : Region.wanted ops[k] (yielded ops a.tmps) = true
      · have hc' : isGoCall ops[k] = false := by
          rcases hc with h | h
          · exact h
          · rw [hw] at h; cases h
        rw [if_pos hw] at hq
        rw [hc'] at hx
        simp only [Bool.false_eq_true, if_false] at hx
        obtain ⟨v, h1, h2⟩ := hq
        exact wpAnyH_take hi hno hf hr (fun c a w => hQ c a _ v w) (yields_of_quiet hw hx h1) hC (next _ _ hC h2)
      · rw [if_neg hw] at hq
        exact wpAnyH_take hi hno hf hr (fun c a w => hQ c a _ undef w) (.inr ⟨by simpa using hw, rfl⟩) hC (next _ _ hC hq)

theorem wp_region_lex {P : Program} {id : Nat} {l : List Oper} {Q : Exit → Act → World → Prop} {a : Act} {w : World} (hm : P.follows .mixedOrders = true) (hB : lexG l.toArray = true) (hQ : ∀ c a d v w, Q (.panic c) (a.put d v) w → Q (.panic c) a w)
    (h : ∀ u : Bel w, Lex P l.toArray (fun w' => ∃ u : Bel w, w' = u.1) Q l a u.1) : (Code.region id l.toArray true).wp P Q a w := by
  refine wp_region_held (S := fun w' => ∃ u : Bel w, w' = u.1) hm ?_
  have h0 := (h ⟨w.drew, below_drew w⟩).out
  exact wpAnyH_of_lex hB hQ l.toArray.size 0 a w.drew (by simp) ⟨⟨w.drew, below_drew w⟩, rfl⟩ (by simpa using h0)

/-- a callee that only makes memory, inside such a region -/
theorem Calls.lex {P : Program} {f : FuncId} {args : Array Value} {w : World} {u : Bel w} {v : Value} (h : Calls P f args u.1 (Ret u.1 v)) : Calls P f args u.1 (fun e w'' => e = .returned v ∧ ∃ u' : Bel w, w'' = u'.1 ∧ Hid (Below u.1.heap.size u.1 u'.1)) :=
  h.mono fun _ w' ⟨he, hb⟩ => ⟨he, ⟨⟨w', bstep u.2 hb⟩, rfl, hb⟩⟩
theorem Calls.lexR {P : Program} {f : FuncId} {args : Array Value} {w : World} {u : Bel w} {R : World → Value → Prop} (h : Calls P f args u.1 (RetR u.1 R)) : Calls P f args u.1 (fun e w'' => ∃ v, e = .returned v ∧ ∃ u' : Bel w, w'' = u'.1 ∧ Hid (R u'.1 v) ∧ Hid (Below u.1.heap.size u.1 u'.1)) :=
  h.mono fun _ w' ⟨v, he, hr, hb⟩ => ⟨v, he, ⟨⟨w', bstep u.2 hb⟩, rfl, hr, hb⟩⟩
end Go.Proofs.Ytlfngcmlaiinoaa
