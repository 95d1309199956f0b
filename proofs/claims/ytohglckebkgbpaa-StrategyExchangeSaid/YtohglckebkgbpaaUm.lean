/-
  Regions on plain data: one step, its independence of what it does not look at, and calls.
-/
import Derived.Test.YtohglckebkgbpaaUl
import Derived.OrdersIn
import Derived.RangeFuncLeaves
import Derived.RangeFuncRecord
namespace Go.Proofs.Ytohglckebkgbpaa
open Go.RowKit

def GlobOk (T : Tab) (F : Mem) : Prop := ∀ g x, look T.globs g = some x → PtAt F x.ty (.pointer (some ⟨g, 0, none⟩)) x.x
theorem GlobOk.mono {T : Tab} {F F' : Mem} (hs : Sub F F') (h : GlobOk T F) : GlobOk T F' := fun g x hx => (h g x hx).mono hs
def ρn : Nat → Value := fun _ => undef
def RepL (F : Mem) (l : List AV) (vs : List Value) : Prop := vs.length = l.length ∧ ∀ j a, l[j]? = some a → RepA ρn F a (vs.getD j undef)
/-- the contract of a function on plain data: whatever the memory, it returns r, and nothing that was there has turned -/
structure CallP (P : Program) (T : Tab) (f : FuncId) (args : List AV) (rt : Ty) (r : rt.T) : Prop where
  enters : Enters P f
  out : ∀ (F : Mem) (w : World) (vs : List Value), GlobOk T F → Sub F w.cell? → RepL F args vs →
    Calls P f vs.toArray w (fun e w' => ∃ v F', e = .returned v ∧ Below w.heap.size w w' ∧ Sub F F' ∧ Sub F' w'.cell? ∧ (∀ a u, F' a = some u → F a = none → w.heap.size ≤ a.block) ∧ RepV F' rt v r)

/-- the contract of a function that hands back a closure over plain data -/
structure CallK (P : Program) (T : Tab) (f : FuncId) (args : List AV) (g : FuncId) (cs : List Cap) : Prop where
  enters : Enters P f
  out : ∀ (F : Mem) (w : World) (vs : List Value), GlobOk T F → Sub F w.cell? → RepL F args vs →
    Calls P f vs.toArray w (fun e w' => ∃ v F', e = .returned v ∧ Below w.heap.size w w' ∧ Sub F F' ∧ Sub F' w'.cell? ∧ (∀ a u, F' a = some u → F a = none → w.heap.size ≤ a.block) ∧ RepA ρn F' (.fn g cs) v)
def CallQ (P : Program) (T : Tab) (q : CallA) (r : q.ret.T) : Prop := match q.clo with | some p => CallK P T q.f q.args p.1 p.2 | none => CallP P T q.f q.args q.ret r
/-- a row in new memory that nothing else reads -/
def OwnR (F' : Mem) (w w' : World) (e : TypeId) : (t : Ty) → t.T → Value → Prop
  | .sl τ, xs, v => (∃ us, w'.ownsRow w.heap.size e τ.sz v (List.length xs) us ∧ RepCs F' τ us xs) ∧ ∀ a u, F' a = some u → blk v ≠ some a.block
  | _, _, _ => False
/-- the contract of a function whose result the caller owns -/
structure CallR (P : Program) (T : Tab) (f : FuncId) (args : List AV) (e : TypeId) (rt : Ty) (r : rt.T) : Prop where
  enters : Enters P f
  out : ∀ (F : Mem) (w : World) (vs : List Value), GlobOk T F → Sub F w.cell? → RepL F args vs →
    Calls P f vs.toArray w (fun en w' => ∃ v F', en = .returned v ∧ Below w.heap.size w w' ∧ Sub F F' ∧ Sub F' w'.cell? ∧ (∀ a u, F' a = some u → F a = none → w.heap.size ≤ a.block) ∧ OwnR F' w w' e rt r v)
/-- what an operation's meaning leans on: the operations that make rows to be written; the objects that may be written; the first free name -/
structure Sx where
  own : List Nat
  wr : Nat → Bool
  n : Nat
def Sx.nm (X : Sx) (o : Oper) : Nat := X.n + dstN o
def opX (T : Tab) (X : Sx) (o : Oper) (f : Operand → AV) (M : Mm) : Option Out := opA T X.own X.wr (dstN o) (X.nm o) o.type o.op f M
def Sx.alc (X : Sx) (o : Oper) : Bool := allocB X.own (dstN o) o.op
def Sx.tch (X : Sx) (o : Oper) : Nat := touch X.own (dstN o) o.op
/-- one operation, done: its value, the objects behind it -/
def Stp (P : Program) (T : Tab) (X : Sx) (ops : List Oper) (o : Oper) (e : Env) (M : Mm) (val : AV) (M' : Mm) : Prop :=
  match o.guard with
  | none =>
    (bif isCallB o.op then (bif X.alc o then (∃ q r e0 ob, callA T (ev T e) M o.op = some q ∧ q.clo = none ∧ elemT T o.type = some e0 ∧ rowOb e0 q.ret r = some ob ∧ CallR P T q.f q.args e0 q.ret r ∧ val = .hs (X.nm o) ∧ M' = upd M (X.nm o) (some ob))
      else (∃ q r, callA T (ev T e) M o.op = some q ∧ CallQ P T q r ∧ val = q.val r ∧ M' = M))
    else ∃ out, opX T X o (ev T e) M = some out ∧ (∀ p, out.ob = some p → p) ∧ val = out.val ∧ M' = out.M)
  | some (j, want) =>
    ∃ g, guardC (match (ops[j]?).bind (·.dst) with | some s => e s | none => .any) want = some g ∧
    (bif isCallB o.op then (∃ q r, callA T (gev o.op (ev T e)) M o.op = some q ∧ (g = true → (∀ p, condsO (ev T e) (condL o.op) = some p → p) ∧ CallQ P T q r) ∧ val = .opt g (q.val r) ∧ M' = M)
    else ∃ out, X.tch o ≤ 1 ∧ opX T X o (gev o.op (ev T e)) M = some out ∧ (g = true → (∀ p, condsO (ev T e) (condL o.op) = some p → p) ∧ ∀ p, out.ob = some p → p) ∧ val = .opt g out.val ∧ M' = M)

/-- the slots that an operation looks at -/
def looks (ops : List Oper) (o : Oper) : List Nat :=
  (o.op.operands.toList.filterMap fun | .tmp t => some t | _ => none) ++
  (match o.guard with
   | some (g, _) => ((ops[g]?).bind (·.dst)).toList
   | none => [])

theorem ev_local {T : Tab} {e e' : Env} {x : Operand} (h : ∀ t, x = .tmp t → e t = e' t) : ev T e x = ev T e' x := by
  cases x <;> simp only [ev]
  exact h _ rfl
theorem map_local {α β : Type} {f g : α → β} {l : List α} (h : ∀ x ∈ l, f x = g x) : l.map f = l.map g := List.map_congr_left h
theorem condsO_local {f g : Operand → AV} : ∀ {l : List Operand}, (∀ x ∈ l, f x = g x) → condsO f l = condsO g l
  | [], _ => rfl
  | x :: l, h => by simp only [condsO]; rw [h x (by simp), condsO_local fun y hy => h y (by simp [hy])]
theorem opA_local {T : Tab} {own : List Nat} {wr : Nat → Bool} {d nm : Nat} {ty : TypeId} {op : Op} {f g : Operand → AV} {M : Mm} (h : ∀ x ∈ op.operands.toList, f x = g x) : opA T own wr d nm ty op f M = opA T own wr d nm ty op g M := by
  cases op <;> try rfl
  case move x => have := h x (by simp [Op.operands]); simp only [opA, this]
  case assign x => have := h x (by simp [Op.operands]); simp only [opA, this]
  case pick c a b => have h1 := h c (by simp [Op.operands]); have h2 := h a (by simp [Op.operands]); have h3 := h b (by simp [Op.operands]); simp only [opA, h1, h2, h3]
  case box t x => have := h x (by simp [Op.operands]); simp only [opA, this]
  case build t ps =>
    have : (ps.toList.map fun p => (p.1, f p.2)) = ps.toList.map fun p => (p.1, g p.2) := map_local fun p hp => by
      rw [h p.2 (by simp [Op.operands]; exact ⟨_, by simpa using hp⟩)]
    simp only [opA, this]
  case buildSlice t n ps =>
    have : (ps.toList.map fun p => (p.1, f p.2)) = ps.toList.map fun p => (p.1, g p.2) := map_local fun p hp => by
      rw [h p.2 (by simp [Op.operands]; exact ⟨_, by simpa using hp⟩)]
    simp only [opA, this]
  case makeInterface t x => have := h x (by simp [Op.operands]); simp only [opA, this]
  case makeMap t r => cases r <;> rfl
  case lookup t m i ok => have h1 := h m (by simp [Op.operands]); have h2 := h i (by simp [Op.operands]); simp only [opA, h1, h2]
  case mapUpdate t m i x => have h1 := h m (by simp [Op.operands]); have h2 := h i (by simp [Op.operands]); have h3 := h x (by simp [Op.operands]); simp only [opA, h1, h2, h3]
  case load t x => have := h x (by simp [Op.operands]); simp only [opA, this]
  case nilCheck x => have := h x (by simp [Op.operands]); simp only [opA, this]
  case store t p x => have h1 := h p (by simp [Op.operands]); have h2 := h x (by simp [Op.operands]); simp only [opA, h1, h2]
  case binOp op t x y t2 => have h1 := h x (by simp [Op.operands]); have h2 := h y (by simp [Op.operands]); simp only [opA, h1, h2]
  case unOp op t x => have := h x (by simp [Op.operands]); simp only [opA, this]
  case convert s t x => have := h x (by simp [Op.operands]); simp only [opA, this]
  case makeFunc fn first caps =>
    cases fn <;> try rfl
    have : caps.toList.map f = caps.toList.map g := map_local fun x hx => h x (by simp [Op.operands]; right; simpa using hx)
    simp only [opA, this]
  case makeSlice t l c => have h1 := h l (by simp [Op.operands]); have h2 := h c (by simp [Op.operands]); simp only [opA, h1, h2]
  case slice t x l hh m =>
    have h1 := h x (by simp [Op.operands])
    have h2 : l.map f = l.map g := by cases l with | none => rfl | some y => simp [h y (by simp [Op.operands])]
    have h3 : hh.map f = hh.map g := by cases hh with | none => rfl | some y => simp [h y (by simp [Op.operands])]
    have h4 : m.map f = m.map g := by cases m with | none => rfl | some y => simp [h y (by simp [Op.operands])]
    simp only [opA, h1, h2, h3, h4]
  case fieldAddr s x k => have := h x (by simp [Op.operands]); simp only [opA, this]
  case field s x k => have := h x (by simp [Op.operands]); simp only [opA, this]
  case indexAddr t x i => have h1 := h x (by simp [Op.operands]); have h2 := h i (by simp [Op.operands]); simp only [opA, h1, h2]
  case index t x i => have h1 := h x (by simp [Op.operands]); have h2 := h i (by simp [Op.operands]); simp only [opA, h1, h2]
  case extract x k => have := h x (by simp [Op.operands]); simp only [opA, this]
  case call c =>
    obtain ⟨callee, args, tys⟩ := c
    cases callee <;> try rfl
    rename_i b
    have ha : ∀ x ∈ args.toList, f x = g x := fun x hx => h x (by simp [Op.operands, Call.operands]; simpa using hx)
    cases b <;> try rfl
    all_goals
      simp only [opA]
      generalize args.toList = l at ha ⊢
      rcases l with _ | ⟨x, _ | ⟨y, _ | ⟨z, l⟩⟩⟩ <;> try rfl
      all_goals
        have h1 := ha x (by simp)
        try have h2 := ha y (by simp)
        first
          | rfl
          | (simp only [h1, h2]; done)
          | (simp only [h1]; done)
          | (generalize tys.toList = m
             rcases m with _ | ⟨a, _ | ⟨b, _ | ⟨c, m⟩⟩⟩ <;> first
               | rfl
               | (simp only [h1, h2]; done)
               | (simp only [h1]; done))
theorem callA_local {T : Tab} {op : Op} {f g : Operand → AV} {M : Mm} (h : ∀ x ∈ op.operands.toList, f x = g x) : callA T f M op = callA T g M op := by
  cases op <;> try rfl
  rename_i c
  obtain ⟨callee, args, tys⟩ := c
  cases callee <;> try rfl
  rename_i x
  have h1 := h x (by simp [Op.operands, Call.operands])
  have h2 : args.toList.map f = args.toList.map g := map_local fun y hy => h y (by simp [Op.operands, Call.operands]; right; simpa using hy)
  simp only [callA, h1, h2]
theorem opX_local {T : Tab} {X : Sx} {o : Oper} {f g : Operand → AV} {M : Mm} (h : ∀ x ∈ o.op.operands.toList, f x = g x) : opX T X o f M = opX T X o g M := opA_local h
theorem same_eq {x c : Operand} (h : sameOp x c = true) : x = c := by
  cases x <;> cases c <;> first | (simp [sameOp] at h; done) | (rw [Nat.eq_of_beq_eq_true h])
theorem condL_mem {op : Op} {x : Operand} (h : x ∈ condL op) : x ∈ op.operands.toList := by
  cases op <;> first | exact h | (simp only [condL, List.mem_singleton] at h; subst h; simp [Op.operands])
theorem gev_local {op : Op} {f g : Operand → AV} {x : Operand} (h : f x = g x) : gev op f x = gev op g x := by
  cases op <;> simp only [gev, h]
theorem gev_uses {op : Op} {f : Operand → AV} {x : Operand} {k : Nat} (h : (f x).uses k = false) : (gev op f x).uses k = false := by
  have hs : ((f x).strip).uses k = false := by revert h; cases f x <;> exact id
  cases op <;> simp only [gev] <;> first | exact hs | skip
  rename_i c _ _
  cases sameOp x c <;> first | exact h | exact hs
theorem Stp.local_ {P : Program} {T : Tab} {X : Sx} {ops : List Oper} {o : Oper} {e e' : Env} {M M' : Mm} {val : AV} (h : ∀ t ∈ looks ops o, e t = e' t) (k : Stp P T X ops o e M val M') : Stp P T X ops o e' M val M' := by
  have h1 : ∀ x ∈ o.op.operands.toList, ev T e x = ev T e' x := fun x hx => ev_local fun t ht => h t (by subst ht; simp only [looks, List.mem_append, List.mem_filterMap]; exact .inl ⟨_, hx, rfl⟩)
  unfold Stp at *
  cases hg : o.guard with
  | none =>
    rw [hg] at k
    simp only at k ⊢
    rw [← callA_local h1, ← opX_local h1]
    exact k
  | some p =>
    rw [hg] at k
    obtain ⟨j, want⟩ := p
    simp only at k ⊢
    have h2 : (match (ops[j]?).bind (·.dst) with | some s => e s | none => AV.any) = (match (ops[j]?).bind (·.dst) with | some s => e' s | none => AV.any) := by
      cases hj : (ops[j]?).bind (·.dst) with
      | none => rfl
      | some s => exact h s (by simp only [looks, hg, hj]; simp)
    rw [← h2, ← callA_local (f := gev o.op (ev T e)) (fun x hx => gev_local (h1 x hx)), ← opX_local (f := gev o.op (ev T e)) (fun x hx => gev_local (h1 x hx)), ← condsO_local (f := ev T e) fun x hx => h1 x (condL_mem hx)]
    exact k
end Go.Proofs.Ytohglckebkgbpaa
