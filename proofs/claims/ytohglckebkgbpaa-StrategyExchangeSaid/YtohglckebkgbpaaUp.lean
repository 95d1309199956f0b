/-
  What an operation does leaves be an object that it does not name: making a new object may go before it or after it.
-/
import Derived.Test.YtohglckebkgbpaaUo
namespace Go.Proofs.Ytohglckebkgbpaa
open Go.RowKit

theorem beq_ne {k h : Nat} (e : Nat.beq k h = false) : k ≠ h := fun c => by subst c; rw [Nat.beq_refl] at e; simp at e
theorem upd_comm {α : Type} {f : Nat → α} {a b : Nat} {u v : α} (h : a ≠ b) : upd (upd f a u) b v = upd (upd f b v) a u := by
  funext k
  by_cases h1 : k = a
  · subst h1; rw [upd_other _ b _ _ h, upd_self, upd_self]
  · rw [upd_other _ a _ k h1]
    by_cases h2 : k = b
    · subst h2; rw [upd_self, upd_self]
    · rw [upd_other _ b _ k h2, upd_other _ a _ k h1, upd_other _ b _ k h2]
section
variable {M : Mm} {h : Nat} {ob : Option Ob}
theorem loadA_grow {t : Ty} {p : AV} (hu : p.uses h = false) : loadA (upd M h ob) t p = loadA M t p := by
  cases p with
  | c y =>
    cases y with
    | hp k off => have := beq_ne hu; simp only [loadA, upd_other M h ob _ this]
    | _ => rfl
  | he k t' i => have := beq_ne hu; simp only [loadA, upd_other M h ob _ this]
  | _ => rfl
theorem lenA_grow {t : Ty} {p : AV} (hu : p.uses h = false) : lenA (upd M h ob) t p = lenA M t p := by
  cases p with
  | c y =>
    cases y with
    | hs k => have := beq_ne hu; cases t <;> simp only [lenA, upd_other M h ob _ this]
    | d a x => cases t <;> cases a <;> rfl
    | _ => cases t <;> rfl
  | _ => cases t <;> rfl
theorem srcA_grow {t : Ty} {p : AV} (hu : p.uses h = false) : srcA (upd M h ob) t p = srcA M t p := by
  cases p with
  | c y =>
    cases y with
    | hs k => have := beq_ne hu; simp only [srcA, upd_other M h ob _ this]
    | d a x => cases a <;> rfl
    | _ => rfl
  | hv k te l r => have := beq_ne hu; simp only [srcA, upd_other M h ob _ this]
  | _ => rfl
theorem rowOf_grow {wr : Nat → Bool} {e : TypeId} {t : Ty} {p : AV} (hu : p.uses h = false) : rowOf (upd M h ob) wr e t p = rowOf M wr e t p := by
  cases p with
  | c y =>
    cases y with
    | hs k => have := beq_ne hu; simp only [rowOf, upd_other M h ob _ this]
    | _ => rfl
  | _ => rfl
theorem asM_grow {t : Ty} {p : AV} (hu : p.uses h = false) : asM (upd M h ob) t p = asM M t p := by
  cases p with
  | c y =>
    cases y with
    | hs k => have := beq_ne hu; simp only [asM, upd_other M h ob _ this]
    | _ => rfl
  | hv k te l r => have := beq_ne hu; simp only [asM, upd_other M h ob _ this]
  | _ => rfl
theorem cellB_grow {p : AV} (hu : p.uses h = false) : p.cellB (upd M h ob) = p.cellB M := by
  cases p with
  | c y =>
    cases y with
    | hs k => have := beq_ne hu; simp only [AV.cellB, upd_other M h ob _ this]
    | _ => rfl
  | _ => rfl
theorem capsB_grow : ∀ {l : List Cap}, (∀ c ∈ l, c.uses h = false) → capsB (upd M h ob) l = capsB M l
  | [], _ => rfl
  | c :: l, hu => by
    simp only [capsB]
    rw [cellB_grow (p := .c c) (hu c (by simp)), capsB_grow fun x hx => hu x (by simp [hx])]
theorem leaves_grow {t : Ty} {p : AV} (hu : p.uses h = false) : p.leaves (upd M h ob) t = p.leaves M t := by
  unfold AV.leaves
  cases agA t p with
  | some l => rfl
  | none =>
  simp only
  cases p.as t with
  | some x => rfl
  | none =>
    simp only
    cases p with
    | c y => simp only [cellB_grow hu]
    | _ => rfl
theorem setAg_grow {f : Operand → AV} {b : Ty} : ∀ {ps : List (Nat × Operand)} {l : List Cap}, (∀ p ∈ ps, (f p.2).uses h = false) → setAg (upd M h ob) b (ps.map fun p => (p.1, f p.2)) l = setAg M b (ps.map fun p => (p.1, f p.2)) l
  | [], l, _ => rfl
  | p :: ps, l, hu => by
    simp only [List.map_cons, setAg]
    cases fieldT b p.1 with
    | none => rfl
    | some t =>
      simp only [leaves_grow (hu p (by simp))]
      cases (f p.2).leaves M t with
      | none => rfl
      | some vs =>
        simp only
        cases Nat.beq (lenL vs) t.sz with
        | false => rfl
        | true => simp only [cond_true]; exact setAg_grow fun q hq => hu q (by simp [hq])
theorem argA_grow {ret : Ty} {p : Option Ty} {a : AV} (hu : a.uses h = false) : argA (upd M h ob) ret p a = argA M ret p a := by
  cases p with
  | none => cases a with
    | c y => cases y <;> rfl
    | _ => rfl
  | some τ =>
    cases a with
    | c y =>
      cases y with
      | hs k => simp only [argA, asM_grow hu]
      | _ => rfl
    | hv k te l r => simp only [argA, asM_grow hu]
    | _ => rfl
theorem argsA_grow {ret : Ty} : ∀ {ps : List (Option Ty)} {l : List AV}, (∀ a ∈ l, a.uses h = false) → argsA (upd M h ob) ret ps l = argsA M ret ps l
  | [], [], _ => rfl
  | [], _ :: _, _ => rfl
  | _ :: _, [], _ => rfl
  | p :: ps, a :: l, hu => by
    simp only [argsA]
    rw [argA_grow (hu a (by simp)), argsA_grow fun x hx => hu x (by simp [hx])]
theorem callA_grow {T : Tab} {op : Op} {f : Operand → AV} (hu : ∀ x ∈ op.operands.toList, (f x).uses h = false) : callA T f (upd M h ob) op = callA T f M op := by
  cases op <;> try rfl
  rename_i c
  obtain ⟨callee, args, tys⟩ := c
  cases callee <;> try rfl
  rename_i x
  have hux := hu x (by simp [Op.operands, Call.operands])
  simp only [callA]
  generalize hx : f x = fx at hux
  cases fx <;> try rfl
  rename_i g caps
  simp only
  have hall : ∀ a ∈ appL (args.toList.map f) (avs caps), a.uses h = false := by
    intro a ha
    rw [appL_eq, List.mem_append] at ha
    rcases ha with ha | ha
    · obtain ⟨y, hy, rfl⟩ := List.mem_map.1 ha; exact hu y (by simp [Op.operands, Call.operands]; right; simpa using hy)
    · obtain ⟨y, hy, rfl⟩ := avs_mem ha
      simp only [AV.uses, List.any_eq_false] at hux
      simpa [AV.uses] using hux y hy
  cases look T.fns _ with
  | none =>
    simp only
    cases look T.cls _ with
    | none => rfl
    | some k =>
      simp only
      rw [argsA_grow hall]
  | some fi =>
    simp only
    rw [argsA_grow hall]
theorem storeA_grow {wr : Nat → Bool} {t : Ty} {p v : AV} (hp : p.uses h = false) (hv : v.uses h = false) : storeA (upd M h ob) wr t p v = (storeA M wr t p v).map fun M' => upd M' h ob := by
  cases p with
  | c y =>
    cases y with
    | hp k off =>
      have hk := beq_ne hp
      simp only [storeA, upd_other M h ob _ hk, cellB_grow hv]
      cases wr k with
      | false => rfl
      | true =>
      simp only [cond_true]
      cases M k with
      | none => rfl
      | some o =>
        cases o with
        | cells cs =>
          simp only
          cases t.cell with
          | true =>
            simp only [cond_true]
            cases (v.cellB M && Nat.blt off (lenL cs)) with
            | false => rfl
            | true => simp only [cond_true, Option.map_some]; rw [upd_comm (Ne.symm hk)]
          | false =>
            simp only [cond_false]
            cases t <;> try rfl
            rename_i b
            simp only [leaves_grow hv]
            cases hl : v.leaves M (.st b) with
            | none => rfl
            | some l =>
              simp only [capsB_grow (leaves_uses hl hv)]
              cases (Nat.ble (off + b.sz) (lenL cs) && Nat.beq (lenL l) b.sz && capsB M l) with
              | false => rfl
              | true => simp only [cond_true, Option.map_some]; rw [upd_comm (Ne.symm hk)]
        | _ => rfl
    | _ => rfl
  | he k t' i =>
    have hk := beq_ne hp
    simp only [storeA, upd_other M h ob _ hk]
    by_cases ht : t' = t
    · simp only [ht, if_true]
      cases wr k with
      | false => rfl
      | true =>
      simp only [cond_true]
      cases M k with
      | none => rfl
      | some o =>
        cases o with
        | row e te xs =>
          simp only
          cases v.as te with
          | none => rfl
          | some y =>
            simp only
            by_cases h2 : te = t
            · simp only [h2, if_true, Option.map_some]; rw [upd_comm (Ne.symm hk)]
            · simp only [h2, if_false, Option.map_none]
        | _ => rfl
    · simp only [ht, if_false, Option.map_none]
  | _ => rfl
theorem putA_grow {wr : Nat → Bool} {kt vt : Ty} {m i x : AV} (hm : m.uses h = false) : putA (upd M h ob) wr kt vt m i x = (putA M wr kt vt m i x).map fun M' => upd M' h ob := by
  cases m with
  | c y =>
    cases y with
    | hs k =>
      have hk := beq_ne hm
      simp only [putA, upd_other M h ob _ hk]
      cases wr k with
      | false => rfl
      | true =>
      simp only [cond_true]
      cases M k with
      | none => rfl
      | some o =>
        cases o with
        | map k' v' l =>
          simp only
          by_cases h1 : k' = kt
          · subst h1
            by_cases h2 : v' = vt
            · subst h2
              simp only [if_true]
              cases i.as k' with
              | none => rfl
              | some y =>
                cases x.as v' with
                | none => rfl
                | some z => simp only [Option.map_some]; rw [upd_comm (Ne.symm hk)]
            · simp only [h2, if_true, if_false, Option.map_none]
          · simp only [h1, if_false, Option.map_none]
        | _ => rfl
    | _ => rfl
  | _ => rfl
theorem lookupA_grow {kt vt : Ty} {m i : AV} {ok : Bool} (hm : m.uses h = false) : lookupA (upd M h ob) kt vt m i ok = lookupA M kt vt m i ok := by
  cases m with
  | c y =>
    cases y with
    | hs k => have hk := beq_ne hm; simp only [lookupA, upd_other M h ob _ hk]
    | _ => rfl
  | _ => rfl
theorem viewA_grow {τ : Ty} {x : AV} {l r m : Option Int} (hx : x.uses h = false) : viewA (upd M h ob) τ x l r m = viewA M τ x l r m := by
  cases x with
  | c y =>
    cases y with
    | hs k => have hk := beq_ne hx; cases m <;> simp only [viewA, upd_other M h ob _ hk]
    | _ => rfl
  | _ => rfl
theorem killM_grow {hh : Option Nat} (hk : ∀ k, hh = some k → k ≠ h) : killM (upd M h ob) hh = upd (killM M hh) h ob := by
  cases hh with
  | none => rfl
  | some k =>
    have := hk k rfl
    funext j
    simp only [killM]
    by_cases e : j = h
    · subst e
      have : Nat.beq j k = false := by
        cases hq : Nat.beq j k with
        | false => rfl
        | true => exact absurd (Nat.eq_of_beq_eq_true hq).symm this
      rw [this, upd_self, upd_self]; rfl
    · rw [upd_other _ h _ j e, upd_other _ h _ j e]
/-- the object h beside what an operation gives -/
def Out.grow (h : Nat) (ob : Option Ob) (o : Out) : Out := ⟨o.ob, o.val, upd o.M h ob⟩
theorem cutA_grow {wr : Nat → Bool} {nm : Nat} {x : AV} {l r m : Option Int} (hx : x.uses h = false) (hd : h ≠ nm) : cutA (upd M h ob) wr nm x l r m = (cutA M wr nm x l r m).map (Out.grow h ob) := by
  cases x with
  | c y =>
    cases y with
    | hs k =>
      have hk := beq_ne hx
      cases l with
      | some l => rfl
      | none =>
        cases r with
        | none => rfl
        | some r =>
          cases m with
          | some m => rfl
          | none =>
            simp only [cutA, upd_other M h ob _ hk]
            cases wr k with
            | false => rfl
            | true =>
            simp only [cond_true]
            cases M k with
            | none => rfl
            | some o =>
              cases o with
              | row e t xs =>
                simp only [Option.map_some, Out.grow]
                rw [killM_grow (fun j hj => by cases hj; exact hk), upd_comm hd]
              | _ => rfl
    | _ => rfl
  | _ => rfl
theorem copyA_grow {wr : Nat → Bool} {t : Ty} {d : AV} {ys : List t.T} (hd : d.uses h = false) : copyA (upd M h ob) wr t d ys = (copyA M wr t d ys).map fun p => (p.1, upd p.2 h ob) := by
  cases d with
  | c y =>
    cases y with
    | hs k =>
      have hk := beq_ne hd
      simp only [copyA, upd_other M h ob _ hk]
      cases wr k with
      | false => rfl
      | true =>
      simp only [cond_true]
      cases M k with
      | none => rfl
      | some o =>
        cases o with
        | row e te xs =>
          simp only
          cases castT (.sl t) (.sl te) ys with
          | none => rfl
          | some zs => simp only [Option.map_some]; rw [upd_comm (Ne.symm hk)]
        | _ => rfl
    | _ => rfl
  | hv k tv l r =>
    have hk := beq_ne hd
    simp only [copyA, upd_other M h ob _ hk]
    cases wr k with
    | false => rfl
    | true =>
    simp only [cond_true]
    cases M k with
    | none => rfl
    | some o =>
      cases o with
      | row e te xs =>
        simp only
        by_cases h1 : tv = te
        · simp only [h1, if_true]
          cases castT (.sl t) (.sl te) ys with
          | none => rfl
          | some zs => simp only [Option.map_some]; rw [upd_comm (Ne.symm hk)]
        · simp only [h1, if_false, Option.map_none]
      | _ => rfl
  | _ => rfl
theorem opA_grow {T : Tab} {own : List Nat} {wr : Nat → Bool} {d nm : Nat} {ty : TypeId} {op : Op} {f : Operand → AV} (hu : ∀ x ∈ op.operands.toList, (f x).uses h = false) (hd : h ≠ nm ∨ allocB own d op = false) : opA T own wr d nm ty op f (upd M h ob) = (opA T own wr d nm ty op f M).map (Out.grow h ob) := by
  have o1 : ∀ p : Option (Option Prop × AV), out1 (upd M h ob) p = (out1 M p).map (Out.grow h ob) := fun p => by cases p <;> rfl
  have o0 : ∀ p : Option AV, out0 (upd M h ob) p = (out0 M p).map (Out.grow h ob) := fun p => by cases p <;> rfl
  have newb : allocB own d op = true → ∀ (ob' : Ob) (M2 : Mm), upd (upd M2 h ob) nm (some ob') = upd (upd M2 nm (some ob')) h ob := by
    intro ha ob' M2
    rcases hd with hd | hd
    · exact upd_comm hd
    · rw [ha] at hd; simp at hd
  cases op <;> try rfl
  case pick c a b => simp only [opA]; split <;> first | exact o1 _ | rfl
  case binOp => simp only [opA]; exact o1 _
  case unOp => simp only [opA]; exact o1 _
  case convert => simp only [opA]; split <;> first | exact o1 _ | rfl
  case nilCheck => simp only [opA]; exact o0 _
  case load t a => simp only [opA, loadA_grow (hu a (by simp [Op.operands]))]; split <;> first | exact o0 _ | rfl
  case store t a x =>
    simp only [opA, storeA_grow (hu a (by simp [Op.operands])) (hu x (by simp [Op.operands]))]
    cases T.ty t with
    | none => rfl
    | some τ => simp only; cases storeA M wr τ (f a) (f x) <;> rfl
  case fieldAddr s x k =>
    simp only [opA]
    split <;> try rfl
    split <;> try rfl
    rename_i t _
    cases Nat.beq t.sz 0 with
    | true => rfl
    | false =>
      simp only [cond_false]
      split <;> try rfl
      split <;> first | exact o0 _ | rfl
  case field s x k =>
    simp only [opA]
    split <;> try rfl
    split <;> try rfl
    · split <;> first | exact o0 _ | rfl
    · split <;> try rfl
      generalize (_ && Nat.beq _ _) = q
      cases q with
      | false => rfl
      | true => simp only [cond_true]; split <;> rfl
  case indexAddr t x i =>
    simp only [opA]
    split <;> try rfl
    · split <;> try rfl
      · split <;> rfl
      · rename_i k hx
        have hk : k ≠ h := by have := hu x (by simp [Op.operands]); rw [hx] at this; exact beq_ne this
        rw [upd_other M h ob k hk]
        split <;> try rfl
        split <;> rfl
    · split <;> try rfl
      split <;> rfl
  case index =>
    simp only [opA]
    split <;> try rfl
    split <;> rfl
  case slice t x l hh m =>
    have hux := hu x (by simp [Op.operands])
    simp only [opA, viewA_grow hux]
    split <;> try rfl
    split <;> try rfl
    cases hb : memB own d with
    | true =>
      simp only [cond_true]
      split <;> try rfl
      have hd' : h ≠ nm := by rcases hd with hd | hd; exact hd; simp [allocB, hb] at hd
      exact cutA_grow hux hd'
    | false =>
      simp only [cond_false]
      split <;> exact o1 _
  case build t ps =>
    have hps : ∀ p ∈ ps.toList, (f p.2).uses h = false := fun p hp => hu p.2 (by simp [Op.operands]; exact ⟨_, by simpa using hp⟩)
    simp only [opA, setAg_grow hps]
    split <;> try rfl
    split <;> try rfl
    split <;> rfl
  case makeMap t r =>
    cases r with
    | some r => rfl
    | none =>
      simp only [opA]
      split <;> try rfl
      simp only [Option.map_some, Out.grow]; rw [newb rfl]
  case lookup t m i ok =>
    simp only [opA, lookupA_grow (hu m (by simp [Op.operands]))]
    split <;> try rfl
    generalize Ty.key _ = q
    cases q with
    | false => rfl
    | true => exact o0 _
  case mapUpdate t m i x =>
    simp only [opA]
    cases mapT T t with
    | none => rfl
    | some kv =>
      obtain ⟨k, v⟩ := kv
      simp only [putA_grow (hu m (by simp [Op.operands]))]
      cases k.key with
      | false => rfl
      | true =>
        simp only [cond_true]
        cases putA M wr k v (f m) (f i) (f x) <;> rfl
  case makeInterface =>
    simp only [opA]
    split <;> try rfl
    split <;> rfl
  case buildSlice t n ps =>
    simp only [opA]
    split <;> try rfl
    generalize (Nat.ble _ 16777216 && Nat.blt 0 _) = q
    cases q with
    | false => rfl
    | true =>
      simp only [cond_true]
      split <;> try rfl
      cases hb : memB own d with
      | false => rfl
      | true => simp only [cond_true, Option.map_some, Out.grow]; rw [newb hb]
  case makeSlice =>
    simp only [opA]
    split <;> try rfl
    split <;> try rfl
    generalize (Nat.blt 0 _ && Nat.blt 0 _) = q
    cases q with
    | false => rfl
    | true => simp only [cond_true, Option.map_some, Out.grow]; rw [newb rfl]
  case box t x =>
    have hux := hu x (by simp [Op.operands])
    simp only [opA, cellB_grow hux]
    split <;> try rfl
    cases hb : memB own d with
    | false => simp only [cond_false]; split <;> rfl
    | true =>
      simp only [cond_true]
      split
      · rename_i b _
        simp only [leaves_grow hux]
        cases hl : (f x).leaves M (.st b) with
        | none => rfl
        | some l =>
          simp only [capsB_grow (leaves_uses hl hux)]
          generalize (_ && capsB M l) = q
          cases q with
          | false => rfl
          | true => simp only [cond_true, Option.map_some, Out.grow]; rw [newb hb]
      · generalize (_ && (f x).cellB M) = q
        cases q with
        | false => rfl
        | true => simp only [cond_true, Option.map_some, Out.grow]; rw [newb hb]
  case alloc t =>
    simp only [opA]
    split <;> try rfl
    cases hb : memB own d with
    | false => rfl
    | true => simp only [cond_true, Option.map_some, Out.grow]; rw [newb hb]
  case makeFunc fn first caps =>
    cases fn <;> try rfl
    simp only [opA]
    cases Nat.beq (lenL first.toList) 0 with
    | false => rfl
    | true => simp only [cond_true]; split <;> rfl
  case extract =>
    simp only [opA]
    split <;> try rfl
    · exact o0 _
    · split <;> rfl
  case call c =>
    obtain ⟨callee, args, tys⟩ := c
    cases callee <;> try rfl
    rename_i b
    cases b <;> try rfl
    case append =>
      simp only [opA]
      split <;> try rfl
      rename_i s x t t' ha _
      have hus : (f s).uses h = false := hu s (by simp only [Op.operands, Call.operands, Array.toList_append, List.mem_append]; right; rw [ha]; simp)
      have hux : (f x).uses h = false := hu x (by simp only [Op.operands, Call.operands, Array.toList_append, List.mem_append]; right; rw [ha]; simp)
      cases Nat.beq t t' with
      | false => rfl
      | true =>
        simp only [cond_true, rowOf_grow hus, srcA_grow hux]
        split <;> try rfl
        split <;> try rfl
        rename_i hh xs ys _ hr _
        generalize (Nat.blt 0 _ && Nat.blt 0 _) = q
        cases q with
        | false => rfl
        | true =>
          have hkl : ∀ k, hh = some k → k ≠ h := by
            intro k hk
            subst hk
            revert hr hus
            generalize f s = fs
            intro hus hr
            unfold rowOf at hr
            split at hr <;> try (simp at hr; done)
            rename_i j
            obtain ⟨_, hr⟩ := bif_some hr
            split at hr <;> try (simp at hr; done)
            obtain ⟨_, hr⟩ := bif_some hr
            split at hr <;> simp only [Option.some.injEq, Prod.mk.injEq, reduceCtorEq] at hr
            rw [← hr.1]; exact beq_ne hus
          cases memB own d with
          | true =>
            simp only [cond_true, Option.map_some, Out.grow]
            rw [killM_grow hkl, newb rfl]
          | false =>
            simp only [cond_true, cond_false, Option.map_some, Out.grow]
            rw [killM_grow hkl]
    case copy =>
      simp only [opA]
      split <;> try rfl
      rename_i D S t t' ha _
      have hud : (f D).uses h = false := hu D (by simp only [Op.operands, Call.operands, Array.toList_append, List.mem_append]; right; rw [ha]; simp)
      have hus : (f S).uses h = false := hu S (by simp only [Op.operands, Call.operands, Array.toList_append, List.mem_append]; right; rw [ha]; simp)
      cases Nat.beq t t' with
      | false => rfl
      | true =>
        simp only [cond_true, srcA_grow hus]
        split <;> try rfl
        rename_i τ _
        cases Nat.blt 0 τ.sz with
        | false => rfl
        | true =>
          simp only [cond_true]
          split <;> try rfl
          rename_i ys _
          rw [copyA_grow hud]
          cases copyA M wr τ (f D) ys <;> rfl
    case len =>
      simp only [opA]
      split <;> try rfl
      rename_i x t ha _
      have hux : (f x).uses h = false := hu x (by simp only [Op.operands, Call.operands, Array.toList_append, List.mem_append]; right; rw [ha]; simp)
      simp only [lenA_grow hux]
      split <;> first | exact o0 _ | rfl
    all_goals
      simp only [opA]
      split <;> try rfl
      split <;> try rfl
      split <;> rfl
end
section
variable {P : Program} {T : Tab} {X : Sx} {ops : List Oper} {o : Oper} {e : Env} {M M' : Mm} {val : AV} {h : Nat} {ob : Option Ob}
/-- the operation names no object but those of S -/
def Foot (T : Tab) (X : Sx) (o : Oper) (e : Env) (S : List Nat) : Prop := (∀ x ∈ o.op.operands.toList, ∀ h, (ev T e x).uses h = true → h ∈ S) ∧ (X.alc o = true → X.nm o ∈ S)
theorem Foot.out {S : List Nat} (k : Foot T X o e S) (hn : h ∉ S) : (∀ x ∈ o.op.operands.toList, (ev T e x).uses h = false) ∧ (h ≠ X.nm o ∨ X.alc o = false) := by
  refine ⟨fun x hx => ?_, ?_⟩
  · cases hq : (ev T e x).uses h with
    | false => rfl
    | true => exact absurd (k.1 x hx h hq) hn
  · cases hq : X.alc o with
    | false => exact .inr rfl
    | true => exact .inl fun c => hn (by rw [c]; exact k.2 hq)
theorem opX_grow {f : Operand → AV} (hu : ∀ x ∈ o.op.operands.toList, (f x).uses h = false) (hd : h ≠ X.nm o ∨ X.alc o = false) : opX T X o f (upd M h ob) = (opX T X o f M).map (Out.grow h ob) := opA_grow hu hd
theorem Stp.grow {S : List Nat} (hf : Foot T X o e S) (hn : h ∉ S) (k : Stp P T X ops o e M val M') : Stp P T X ops o e (upd M h ob) val (upd M' h ob) := by
  obtain ⟨hu, hd⟩ := hf.out hn
  unfold Stp at *
  split
  · rename_i hg
    rw [hg] at k
    simp only at k
    cases hc : isCallB o.op with
    | true =>
      rw [hc] at k
      simp only [cond_true] at k ⊢
      cases hal : X.alc o with
      | true =>
        rw [hal] at k
        obtain ⟨q, r, e0, ob', h1, h2, h3, h4, h5, h6, rfl⟩ := k
        have hne : h ≠ X.nm o := by rcases hd with hd | hd; exact hd; rw [hal] at hd; simp at hd
        exact ⟨q, r, e0, ob', by rw [callA_grow hu]; exact h1, h2, h3, h4, h5, h6, upd_comm (Ne.symm hne)⟩
      | false =>
        rw [hal] at k
        obtain ⟨q, r, h1, h2, h3, rfl⟩ := k
        exact ⟨q, r, by rw [callA_grow hu]; exact h1, h2, h3, rfl⟩
    | false =>
      rw [hc] at k
      obtain ⟨out, h1, h2, h3, rfl⟩ := k
      refine ⟨out.grow h ob, by rw [opX_grow hu hd, h1]; rfl, h2, h3, rfl⟩
  · rename_i j want hg
    rw [hg] at k
    simp only at k
    obtain ⟨g, hgv, k⟩ := k
    refine ⟨g, hgv, ?_⟩
    cases hc : isCallB o.op with
    | true =>
      rw [hc] at k
      obtain ⟨q, r, h1, h2, h3, rfl⟩ := k
      exact ⟨q, r, by rw [callA_grow fun x hx => gev_uses (hu x hx)]; exact h1, h2, h3, rfl⟩
    | false =>
      rw [hc] at k
      obtain ⟨out, h0, h1, h2, h3, rfl⟩ := k
      exact ⟨out.grow h ob, h0, by rw [opX_grow (fun x hx => gev_uses (hu x hx)) hd, h1]; rfl, h2, h3, rfl⟩
theorem Stp.ungrow {S : List Nat} (hf : Foot T X o e S) (hn : h ∉ S) (k : Stp P T X ops o e (upd M h ob) val M') : ∃ M2, M' = upd M2 h ob ∧ Stp P T X ops o e M val M2 := by
  obtain ⟨hu, hd⟩ := hf.out hn
  unfold Stp at *
  split at k
  · rename_i hg
    cases hc : isCallB o.op with
    | true =>
      rw [hc] at k
      simp only [cond_true] at k ⊢
      cases hal : X.alc o with
      | true =>
        rw [hal] at k
        obtain ⟨q, r, e0, ob', h1, h2, h3, h4, h5, h6, rfl⟩ := k
        have hne : h ≠ X.nm o := by rcases hd with hd | hd; exact hd; rw [hal] at hd; simp at hd
        rw [callA_grow hu] at h1
        exact ⟨upd M (X.nm o) (some ob'), (upd_comm (Ne.symm hne)).symm, q, r, e0, ob', h1, h2, h3, h4, h5, h6, rfl⟩
      | false =>
        rw [hal] at k
        obtain ⟨q, r, h1, h2, h3, rfl⟩ := k
        rw [callA_grow hu] at h1
        exact ⟨M, rfl, q, r, h1, h2, h3, rfl⟩
    | false =>
      rw [hc] at k
      obtain ⟨out, h1, h2, h3, rfl⟩ := k
      rw [opX_grow hu hd] at h1
      cases hq : opX T X o (ev T e) M with
      | none => rw [hq] at h1; simp at h1
      | some out' =>
        rw [hq] at h1
        simp only [Option.map_some, Option.some.injEq] at h1
        subst h1
        exact ⟨out'.M, rfl, out', rfl, h2, h3, rfl⟩
  · rename_i j want hg
    obtain ⟨g, hgv, k⟩ := k
    cases hc : isCallB o.op with
    | true =>
      rw [hc] at k
      obtain ⟨q, r, h1, h2, h3, rfl⟩ := k
      rw [callA_grow fun x hx => gev_uses (hu x hx)] at h1
      exact ⟨M, rfl, g, hgv, q, r, h1, h2, h3, rfl⟩
    | false =>
      rw [hc] at k
      obtain ⟨out, h0, h1, h2, h3, rfl⟩ := k
      rw [opX_grow (fun x hx => gev_uses (hu x hx)) hd] at h1
      cases hq : opX T X o (gev o.op (ev T e)) M with
      | none => rw [hq] at h1; simp at h1
      | some out' =>
        rw [hq] at h1
        simp only [Option.map_some, Option.some.injEq] at h1
        subst h1
        exact ⟨M, rfl, g, hgv, out', h0, rfl, h2, h3, rfl⟩
theorem upd_same {α : Type} (f : Nat → α) (h : Nat) : upd f h (f h) = f := by
  funext k
  by_cases e : k = h
  · subst e; rw [upd_self]
  · rw [upd_other _ _ _ k e]
/-- what it does not name it leaves -/
theorem Stp.frame {S : List Nat} (hf : Foot T X o e S) (hn : h ∉ S) (k : Stp P T X ops o e M val M') : M' h = M h := by
  have := k
  rw [← upd_same M h] at this
  obtain ⟨M2, rfl, _⟩ := this.ungrow hf hn
  rw [upd_self]
/-- M, and N at the objects of L -/
def updL (M N : Mm) : List Nat → Mm
  | [] => M
  | h :: L => upd (updL M N L) h (N h)
theorem updL_in {M N : Mm} {L : List Nat} {k : Nat} (hk : k ∈ L) : updL M N L k = N k := by
  induction L with
  | nil => simp at hk
  | cons h L ih =>
    simp only [updL]
    by_cases e : k = h
    · subst e; rw [upd_self]
    · rw [upd_other _ _ _ k e]
      rcases List.mem_cons.1 hk with c | c
      · exact absurd c e
      · exact ih c
theorem updL_out {M N : Mm} {L : List Nat} {k : Nat} (hk : k ∉ L) : updL M N L k = M k := by
  induction L with
  | nil => rfl
  | cons h L ih =>
    simp only [List.mem_cons, not_or] at hk
    simp only [updL]
    rw [upd_other _ _ _ k hk.1]
    exact ih hk.2
theorem Stp.growL {S : List Nat} {N : Mm} (hf : Foot T X o e S) (k : Stp P T X ops o e M val M') : ∀ {L : List Nat}, (∀ h ∈ L, h ∉ S) → Stp P T X ops o e (updL M N L) val (updL M' N L)
  | [], _ => k
  | h :: L, hL => Stp.grow hf (hL h (by simp)) (Stp.growL hf k fun x hx => hL x (by simp [hx]))
theorem Stp.ungrowL {S : List Nat} {N : Mm} (hf : Foot T X o e S) : ∀ {L : List Nat} {M' : Mm}, (∀ h ∈ L, h ∉ S) → Stp P T X ops o e (updL M N L) val M' → ∃ M2, M' = updL M2 N L ∧ Stp P T X ops o e M val M2
  | [], M', _, k => ⟨M', rfl, k⟩
  | h :: L, M', hL, k => by
    obtain ⟨M1, rfl, k1⟩ := Stp.ungrow hf (hL h (by simp)) k
    obtain ⟨M2, rfl, k2⟩ := Stp.ungrowL hf (fun x hx => hL x (by simp [hx])) k1
    exact ⟨M2, rfl, k2⟩
/-- two steps that name no object in common may change places -/
theorem Stp.swap {x y : Oper} {M1 M2 : Mm} {v u : AV} {Sx Sy : List Nat} (hx : Foot T X x e Sx) (hy : Foot T X y e Sy) (hd : ∀ h ∈ Sx, h ∉ Sy) (s1 : Stp P T X ops x e M v M1) (s2 : Stp P T X ops y e M1 u M2) : ∃ M', Stp P T X ops y e M u M' ∧ Stp P T X ops x e M' v M2 := by
  have e1 : M1 = updL M M1 Sx := by
    funext k
    by_cases hk : k ∈ Sx
    · rw [updL_in hk]
    · rw [updL_out hk]; exact s1.frame hx hk
  rw [e1] at s2
  obtain ⟨M', rfl, s3⟩ := Stp.ungrowL hy hd s2
  refine ⟨M', s3, ?_⟩
  have e2 : M' = updL M M' Sy := by
    funext k
    by_cases hk : k ∈ Sy
    · rw [updL_in hk]
    · rw [updL_out hk]; exact s3.frame hy hk
  have s4 := s1.growL (N := M') (L := Sy) hx fun h hh hs => hd h hs hh
  rw [← e2] at s4
  have e3 : updL M1 M' Sy = updL M' M1 Sx := by
    funext k
    by_cases hk : k ∈ Sx
    · rw [updL_in hk, updL_out (hd k hk)]
    · rw [updL_out hk]
      by_cases hk2 : k ∈ Sy
      · rw [updL_in hk2]
      · rw [updL_out hk2, s3.frame hy hk2]; exact s1.frame hx hk
  rw [← e3]
  exact s4
end
end Go.Proofs.Ytohglckebkgbpaa
