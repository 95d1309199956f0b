/-
  A function's text on plain data: what must be shown; calls of texts that share memory are walked where they stand.
-/
import Derived.Test.YtohglckebkgbpaaUr
namespace Go.Proofs.Ytohglckebkgbpaa
open Go.RowKit

inductive XE where
  | normal | exit (n : Nat) | ret
/-- a cell of a tracked object: data, or a row that the call owns -/
inductive CT where
  | d (t : Ty)
  | own (k : Nat) (e : TypeId) (t : Ty)
/-- what a loop's head tells: a slot's data, a slot's own row, an object, a map, a row in place, a loop over a function -/
inductive Trk where
  | val (s : Nat) (t : Ty)
  | own (s k : Nat) (e : TypeId) (t : Ty)
  | obj (h : Nat) (l : List CT)
  | mp (h : Nat) (k v : Ty)
  | rw (h : Nat) (e : TypeId) (t : Ty)
  | lp (h : Nat)
/-- an object that from here on is not written any more -/
inductive Fz where
  | row (h : Nat)
  | box (h : Nat) (t : Ty)
def ctT : List CT → Ty
  | [] => .unit
  | .d t :: l => .pair t (ctT l)
  | .own _ _ t :: l => .pair (.sl t) (ctT l)
def trT : List Trk → Ty
  | [] => .unit
  | .val _ t :: l => .pair t (trT l)
  | .own _ _ _ t :: l => .pair (.sl t) (trT l)
  | .obj _ cs :: l => .pair (ctT cs) (trT l)
  | .mp _ k v :: l => .pair (.sl (.pair k v)) (trT l)
  | .rw _ _ t :: l => .pair (.sl t) (trT l)
  | .lp _ :: l => trT l
/-- what is known of a head's data -/
def trW : (l : List Trk) → (trT l).T → Prop
  | [], _ => True
  | .val _ t :: l, x => WF t x.1 ∧ trW l x.2
  | .own _ _ _ t :: l, x => WF (.sl t) x.1 ∧ trW l x.2
  | .obj _ cs :: l, x => WF (ctT cs) x.1 ∧ trW l x.2
  | .mp _ k v :: l, x => (∀ q ∈ (x.1 : List (k.T × v.T)), WF k q.1 ∧ WF v q.2) ∧ trW l x.2
  | .rw _ _ t :: l, x => WF (.sl t) x.1 ∧ trW l x.2
  | .lp _ :: l, x => trW l x
def readC (M : Mm) (wr : Nat → Bool) (n : Nat) : (l : List CT) → List AV → Option ((ctT l).T × List (Nat × Option Nat))
  | [], [] => some ((), [])
  | .d t :: l, a :: r => (bif t.isT then none else match a.as t with | some x => (match readC M wr n l r with | some p => some ((x, p.1), p.2) | none => none) | none => none)
  | .own k e t :: l, a :: r => (match rowOf M wr e t a with | some q => (match readC M wr n l r with | some p => some ((q.2, p.1), (n + k, q.1) :: p.2) | none => none) | none => none)
  | _, _ => none
def readT (e : Env) (M : Mm) (wr : Nat → Bool) (n : Nat) : (l : List Trk) → Option ((trT l).T × List (Nat × Option Nat))
  | [] => some ((), [])
  | .val s t :: l => (bif t.isT then none else match (e s).as t with | some x => (match readT e M wr n l with | some p => some ((x, p.1), p.2) | none => none) | none => none)
  | .own s k e' t :: l => (match rowOf M wr e' t (e s) with | some q => (match readT e M wr n l with | some p => some ((q.2, p.1), (n + k, q.1) :: p.2) | none => none) | none => none)
  | .obj h cs :: l => (bif wr h then (match M h with
    | some (.cells r) => (match readC M wr n cs r with | some q => (match readT e M wr n l with | some p => some ((q.1, p.1), appL q.2 p.2) | none => none) | none => none)
    | _ => none) else none)
  | .mp h k v :: l => (bif wr h then (match M h with
    | some (.map k' v' ls) => (match castT (.sl (.pair k' v')) (.sl (.pair k v)) ls with | some ys => (match readT e M wr n l with | some p => some ((ys, p.1), p.2) | none => none) | none => none)
    | _ => none) else none)
  | .rw h e' t :: l => (bif wr h then (match M h with
    | some (.row e2 t' xs) => (bif Nat.beq e' e2 then (match castT (.sl t') (.sl t) xs with | some ys => (match readT e M wr n l with | some p => some ((ys, p.1), p.2) | none => none) | none => none) else none)
    | _ => none) else none)
  | .lp h :: l => (bif wr h then (match M h with
    | some (.lp none) => readT e M wr n l
    | _ => none) else none)
def headC (n : Nat) : (l : List CT) → (ctT l).T → List AV
  | [], _ => []
  | .d t :: l, x => .d t x.1 :: headC n l x.2
  | .own k _ _ :: l, x => .hs (n + k) :: headC n l x.2
def headMC (n : Nat) : (l : List CT) → (ctT l).T → Mm → Mm
  | [], _, M => M
  | .d _ :: l, x, M => headMC n l x.2 M
  | .own k e t :: l, x, M => upd (headMC n l x.2 M) (n + k) (some (.row e t x.1))
def headV (n : Nat) : (l : List Trk) → (trT l).T → Env → Env
  | [], _, e => e
  | .val s t :: l, x, e => upd (headV n l x.2 e) s (.d t x.1)
  | .own s k _ _ :: l, x, e => upd (headV n l x.2 e) s (.hs (n + k))
  | .obj _ _ :: l, x, e => headV n l x.2 e
  | .mp _ _ _ :: l, x, e => headV n l x.2 e
  | .rw _ _ _ :: l, x, e => headV n l x.2 e
  | .lp _ :: l, x, e => headV n l x e
def headM (n : Nat) : (l : List Trk) → (trT l).T → Mm → Mm
  | [], _, M => M
  | .val _ _ :: l, x, M => headM n l x.2 M
  | .own _ k e t :: l, x, M => upd (headM n l x.2 M) (n + k) (some (.row e t x.1))
  | .obj h cs :: l, x, M => upd (headMC n cs x.1 (headM n l x.2 M)) h (some (.cells (headC n cs x.1)))
  | .mp h k v :: l, x, M => upd (headM n l x.2 M) h (some (.map k v x.1))
  | .rw h e t :: l, x, M => upd (headM n l x.2 M) h (some (.row e t x.1))
  | .lp h :: l, x, M => upd (headM n l x M) h (some (.lp none))
def srcs : List (Nat × Option Nat) → List Nat
  | [] => []
  | p :: l => match p.2 with | some s => s :: srcs l | none => srcs l
def keys : List (Nat × Option Nat) → List Nat
  | [] => []
  | p :: l => p.1 :: keys l
def canC : List CT → List Nat
  | [] => []
  | .d _ :: l => canC l
  | .own k _ _ :: l => k :: canC l
def canT : List Trk → List Nat
  | [] => []
  | .own _ k _ _ :: l => k :: canT l
  | .obj _ cs :: l => appL (canC cs) (canT l)
  | _ :: l => canT l
def objT : List Trk → List Nat
  | [] => []
  | .obj h _ :: l => h :: objT l
  | .mp h _ _ :: l => h :: objT l
  | .rw h _ _ :: l => h :: objT l
  | .lp h :: l => h :: objT l
  | _ :: l => objT l
/-- the slots at a loop's head -/
def baseE (ms : List Nat) (e : Env) : Env := fun t => bif memB ms t then .any else e t
def killL (M : Mm) (l : List Nat) : Mm := fun k => bif memB l k then none else M k
def allB (f : Nat → Bool) : List Nat → Bool
  | [] => true
  | a :: l => f a && allB f l

/-- a row becomes data wherever it is named -/
def Cap.subR (h : Nat) (t : Ty) (xs : List t.T) : Cap → Cap
  | .hs k => bif Nat.beq k h then .d (.sl t) xs else .hs k
  | .hp k off => bif Nat.beq k h then .any else .hp k off
  | c => c
def AV.subR (h : Nat) (t : Ty) (xs : List t.T) : AV → AV
  | AV.c x => .c (x.subR h t xs)
  | .he k t' i => bif Nat.beq k h then (if t' = t then .kp t (List.getD xs i t.d) else .any) else .he k t' i
  | .hv k t' l r => bif Nat.beq k h then (if t' = t then .d (.sl t) ((xs.take r).drop l) else .any) else .hv k t' l r
  | .fn f l => .fn f (l.map (·.subR h t xs))
  | .ag l => .ag (l.map (·.subR h t xs))
  | .tg l => .tg (l.map (·.subR h t xs))
  | .opt g a => .opt g (a.subR h t xs)
  | a => a
/-- cells become data wherever they are named -/
def Cap.subB (h : Nat) (t : Ty) (x : t.T) : Cap → Cap
  | .hs k => bif Nat.beq k h then .any else .hs k
  | .hp k off => bif Nat.beq k h then (bif Nat.beq off 0 then .kp t x else .any) else .hp k off
  | c => c
def AV.subB (h : Nat) (t : Ty) (x : t.T) : AV → AV
  | AV.c y => .c (y.subB h t x)
  | .he k t' i => bif Nat.beq k h then .any else .he k t' i
  | .hv k t' l r => bif Nat.beq k h then .any else .hv k t' l r
  | .fn f l => .fn f (l.map (·.subB h t x))
  | .ag l => .ag (l.map (·.subB h t x))
  | .tg l => .tg (l.map (·.subB h t x))
  | .opt g a => .opt g (a.subB h t x)
  | a => a
def Ob.mapA (f : AV → AV) : Ob → Ob
  | .cells cs => .cells (cs.map f)
  | o => o
def mapM (wr : Nat → Bool) (f : AV → AV) (M : Mm) (h : Nat) : Mm := fun k => bif Nat.beq k h then none else bif wr k then (match M k with | some o => some (o.mapA f) | none => none) else M k
def frz1 (wr : Nat → Bool) (f : Fz) (e : Env) (M : Mm) : Env × Mm :=
  match f with
  | .row h => (bif wr h then (match M h with | some (.row _ t xs) => (fun s => (e s).subR h t xs, mapM wr (·.subR h t xs) M h) | _ => (e, M)) else (e, M))
  | .box h t => (bif wr h then (match M h with
    | some (.cells cs) => (match capsA cs with
      | some l => (match fromCaps t l with | some (x, []) => (fun s => (e s).subB h t x, mapM wr (·.subB h t x) M h) | _ => (e, M))
      | none => (e, M))
    | _ => (e, M)) else (e, M))
def frzs (wr : Nat → Bool) : List Fz → Env → Mm → Env × Mm
  | [], e, M => (e, M)
  | f :: l, e, M => frzs wr l (frz1 wr f e M).1 (frz1 wr f e M).2

structure LH where
  trk : List Trk
  cnt : Nat
/-- what the evaluator is told, by function, piece of text and first free name -/
structure Cx where
  T : Tab
  own : List (Nat × List Nat)
  frz : List (Nat × Nat × List Fz)
  loops : List (Nat × Nat × LH)
  cuts : List (Nat × Nat × LH)
  inl : List Nat
def look2 {α : Type} : List (Nat × Nat × α) → Nat → Nat → Option α
  | [], _, _ => none
  | p :: r, i, j => bif Nat.beq p.1 i && Nat.beq p.2.1 j then some p.2.2 else look2 r i j
/-- a frame: its function, its number of slots, what it may write, whether it is a round -/
structure Fx where
  f : FuncId
  nt : Nat
  rd : Bool
structure VS where
  e : Env
  M : Mm
  n : Nat
  df : List Nat
/-- a number is worked out before it is handed on -/
def forceN {α : Sort 1} (n : Nat) (k : Nat → α) : α := Nat.rec (motive := fun _ => α) (k 0) (fun m _ => k (Nat.succ m)) n
theorem forceN_eq {α : Sort 1} (n : Nat) (k : Nat → α) : forceN n k = k n := by cases n <;> rfl
def lookL {α : Type} : List (Nat × α) → Nat → Option α
  | [], _ => none
  | (a, x) :: r, i => bif Nat.beq a i then some x else lookL r i
theorem lookL_eq {α : Type} : ∀ (l : List (Nat × α)) (i : Nat), lookL l i = look l i
  | [], _ => rfl
  | (a, x) :: r, i => by simp only [lookL, look, lookL_eq r i]
/-- a piece of text is known by its first region -/
def keyC : Code → Nat
  | .region id _ _ => id + 1
  | .seq a b => bif Nat.beq (keyC a) 0 then keyC b else keyC a
  | .cond _ a b => bif Nat.beq (keyC a) 0 then keyC b else keyC a
  | .block _ c => keyC c
  | .loop c => keyC c
  | .scope c => keyC c
  | _ => 0
def kk (f k : Nat) : Nat := f * 10000 + k
def modC : Code → List Nat
  | .region _ ops _ => dstL ops.toList
  | .seq a b => modC a ++ modC b
  | .cond _ a b => modC a ++ modC b
  | .block _ c => modC c
  | .loop c => modC c
  | .scope c => modC c
  | _ => []
def freeB : List Nat → List Nat → Bool
  | [], _ => true
  | a :: l, m => !memB m a && freeB l m
def vcHead {α : Type} (os : List Nat) (q : Option (α × List (Nat × Option Nat))) (K : α × List (Nat × Option Nat) → Prop) : Prop :=
  match q with
  | some p => bif distinctB (srcs p.2) && distinctB (keys p.2) && freeB (srcs p.2) os && distinctB os then K p else False
  | none => False
/-- a call that is walked where it stands: of a function; of a loop's round -/
inductive Req where
  | fn (f : FuncId) (args : List AV)
  | yl (k : Nat) (args : List AV)
abbrev LCs := List (Nat × LInfo)
abbrev Hnd := LCs → (Nat → Bool) → Req → (AV → Mm → Nat → Prop) → Mm → Nat → Prop
def inlA (cx : Cx) (lc : LCs) (f : Operand → AV) : Op → Option Req
  | .call { callee := .value g, args, .. } => (match f g with
    | .fn h caps => bif memB cx.inl h then some (.fn h (appL (args.toList.map f) (avs caps))) else none
    | .hs k => (match lookL lc k with | some _ => some (.yl k (args.toList.map f)) | none => none)
    | _ => none)
  | _ => none
def vcSeq (P : Program) (cx : Cx) (H : Hnd) (lc : LCs) (X : Sx) (ops : List Oper) : List Oper → (Env → Mm → Nat → Prop) → Env → Mm → Nat → Prop
  | [], K => K
  | o :: l, K => fun e M n => match o.guard with
    | none => (match inlA cx lc (ev cx.T e) o.op with
      | some q => H lc X.wr q (fun a M' n' => vcSeq P cx H lc X ops l K (updD e o.dst a) M' n') M n
      | none => vcOp P cx.T X ops o (fun e' M' => vcSeq P cx H lc X ops l K e' M' n) e M)
    | some (j, want) => (match inlA cx lc (gev o.op (ev cx.T e)) o.op with
      | some q => (match guardC (match (ops[j]?).bind (·.dst) with | some s => e s | none => .any) want with
        | some g => (g = true → andP (condsO (ev cx.T e) (condL o.op)) (H lc X.wr q (fun a M' n' => vcSeq P cx H lc X ops l K (updD e o.dst a) M' n') M n)) ∧ (g = false → vcSeq P cx H lc X ops l K (updD e o.dst (.opt false .any)) M n)
        | none => False)
      | none => vcOp P cx.T X ops o (fun e' M' => vcSeq P cx H lc X ops l K e' M' n) e M)
def ownF (cx : Cx) (f : Nat) : List Nat := match look cx.own f with | some l => l | none => []
def vcReg (P : Program) (cx : Cx) (H : Hnd) (lc : LCs) (fx : Fx) (wr : Nat → Bool) (ops : List Oper) (draw : Bool) (Q : VS → Prop) (s : VS) : Prop :=
  forceN s.n fun n => bif draw then vcAny P cx.T ⟨ownF cx fx.f, wr, n⟩ fx.nt ops (fun e M => Q ⟨e, M, n + fx.nt, s.df⟩) s.e s.M
  else bif dstsB fx.nt ops && distinctB (allocDs (ownF cx fx.f) ops) then vcSeq P cx H lc ⟨ownF cx fx.f, wr, n⟩ ops ops (fun e M n => Q ⟨e, M, n, s.df⟩) s.e s.M (n + fx.nt)
  else False
def beqL : List Nat → List Nat → Bool
  | [], [] => true
  | a :: l, b :: m => Nat.beq a b && beqL l m
  | _, _ => false
/-- what may be written within a loop: the objects that it tells, and what it makes -/
def wrL (wr : Nat → Bool) (n : Nat) (l : List Trk) : Nat → Bool := fun h => Nat.ble n h || (memB (objT l) h && wr h)
def vcCode (P : Program) (cx : Cx) (H : Hnd) (lc : LCs) (fx : Fx) : Code → (wr : Nat → Bool) → (XE → VS → Prop) → VS → Prop
  | .skip, _, Q, s => Q .normal s
  | .region id ops draw, wr, Q, s => forceN s.n fun n => (match look2 cx.frz (kk fx.f id) n with
    | some l => vcReg P cx H lc fx wr ops.toList draw (Q .normal) ⟨(frzs wr l s.e s.M).1, (frzs wr l s.e s.M).2, n, s.df⟩
    | none => vcReg P cx H lc fx wr ops.toList draw (Q .normal) s)
  | .seq a b, wr, Q, s => forceN s.n fun n => (match look2 cx.cuts (kk fx.f (keyC b)) n with
    | some h => (bif allB (fun k => Nat.blt k h.cnt) (canT h.trk) then
        vcHead (objT h.trk) (readT s.e s.M wr n h.trk) fun p => ∃ J : (trT h.trk).T → Prop,
          vcCode P cx H lc fx a (wrL wr n h.trk) (fun x s' => match x with
            | .normal => (bif beqL s'.df s.df then vcHead (objT h.trk) (readT s'.e s'.M (wrL wr n h.trk) n h.trk) fun p' => J p'.1 else False)
            | .exit n => Q (.exit n) s'
            | .ret => Q .ret s') ⟨headV n h.trk p.1 s.e, headM n h.trk p.1 (killL s.M (srcs p.2)), n + h.cnt, s.df⟩ ∧
          ∀ x, trW h.trk x → J x → vcCode P cx H lc fx b wr Q ⟨headV n h.trk x (baseE (modC a) s.e), headM n h.trk x (killL s.M (srcs p.2)), n + h.cnt, s.df⟩
      else False)
    | none => vcCode P cx H lc fx a wr (fun x s' => match x with | .normal => vcCode P cx H lc fx b wr Q s' | .exit n => Q (.exit n) s' | .ret => Q .ret s') s)
  | .cond c a b, wr, Q, s => (match ev cx.T s.e c with
    | .d .bool g => (g = true → vcCode P cx H lc fx a wr Q s) ∧ (g = false → vcCode P cx H lc fx b wr Q s)
    | _ => False)
  | .block id c, wr, Q, s => vcCode P cx H lc fx c wr (fun x s' => match x with | .normal => Q .normal s' | .exit n => (bif Nat.beq n id then Q .normal s' else Q (.exit n) s') | .ret => Q .ret s') s
  | .scope c, wr, Q, s => (bif fx.rd then False else vcCode P cx H lc fx c wr (fun x s' => match x with | .normal => Q .normal s' | .exit n => Q (.exit n) s' | .ret => Q .ret s') s)
  | .loop c, wr, Q, s => forceN s.n fun n => (match look2 cx.loops (kk fx.f (keyC c)) n with
    | some h => (bif allB (fun k => Nat.blt k h.cnt) (canT h.trk) then
        vcHead (objT h.trk) (readT s.e s.M wr n h.trk) fun p => ∃ (I : (trT h.trk).T → Prop) (μ : (trT h.trk).T → Nat), I p.1 ∧ ∀ x, trW h.trk x → I x →
          vcCode P cx H lc fx c (wrL wr n h.trk) (fun ex s' => match ex with
            | .normal => (bif beqL s'.df s.df then vcHead (objT h.trk) (readT s'.e s'.M (wrL wr n h.trk) n h.trk) fun p' => I p'.1 ∧ μ p'.1 < μ x else False)
            | .exit n => Q (.exit n) s'
            | .ret => Q .ret s') ⟨headV n h.trk x (baseE (modC c) s.e), headM n h.trk x (killL s.M (srcs p.2)), n + h.cnt, s.df⟩
      else False)
    | none => False)
  | .rangeFunc f ps asg body, wr, Q, s => (bif fx.rd then False else forceN s.n fun n => match ev cx.T s.e f with
    | .fn g caps => (bif memB cx.inl g then H ((n, { fn := fx.f, e := s.e, nt := fx.nt, ps := ps.toList, asg := asg, body := body }) :: lc) wr (.fn g (.hs n :: avs caps)) (fun _ M' n' => match M' n with
        | some (.lp none) => Q .normal ⟨s.e, killM M' (some n), n', (n + 1) :: s.df⟩
        | some (.lp (some .ret)) => Q .ret ⟨s.e, killM M' (some n), n', (n + 1) :: s.df⟩
        | some (.lp (some (.exit id))) => Q (.exit id) ⟨s.e, killM M' (some n), n', (n + 1) :: s.df⟩
        | _ => False) (upd (upd s.M (n + 1) (some .dfr)) n (some (.lp none))) (n + 2)
      else False)
    | _ => False)
  | .exit n, _, Q, s => Q (.exit n) s
  | .ret, _, Q, s => Q .ret s
  | .label _, _, Q, s => Q .normal s
  | _, _, _, _ => False

/-- the results of a text that is walked where it stands -/
def resA1 (T : Tab) (M : Mm) (e : Env) : ResultVar → Option AV
  | .tmp s => (match e s with | .opt _ _ => none | a => some a)
  | .cell s i => (match T.ty i with | some τ => loadA M τ (e s) | none => none)
def resAs (T : Tab) (M : Mm) (e : Env) : List ResultVar → Option (List AV)
  | [] => some []
  | v :: l => (match resA1 T M e v with | some a => (match resAs T M e l with | some r => some (a :: r) | none => none) | none => none)
def resAV (T : Tab) (M : Mm) (e : Env) (l : List ResultVar) : Option AV :=
  match resAs T M e l with
  | some [a] => some a
  | some l => (match capsA l with | some cs => some (.tg cs) | none => none)
  | none => none
def dfrB (M : Mm) : List Nat → Bool
  | [] => true
  | k :: l => (match M k with | some .dfr => true | _ => false) && dfrB M l
/-- data out of cells, rows that the call owns among them -/
def fromLeafM (M : Mm) : (t : Ty) → List AV → Option (t.T × List AV)
  | .unit, l => some ((), l)
  | .pair a b, l => (match fromLeafM M a l with | some p => (match fromLeafM M b p.2 with | some q => some ((p.1, q.1), q.2) | none => none) | none => none)
  | .st b, l => fromLeafM M b l
  | .int k, v :: l => (match asM M (.int k) v with | some x => some (x, l) | none => none)
  | .bool, v :: l => (match asM M .bool v with | some x => some (x, l) | none => none)
  | .str, v :: l => (match asM M .str v with | some x => some (x, l) | none => none)
  | .sl e, v :: l => (match asM M (.sl e) v with | some x => some (x, l) | none => none)
  | _, _ => none
/-- a result as data -/
def dataM (M : Mm) (t : Ty) (a : AV) : Option t.T :=
  match asM M t a with
  | some x => some x
  | none => (match a with
    | .ag l => (match t with | .st b => (match fromLeafM M b (avs l) with | some (x, []) => some x | _ => none) | _ => none)
    | _ => none)
def resT (M : Mm) : List AV → (b : Ty) → Option b.T
  | [], .unit => some ()
  | a :: l, .pair t r => (bif t.isT then none else match dataM M t a with | some x => (match resT M l r with | some y => some (x, y) | none => none) | none => none)
  | _, _ => none
def resD (M : Mm) (l : List AV) : (t : Ty) → Option t.T
  | .tup b => (match l with | [_] => none | l => resT M l b)
  | .int k => (match l with | [a] => dataM M (.int k) a | _ => none)
  | .bool => (match l with | [a] => dataM M .bool a | _ => none)
  | .str => (match l with | [a] => dataM M .str a | _ => none)
  | .sl t => (match l with | [a] => dataM M (.sl t) a | _ => none)
  | .st b => (match l with | [a] => dataM M (.st b) a | _ => none)
  | .arr n t => (match l with | [a] => dataM M (.arr n t) a | _ => none)
  | _ => none
def argsE : List AV → Env
  | [] => fun _ => .any
  | a :: l => fun t => match t with | 0 => a | k + 1 => argsE l k
def setE : List Nat → List AV → Env → Option Env
  | [], [], e => some e
  | p :: ps, a :: l, e => setE ps l (upd e p a)
  | _, _, _ => none
def noOpt : List AV → Bool
  | [] => true
  | .opt _ _ :: _ => false
  | _ :: l => noOpt l
def lpNone (M : Mm) (k : Nat) : Bool := match M k with | some (.lp none) => true | _ => false
/-- texts that share memory, walked where they stand -/
def hnd (P : Program) (cx : Cx) : Nat → Hnd
  | 0 => fun _ _ _ _ _ _ => False
  | d + 1 => fun lc wr q Post M n => match q with
    | .fn f args => (match P.funcs[f]? with
      | some fn => (match fn.body with
        | some c => (bif Nat.ble (lenL args) fn.ntmps && Nat.blt 0 fn.ntmps && memB cx.inl f then
            vcCode P cx (hnd P cx d) lc ⟨f, fn.ntmps, false⟩ c wr (fun x s => match x with
              | .exit _ => False
              | _ => (match resAV cx.T (killL s.M s.df) s.e fn.results.toList with | some a => (bif dfrB s.M s.df && distinctB s.df && allB (Nat.ble n) s.df then Post a (killL s.M s.df) s.n else False) | none => False)) ⟨argsE args, M, n, []⟩ else False)
        | none => False)
      | none => False)
    | .yl k args => (match lookL lc k with
      | some i => forceN i.fn fun ifn => forceN i.nt fun int => (match setE i.ps args i.e with
        | some e1 => (bif wr k && lpNone M k && allB (fun p => Nat.blt p int) i.ps && Nat.blt 0 int then
            vcCode P cx (hnd P cx d) lc ⟨ifn, int, true⟩ i.asg wr (fun x s => match x with
              | .normal => (match s.df with
                | [] => vcCode P cx (hnd P cx d) lc ⟨ifn, int, true⟩ i.body wr (fun x2 s2 => match s2.df with
                    | [] => (match x2 with
                      | .normal => Post (.d .bool true) (upd s2.M k (some (.lp none))) s2.n
                      | .exit id => Post (.d .bool false) (upd s2.M k (some (.lp (some (.exit id))))) s2.n
                      | .ret => Post (.d .bool false) (upd s2.M k (some (.lp (some .ret)))) s2.n)
                    | _ => False) s
                | _ => False)
              | _ => False) ⟨e1, killM M (some k), n, []⟩ else False)
        | none => False)
      | none => False)
/-- what must be shown of a function of the contract kind: it hands back data -/
def vcFn (P : Program) (cx : Cx) (d : Nat) (f : FuncId) (fn : Func) (args : List AV) (rt : Ty) (R : rt.T → Prop) : Prop :=
  match fn.body with
  | some c => vcCode P cx (hnd P cx d) [] ⟨f, fn.ntmps, false⟩ c (fun _ => true) (fun x s => match x with
    | .exit _ => False
    | _ => (match resAs cx.T (killL s.M s.df) s.e fn.results.toList with
      | some l => (bif dfrB s.M s.df && distinctB s.df then (match resD (killL s.M s.df) l rt with | some r => R r | none => False) else False)
      | none => False)) ⟨argsE args, fun _ => none, 0, []⟩
  | none => False
end Go.Proofs.Ytohglckebkgbpaa
