/-
  A function's text on plain data: what must be shown.
-/
import Derived.Test.YtohglckebkgbpaaRk
namespace Go.Proofs.Ytohglckebkgbpaa
open Go.RowKit

inductive XE where
  | normal | exit (n : Nat) | ret
/-- a cell of a tracked object: data, or a row that the call owns -/
inductive CT where
  | d (t : Ty)
  | own (h : Nat) (e : TypeId) (t : Ty)
/-- what a loop's head tells: a slot's data, a slot's own row, an object -/
inductive Trk where
  | val (s : Nat) (t : Ty)
  | own (s h : Nat) (e : TypeId) (t : Ty)
  | obj (h : Nat) (l : List CT)
/-- a row that from here on is not written any more -/
inductive Fz where
  | slot (s : Nat)
  | cell (h off : Nat)
  | box (s : Nat) (t : Ty)
def ctT : List CT → Ty
  | [] => .unit
  | .d t :: l => .pair t (ctT l)
  | .own _ _ t :: l => .pair (.sl t) (ctT l)
def trT : List Trk → Ty
  | [] => .unit
  | .val _ t :: l => .pair t (trT l)
  | .own _ _ _ t :: l => .pair (.sl t) (trT l)
  | .obj _ cs :: l => .pair (ctT cs) (trT l)
def readC (M : Mm) : (l : List CT) → List AV → Option ((ctT l).T × List (Nat × Option Nat))
  | [], [] => some ((), [])
  | .d t :: l, a :: r => (bif t.isT then none else match a.as t with | some x => (match readC M l r with | some p => some ((x, p.1), p.2) | none => none) | none => none)
  | .own h e t :: l, a :: r => (match rowOf M e t a with | some q => (match readC M l r with | some p => some ((q.2, p.1), (h, q.1) :: p.2) | none => none) | none => none)
  | _, _ => none
def readT (e : Env) (M : Mm) : (l : List Trk) → Option ((trT l).T × List (Nat × Option Nat))
  | [] => some ((), [])
  | .val s t :: l => (bif t.isT then none else match (e s).as t with | some x => (match readT e M l with | some p => some ((x, p.1), p.2) | none => none) | none => none)
  | .own s h e' t :: l => (match rowOf M e' t (e s) with | some q => (match readT e M l with | some p => some ((q.2, p.1), (h, q.1) :: p.2) | none => none) | none => none)
  | .obj h cs :: l => (match M h with
    | some (.cells r) => (match readC M cs r with | some q => (match readT e M l with | some p => some ((q.1, p.1), (h, some h) :: appL q.2 p.2) | none => none) | none => none)
    | _ => none)
def headC : (l : List CT) → (ctT l).T → List AV
  | [], _ => []
  | .d t :: l, x => .d t x.1 :: headC l x.2
  | .own h _ _ :: l, x => .hs h :: headC l x.2
def headMC : (l : List CT) → (ctT l).T → Mm → Mm
  | [], _, M => M
  | .d _ :: l, x, M => headMC l x.2 M
  | .own h e t :: l, x, M => upd (headMC l x.2 M) h (some (.row e t x.1))
def headV : (l : List Trk) → (trT l).T → Env → Env
  | [], _, e => e
  | .val s t :: l, x, e => upd (headV l x.2 e) s (.d t x.1)
  | .own s h _ _ :: l, x, e => upd (headV l x.2 e) s (.hs h)
  | .obj _ _ :: l, x, e => headV l x.2 e
def headM : (l : List Trk) → (trT l).T → Mm
  | [], _ => fun _ => none
  | .val _ _ :: l, x => headM l x.2
  | .own _ h e t :: l, x => upd (headM l x.2) h (some (.row e t x.1))
  | .obj h cs :: l, x => upd (headMC cs x.1 (headM l x.2)) h (some (.cells (headC cs x.1)))
def srcs : List (Nat × Option Nat) → List Nat
  | [] => []
  | p :: l => match p.2 with | some s => s :: srcs l | none => srcs l
def keys : List (Nat × Option Nat) → List Nat
  | [] => []
  | p :: l => p.1 :: keys l
def canC : List CT → List Nat
  | [] => []
  | .d _ :: l => canC l
  | .own h _ _ :: l => h :: canC l
def canT : List Trk → List Nat
  | [] => []
  | .val _ _ :: l => canT l
  | .own _ h _ _ :: l => h :: canT l
  | .obj _ cs :: l => appL (canC cs) (canT l)
def objT : List Trk → List Nat
  | [] => []
  | .obj h _ :: l => h :: objT l
  | _ :: l => objT l
/-- the slots at a loop's head -/
def baseE (ms can : List Nat) (e : Env) : Env := fun t => bif memB ms t then .any else eraseE can e t

def frz1 (f : Fz) (e : Env) (M : Mm) : Env × Mm :=
  match f with
  | .slot s => (match e s with
    | .hs h => (match M h with | some (.row _ t xs) => (upd (eraseE [h] e) s (.d (.sl t) xs), eraseM M h) | _ => (e, M))
    | _ => (e, M))
  | .cell k off => (match M k with
    | some (.cells cs) => (match cs[off]? with
      | some (.hs h) => (match M h with
        | some (.row _ t xs) => (eraseE [h] e, upd (eraseM M h) k (some (.cells (setL (cs.map (·.erase h)) off (.d (.sl t) xs)))))
        | _ => (e, M))
      | _ => (e, M))
    | _ => (e, M))
  | .box s t => (match e s with
    | .hp h off => (match M h with
      | some (.cells cs) => (match fromLeaf t (dropL off cs) with
        | some p => (upd (eraseE [h] e) s (.kp t p.1), eraseM M h)
        | none => (e, M))
      | _ => (e, M))
    | _ => (e, M))
def frzs : List Fz → Env → Mm → Env × Mm
  | [], e, M => (e, M)
  | f :: l, e, M => frzs l (frz1 f e M).1 (frz1 f e M).2

structure Cx where
  T : Tab
  own : List Nat
  nt : Nat
  frz : List (Nat × List Fz)
  loops : List (Nat × List Trk)
/-- a piece of text is known by its first region -/
def keyC : Code → Nat
  | .region id _ _ => id + 1
  | .seq a b => bif Nat.beq (keyC a) 0 then keyC b else keyC a
  | .cond _ a b => bif Nat.beq (keyC a) 0 then keyC b else keyC a
  | .block _ c => keyC c
  | .loop c => keyC c
  | .scope c => keyC c
  | _ => 0
def modC : Code → List Nat
  | .region _ ops _ => dstL ops.toList
  | .seq a b => modC a ++ modC b
  | .cond _ a b => modC a ++ modC b
  | .block _ c => modC c
  | .loop c => modC c
  | .scope c => modC c
  | _ => []
def namC (cx : Cx) : Code → List Nat
  | .region _ ops _ => allocDs cx.own ops.toList
  | .seq a b => namC cx a ++ namC cx b
  | .cond _ a b => namC cx a ++ namC cx b
  | .block _ c => namC cx c
  | .loop c => (match look cx.loops (keyC c) with | some l => canT l | none => []) ++ namC cx c
  | .scope c => namC cx c
  | _ => []
def freeB : List Nat → List Nat → Bool
  | [], _ => true
  | a :: l, m => !memB m a && freeB l m
def vcHead {α : Type} (q : Option (α × List (Nat × Option Nat))) (K : α → Prop) : Prop :=
  match q with
  | some p => bif distinctB (srcs p.2) && distinctB (keys p.2) then K p.1 else False
  | none => False
def vcCode (P : Program) (cx : Cx) : Code → (XE → Env → Mm → Prop) → Env → Mm → Prop
  | .skip, Q, e, M => Q .normal e M
  | .region id ops draw, Q, e, M => (match look cx.frz id with
    | some l => vcReg P cx.T cx.own cx.nt ops.toList draw (Q .normal) (frzs l e M).1 (frzs l e M).2
    | none => vcReg P cx.T cx.own cx.nt ops.toList draw (Q .normal) e M)
  | .seq a b, Q, e, M => vcCode P cx a (fun x e' M' => match x with | .normal => vcCode P cx b Q e' M' | .exit n => Q (.exit n) e' M' | .ret => Q .ret e' M') e M
  | .cond c a b, Q, e, M => (match ev cx.T e c with
    | .d .bool g => (g = true → vcCode P cx a Q e M) ∧ (g = false → vcCode P cx b Q e M)
    | _ => False)
  | .block id c, Q, e, M => vcCode P cx c (fun x e' M' => match x with | .normal => Q .normal e' M' | .exit n => (bif Nat.beq n id then Q .normal e' M' else Q (.exit n) e' M') | .ret => Q .ret e' M') e M
  | .scope c, Q, e, M => vcCode P cx c Q e M
  | .loop c, Q, e, M => (match look cx.loops (keyC c) with
    | some l => (bif freeB (objT l) (namC cx (.loop c)) then
        vcHead (readT e M l) fun x0 => ∃ (I : (trT l).T → Prop) (μ : (trT l).T → Nat), I x0 ∧ ∀ x, WF (trT l) x → I x →
          vcCode P cx c (fun ex e' M' => match ex with
            | .normal => vcHead (readT e' M' l) fun x' => I x' ∧ μ x' < μ x
            | .exit n => Q (.exit n) e' M'
            | .ret => Q .ret e' M') (headV l x (baseE (modC c) (canT l) e)) (headM l x)
      else False)
    | none => False)
  | .exit n, Q, e, M => Q (.exit n) e M
  | .ret, Q, e, M => Q .ret e M
  | .label _, Q, e, M => Q .normal e M
  | _, _, _, _ => False

/-- data out of cells, rows that the call owns among them -/
def fromLeafM (M : Mm) : (t : Ty) → List AV → Option (t.T × List AV)
  | .unit, l => some ((), l)
  | .pair a b, l => (match fromLeafM M a l with | some p => (match fromLeafM M b p.2 with | some q => some ((p.1, q.1), q.2) | none => none) | none => none)
  | .st b, l => fromLeafM M b l
  | .int k, v :: l => (match asM M (.int k) v with | some x => some (x, l) | none => none)
  | .bool, v :: l => (match asM M .bool v with | some x => some (x, l) | none => none)
  | .str, v :: l => (match asM M .str v with | some x => some (x, l) | none => none)
  | .sl e, v :: l => (match asM M (.sl e) v with | some x => some (x, l) | none => none)
  | _, _ => none
def loadR (M : Mm) (τ : Ty) : AV → Option τ.T
  | .kp t x => castT t τ x
  | .hp h off => (match M h with
    | some (.cells cs) => (match fromLeafM M τ (dropL off cs) with | some p => some p.1 | none => none)
    | _ => none)
  | _ => none
/-- the results of a function -/
def resV (T : Tab) (M : Mm) (e : Env) (t : Ty) : ResultVar → Option t.T
  | .tmp s => asM M t (e s)
  | .cell s i => (match T.ty i with | some τ => (match loadR M τ (e s) with | some x => castT τ t x | none => none) | none => none)
def resT (T : Tab) (M : Mm) (e : Env) : List ResultVar → (b : Ty) → Option b.T
  | [], .unit => some ()
  | v :: l, .pair a r => (bif a.isT then none else match resV T M e a v with | some x => (match resT T M e l r with | some y => some (x, y) | none => none) | none => none)
  | _, _ => none
def res1 (T : Tab) (M : Mm) (e : Env) (t : Ty) : List ResultVar → Option t.T
  | [v] => resV T M e t v
  | _ => none
def resA (T : Tab) (M : Mm) (e : Env) (l : List ResultVar) : (t : Ty) → Option t.T
  | .tup b => (match l with | [_] => none | l => resT T M e l b)
  | .int k => res1 T M e (.int k) l
  | .bool => res1 T M e .bool l
  | .str => res1 T M e .str l
  | .sl t => res1 T M e (.sl t) l
  | .st b => res1 T M e (.st b) l
  | _ => none
def argsE : List AV → Env
  | [] => fun _ => .any
  | a :: l => fun t => match t with | 0 => a | k + 1 => argsE l k
def vcFn (P : Program) (cx : Cx) (fn : Func) (args : List AV) (rt : Ty) (R : rt.T → Prop) : Prop :=
  match fn.body with
  | some c => vcCode P cx c (fun x e M => match x with
    | .normal => (match resA cx.T M e fn.results.toList rt with | some r => R r | none => False)
    | .ret => (match resA cx.T M e fn.results.toList rt with | some r => R r | none => False)
    | .exit _ => False) (argsE args) (fun _ => none)
  | none => False
end Go.Proofs.Ytohglckebkgbpaa
