/-
  The evaluator on plain data: what each operation gives.
-/
import Derived.Test.YtohglckebkgbpaaUa
namespace Go.Proofs.Ytohglckebkgbpaa
open Go.RowKit

/-- lists of the evaluator's own -/
def lenL {α : Type} : List α → Nat
  | [] => 0
  | _ :: l => Nat.succ (lenL l)
def dropL {α : Type} : Nat → List α → List α
  | 0, l => l
  | _ + 1, [] => []
  | n + 1, _ :: l => dropL n l
def takeL {α : Type} : Nat → List α → List α
  | 0, _ => []
  | _ + 1, [] => []
  | n + 1, a :: l => a :: takeL n l
def setL {α : Type} : List α → Nat → α → List α
  | [], _, _ => []
  | _ :: l, 0, v => v :: l
  | a :: l, n + 1, v => a :: setL l n v
def appL {α : Type} : List α → List α → List α
  | [], m => m
  | a :: l, m => a :: appL l m
theorem lenL_eq {α : Type} (l : List α) : lenL l = l.length := by induction l <;> simp_all [lenL]
theorem dropL_eq {α : Type} : ∀ (n : Nat) (l : List α), dropL n l = l.drop n
  | 0, _ => rfl
  | _ + 1, [] => rfl
  | n + 1, _ :: l => dropL_eq n l
theorem takeL_eq {α : Type} : ∀ (n : Nat) (l : List α), takeL n l = l.take n
  | 0, _ => by simp [takeL]
  | _ + 1, [] => rfl
  | n + 1, a :: l => by simp [takeL, takeL_eq n l]
theorem setL_eq {α : Type} : ∀ (l : List α) (n : Nat) (v : α), setL l n v = l.set n v
  | [], _, _ => rfl
  | _ :: _, 0, _ => rfl
  | a :: l, n + 1, v => by simp [setL, setL_eq l n v]
theorem appL_eq {α : Type} : ∀ (l m : List α), appL l m = l ++ m
  | [], _ => rfl
  | a :: l, m => by simp [appL, appL_eq l m]
def look {α : Type} : List (Nat × α) → Nat → Option α
  | [], _ => none
  | p :: r, i => bif Nat.beq p.1 i then some p.2 else look r i
def memB : List Nat → Nat → Bool
  | [], _ => false
  | p :: r, i => Nat.beq p i || memB r i
def upd {α : Type} (e : Nat → α) (d : Nat) (v : α) : Nat → α := fun k => bif Nat.beq k d then v else e k
/-- what is known of a type: its data, its bytes, a slice's element -/
structure TI where
  ty : Ty
  bytes : Nat
  elem : TypeId
structure Glob where
  ty : Ty
  x : ty.T
/-- a function's parameters (none: a function value, or the address of captured cells) and its result -/
structure FI where
  ps : List (Option Ty)
  ret : Ty
/-- a function that hands back a closure over copies of its parameters -/
structure ClI where
  ps : List (Option Ty)
  g : FuncId
  ix : List Nat
structure Tab where
  tys : List (Nat × TI)
  fns : List (Nat × FI)
  globs : List (Nat × Glob)
  maps : List (Nat × (Nat × Nat)) := []
  cls : List (Nat × ClI) := []
def Tab.ty (T : Tab) (i : TypeId) : Option Ty := match look T.tys i with | some x => some x.ty | none => none

abbrev Mm := Nat → Option Ob
def castT (a b : Ty) (x : a.T) : Option b.T := if h : a = b then some (h ▸ x) else none
def Cap.as (t : Ty) : Cap → Option t.T
  | .d a x => castT a t x
  | .nil => (match t with | .sl _ => some [] | _ => none)
  | _ => none
/-- data out of cells -/
def fromCaps : (t : Ty) → List Cap → Option (t.T × List Cap)
  | .unit, l => some ((), l)
  | .pair a b, l => (match fromCaps a l with | some p => (match fromCaps b p.2 with | some q => some ((p.1, q.1), q.2) | none => none) | none => none)
  | .st b, l => fromCaps b l
  | .int k, v :: l => (match v.as (.int k) with | some x => some (x, l) | none => none)
  | .bool, v :: l => (match v.as .bool with | some x => some (x, l) | none => none)
  | .str, v :: l => (match v.as .str with | some x => some (x, l) | none => none)
  | .sl e, v :: l => (match v.as (.sl e) with | some x => some (x, l) | none => none)
  | _, _ => none
def AV.as (t : Ty) : AV → Option t.T
  | AV.c x => x.as t
  | .ag l => (match t with | .st b => (match fromCaps b l with | some (x, []) => some x | _ => none) | _ => none)
  | _ => none
/-- a list that a value stands for, own rows and parts of them among them -/
def asM (M : Mm) (t : Ty) : AV → Option t.T
  | .hs h => (match M h with | some (.row _ te xs) => castT (.sl te) t xs | _ => none)
  | .hv h te l r => (match M h with | some (.row _ te' xs) => if te' = te then castT (.sl te') t ((xs.take r).drop l) else none | _ => none)
  | a => a.as t
def projA : (b : Ty) → b.T → Nat → Option AV
  | .pair a _, x, 0 => some (.d a x.1)
  | .pair _ r, x, k + 1 => projA r x.2 k
  | _, _, _ => none
def projK : (b : Ty) → b.T → Nat → Option AV
  | .pair a _, x, 0 => some (.kp a x.1)
  | .pair _ r, x, k + 1 => projK r x.2 k
  | _, _, _ => none
def fieldT : Ty → Nat → Option Ty
  | .pair a _, 0 => some a
  | .pair _ r, k + 1 => fieldT r k
  | _, _ => none
def offF : Ty → Nat → Nat
  | .pair a r, k + 1 => a.sz + offF r k
  | _, _ => 0
def setF : (b : Ty) → b.T → Nat → AV → Option b.T
  | .pair a _, x, 0, v => (match v.as a with | some y => some (y, x.2) | none => none)
  | .pair _ r, x, k + 1, v => (match setF r x.2 k v with | some y => some (x.1, y) | none => none)
  | _, _, _, _ => none
def setFs (b : Ty) : List (Nat × AV) → b.T → Option b.T
  | [], x => some x
  | p :: ps, x => match setF b x p.1 p.2 with | some y => setFs b ps y | none => none
def setEs (t : Ty) : List (Nat × AV) → List t.T → Option (List t.T)
  | [], xs => some xs
  | p :: ps, xs => match p.2.as t with | some y => bif Nat.blt p.1 (lenL xs) then setEs t ps (setL xs p.1 y) else none | none => none
def leafs {α : Type} (f : α → List Cap) : List α → List Cap
  | [] => []
  | x :: xs => appL (f x) (leafs f xs)
def leafA : (t : Ty) → t.T → List Cap
  | .unit, _ => []
  | .pair a b, x => appL (leafA a x.1) (leafA b x.2)
  | .st b, x => leafA b x
  | .arr _ e, xs => leafs (leafA e) xs
  | .int k, x => [.d (.int k) x]
  | .bool, x => [.d .bool x]
  | .str, x => [.d .str x]
  | .sl e, x => [.d (.sl e) x]
  | .tup _, _ => []
/-- zero values, cell by cell; a slice is nil -/
def leafN : Ty → List Cap
  | .pair a b => appL (leafN a) (leafN b)
  | .st b => leafN b
  | .sl _ => [.nil]
  | t => leafA t t.d
/-- the values of one cell among the abstract ones -/
def AV.cap? : AV → Option Cap
  | AV.c x => some x
  | _ => none
def capsA : List AV → Option (List Cap)
  | [] => some []
  | a :: r => match a.cap? with | some c => (match capsA r with | some cs => some (c :: cs) | none => none) | none => none
def avs : List Cap → List AV
  | [] => []
  | c :: l => .c c :: avs l
/-- a value that fills one cell -/
def AV.cellB (M : Mm) : AV → Bool
  | .d t _ => t.cell
  | .nil => true
  | .hs h => (match M h with | some (.row _ _ _) => true | some (.map _ _ _) => true | _ => false)
  | .hp _ _ => true
  | .kp _ _ => true
  | .he _ _ _ => true
  | .hv _ _ _ _ => true
  | .fn _ _ => true
  | _ => false
def capsB (M : Mm) : List Cap → Bool
  | [] => true
  | c :: l => (AV.c c).cellB M && capsB M l
/-- a struct's cells, when it is known cell by cell -/
def agA (t : Ty) (a : AV) : Option (List Cap) :=
  match a with
  | .ag l => (match t with | .st b => bif Nat.beq (lenL l) b.sz then some l else none | _ => none)
  | _ => none
/-- a value's cells, at its type -/
def AV.leaves (M : Mm) (t : Ty) (a : AV) : Option (List Cap) :=
  match agA t a with
  | some l => some l
  | none => (match a.as t with
    | some x => some (leafA t x)
    | none => (match a with
      | AV.c x => bif t.cell && (AV.c x).cellB M then some [x] else none
      | _ => none))
/-- a struct out of its fields, where some are rows that the call owns -/
def segL {α : Type} (l vs : List α) (o : Nat) : List α := appL (takeL o l) (appL vs (dropL (o + lenL vs) l))
def setAg (M : Mm) (b : Ty) : List (Nat × AV) → List Cap → Option (List Cap)
  | [], l => some l
  | p :: ps, l => (match fieldT b p.1 with
    | some t => (match p.2.leaves M t with | some vs => (bif Nat.beq (lenL vs) t.sz then setAg M b ps (segL l vs (offF b p.1)) else none) | none => none)
    | none => none)
def zeroN {α : Type} (f : List Value → Option (List Value)) (x : α) : Nat → List Value → Option (List Value)
  | 0, us => some us
  | n + 1, us => (match f us with | some r => zeroN f x n r | none => none)
def zeroB : Ty → List Value → Option (List Value)
  | .unit, us => some us
  | .pair a b, us => (match zeroB a us with | some r => zeroB b r | none => none)
  | .st b, us => zeroB b us
  | .arr n e, us => zeroN (zeroB e) () n us
  | .int k, .int k' 0 :: us => if k = k' then some us else none
  | .bool, .bool false :: us => some us
  | .str, .string s :: us => bif s.data.toList.isEmpty then some us else none
  | .sl _, .slice none 0 0 :: us => some us
  | _, _ => none
/-- the constants of the text -/
def constA : Value → AV
  | .int k n => if inK k n then .d (.int k) n else .any
  | .bool b => .d .bool b
  | .string s => bif Nat.ble s.data.toList.length 4294967296 then .d .str s.data.toList else .any
  | .slice none 0 0 => .nil
  | v => .v v
def ev (T : Tab) (e : Env) : Operand → AV
  | .tmp t => e t
  | .const v => constA v
  | .func f => .fn f []
  | .global g => match look T.globs g with | some x => .kp x.ty x.x | none => .any
/-- a constant at its type: a struct's zero value -/
def typed (T : Tab) (ty : TypeId) : AV → AV
  | .v (.agg cs) => (match T.ty ty with
    | some (.st b) => (match zeroB b cs.toList with | some [] => .d (.st b) b.d | _ => .v (.agg cs))
    | some (.arr n e) => (match zeroB (.arr n e) cs.toList with | some [] => .d (.arr n e) (Ty.arr n e).d | _ => .v (.agg cs))
    | _ => .v (.agg cs))
  | a => a

structure Out where
  ob : Option Prop
  val : AV
  M : Mm
/-- g chooses -/
def selB (g x y : Bool) : Bool := bif g then x else y
def pickA (g : Bool) : AV → AV → Option (Option Prop × AV)
  | .d .bool x, .d .bool y => some (none, .d .bool (selB g x y))
  | .opt g0 (.d .bool x), .d .bool y => some (some (g = true → g0 = true), .d .bool (selB g x y))
  | .d .bool x, .opt g0 (.d .bool y) => some (some (g = false → g0 = true), .d .bool (selB g x y))
  | _, _ => none
def intB (op : BinOp) (k : IntKind) (a b : Int) : Option (Option Prop × AV) :=
  match op with
  | .add => some (some (inK k (a + b)), .d (.int k) (a + b))
  | .sub => some (some (inK k (a - b)), .d (.int k) (a - b))
  | .mul => some (some (inK k (a * b)), .d (.int k) (a * b))
  | .quo => some (some (0 ≤ a ∧ 0 < b), .d (.int k) (a / b))
  | .rem => some (some (0 ≤ a ∧ 0 < b), .d (.int k) (a % b))
  | .eql => some (none, .d .bool (decide (a = b)))
  | .neq => some (none, .d .bool (!decide (a = b)))
  | .lss => some (none, .d .bool (decide (a < b)))
  | .leq => some (none, .d .bool (decide (a ≤ b)))
  | .gtr => some (none, .d .bool (decide (b < a)))
  | .geq => some (none, .d .bool (decide (b ≤ a)))
  | _ => none
def strB (op : BinOp) (a b : List UInt8) : Option (Option Prop × AV) :=
  match op with
  | .add => some (some (a.length + b.length ≤ 4294967296), .d .str (a ++ b))
  | .eql => some (none, .d .bool (decide (a = b)))
  | .neq => some (none, .d .bool (!decide (a = b)))
  | _ => none
def boolB (op : BinOp) (a b : Bool) : Option (Option Prop × AV) :=
  match op with
  | .eql => some (none, .d .bool (a == b))
  | .neq => some (none, .d .bool (!(a == b)))
  | _ => none
def binA (op : BinOp) (t : Option Ty) : AV → AV → Option (Option Prop × AV)
  | .d (.int k) a, .d (.int k') b => if k = k' then intB op k a b else none
  | .d .str a, .d .str b => strB op a b
  | .d .bool a, .d .bool b => (match t with | some .bool => boolB op a b | _ => none)
  | _, _ => none
def unA (op : UnOp) : AV → Option (Option Prop × AV)
  | .d .bool b => (match op with | .not => some (none, .d .bool (!b)) | _ => none)
  | .d (.int k) a => (match op with | .neg => some (some (inK k (0 - a)), .d (.int k) (0 - a)) | _ => none)
  | _ => none
/-- a text's bytes as numbers -/
def bytesI (s : List UInt8) : List Int := s.map fun b => ((b.toNat : Nat) : Int)
def convA : Ty → AV → Option (Option Prop × AV)
  | .int k', .d (.int _) n => some (some (inK k' n), .d (.int k') n)
  | .str, .d .str s => some (none, .d .str s)
  | .sl (.int .u8), .d .str s => some (none, .d (.sl (.int .u8)) (bytesI s))
  | _, _ => none
/-- an address that is none of nil -/
def nilA : AV → Option AV
  | .kp t x => some (.kp t x)
  | .hp h off => some (.hp h off)
  | _ => none
theorem nilA_eq {a b : AV} (h : nilA a = some b) : b = a := by
  unfold nilA at h
  split at h <;> simp only [Option.some.injEq, reduceCtorEq] at h <;> exact h.symm
def lenA (M : Mm) : Ty → AV → Option AV
  | .sl _, .nil => some (.d (.int .i64) (0 : Int))
  | .sl _, .d (.sl _) xs => some (.d (.int .i64) ((List.length xs : Nat) : Int))
  | .str, .d .str s => some (.d (.int .i64) ((List.length s : Nat) : Int))
  | .sl _, .hs h => (match M h with | some (.row _ _ xs) => some (.d (.int .i64) ((List.length xs : Nat) : Int)) | _ => none)
  | .sl _, .hv _ _ l r => some (.d (.int .i64) ((r - l : Nat) : Int))
  | _, _ => none
/-- elements to be appended -/
def srcA (M : Mm) (t : Ty) : AV → Option (List t.T)
  | .d (.sl a) xs => castT (.sl a) (.sl t) xs
  | .nil => some []
  | .hs h => (match M h with | some (.row _ te xs) => castT (.sl te) (.sl t) xs | _ => none)
  | .hv h te l r => (match M h with | some (.row _ te' xs) => if te' = te then castT (.sl te') (.sl t) ((xs.take r).drop l) else none | _ => none)
  | _ => none
/-- a row that may be written: none: there is no row yet -/
def rowOf (M : Mm) (wr : Nat → Bool) (e : TypeId) (t : Ty) : AV → Option (Option Nat × List t.T)
  | .nil => some (none, [])
  | .hs h => (bif wr h then (match M h with | some (.row e' te xs) => (bif Nat.beq e e' then (match castT (.sl te) (.sl t) xs with | some ys => some (some h, ys) | none => none) else none) | _ => none) else none)
  | _ => none
def killM (M : Mm) : Option Nat → Mm
  | none => M
  | some h => fun k => bif Nat.beq k h then none else M k
def loadA (M : Mm) (t : Ty) : AV → Option AV
  | .kp t' x => if t' = t then some (.d t' x) else none
  | .he h t' i => if t' = t then (match M h with | some (.row _ te xs) => (match castT (.sl te) (.sl t') xs with | some ys => some (.d t' (List.getD ys i t'.d)) | none => none) | _ => none) else none
  | .hp h off => (match M h with
    | some (.cells cs) => (bif t.cell then cs[off]? else (match t with
      | .st b => (match capsA (takeL b.sz (dropL off cs)) with
        | some l => (bif Nat.beq (lenL l) b.sz then (match fromCaps b l with | some (x, []) => some (.d (.st b) x) | _ => some (.ag l)) else none)
        | none => none)
      | _ => none))
    | _ => none)
  | _ => none
def storeA (M : Mm) (wr : Nat → Bool) (t : Ty) (p v : AV) : Option Mm :=
  match p with
  | .he h t' i => if t' = t then (bif wr h then (match M h with
    | some (.row e te xs) => (match v.as te with | some y => if te = t then some (upd M h (some (.row e te (List.set xs i y)))) else none | none => none)
    | _ => none) else none) else none
  | .hp h off => (bif wr h then (match M h with
    | some (.cells cs) => (bif t.cell then (bif v.cellB M && Nat.blt off (lenL cs) then some (upd M h (some (.cells (setL cs off v)))) else none)
      else (match t with
        | .st b => (match v.leaves M (.st b) with
          | some l => (bif Nat.ble (off + b.sz) (lenL cs) && Nat.beq (lenL l) b.sz && capsB M l then some (upd M h (some (.cells (segL cs (avs l) off)))) else none)
          | none => none)
        | _ => none))
    | _ => none) else none)
  | _ => none
def optInt : Option AV → Option (Option Int)
  | none => some none
  | some (.d (.int _) n) => some (some n)
  | _ => none
/-- a part of a list -/
def partL {α : Type} (xs : List α) (l h : Option Int) : List α :=
  match l, h with
  | none, none => xs
  | some l, none => xs.drop l.toNat
  | none, some h => xs.take h.toNat
  | some l, some h => (xs.take h.toNat).drop l.toNat
def partOb (n : Nat) (l h m : Option Int) : Option Prop :=
  match l, h, m with
  | none, none, none => none
  | some l, none, none => some (0 ≤ l ∧ l ≤ n)
  | none, some h, none => some (0 ≤ h ∧ h ≤ n)
  | some l, some h, none => some (0 ≤ l ∧ l ≤ h ∧ h ≤ n)
  | none, some h, some m => some (0 ≤ h ∧ h ≤ m ∧ m ≤ n)
  | some l, some h, some m => some (0 ≤ l ∧ l ≤ h ∧ h ≤ m ∧ m ≤ n)
  | _, none, some _ => some False
def partA (τ : Ty) (x : AV) (l h m : Option Int) : Option (Option Prop × AV) :=
  match τ, x with
  | .sl t', .d (.sl t) xs => if t' = t then some (partOb (List.length xs) l h m, .d (.sl t) (partL xs l h)) else none
  | .sl t', .nil => some (partOb 0 l h m, .d (.sl t') [])
  | .str, .d .str s => (match m with | none => some (partOb (List.length s) l h none, .d .str (partL s l h)) | some _ => none)
  | _, _ => none
/-- the bounds of a part, as numbers -/
def loN (l : Option Int) : Nat := match l with | none => 0 | some l => l.toNat
def hiN (h : Option Int) (n : Nat) : Nat := match h with | none => n | some h => h.toNat
/-- a row's front part, which the call owns then -/
def cutA (M : Mm) (wr : Nat → Bool) (nm : Nat) (x : AV) (l h m : Option Int) : Option Out :=
  match x, l, h, m with
  | .hs k, none, some r, none => (bif wr k then (match M k with
    | some (.row e t xs) => some ⟨some (0 ≤ r ∧ r ≤ ((List.length xs : Nat) : Int)), .hs nm, upd (killM M (some k)) nm (some (.row e t (List.take r.toNat xs)))⟩
    | _ => none) else none)
  | _, _, _, _ => none
/-- a part of a row that the call owns -/
def viewA (M : Mm) (τ : Ty) (x : AV) (l h m : Option Int) : Option (Option Prop × AV) :=
  match x, m with
  | .hs k, none => (match M k with
    | some (.row _ t xs) => if .sl t = τ then some (partOb (List.length xs) l h none, .hv k t (loN l) (hiN h (List.length xs))) else none
    | _ => none)
  | _, _ => none
def out1 (M : Mm) : Option (Option Prop × AV) → Option Out
  | some p => some ⟨p.1, p.2, M⟩
  | none => none
def out0 (M : Mm) : Option AV → Option Out
  | some v => some ⟨none, v, M⟩
  | none => none
/-- a list's part written anew -/
def putL {α : Type} (xs ys : List α) (l : Nat) : List α := xs.take l ++ ys ++ xs.drop (l + ys.length)
def copyA (M : Mm) (wr : Nat → Bool) (t : Ty) (d : AV) (ys : List t.T) : Option (Nat × Mm) :=
  match d with
  | .hs h => (bif wr h then (match M h with
    | some (.row e te xs) => (match castT (.sl t) (.sl te) ys with
      | some zs => some (min zs.length xs.length, upd M h (some (.row e te (putL xs (zs.take xs.length) 0))))
      | none => none)
    | _ => none) else none)
  | .hv h tv l r => (bif wr h then (match M h with
    | some (.row e te xs) => if tv = te then (match castT (.sl t) (.sl te) ys with
      | some zs => some (min zs.length (r - l), upd M h (some (.row e te (putL xs (zs.take (r - l)) l))))
      | none => none) else none
    | _ => none) else none)
  | _ => none
def lookupA (M : Mm) (kt vt : Ty) (m i : AV) (ok : Bool) : Option AV :=
  match m with
  | .hs h => (match M h with
    | some (.map k v l) => if k = kt then (if v = vt then (match i.as k with
      | some x => some (bif ok then .d (.tup (.pair v (.pair .bool .unit))) ((aget x l).getD v.d, (aget x l).isSome, ()) else .d v ((aget x l).getD v.d))
      | none => none) else none) else none
    | _ => none)
  | _ => none
def putA (M : Mm) (wr : Nat → Bool) (kt vt : Ty) (m i x : AV) : Option Mm :=
  match m with
  | .hs h => (bif wr h then (match M h with
    | some (.map k v l) => if k = kt then (if v = vt then (match i.as k, x.as v with
      | some y, some z => some (upd M h (some (.map k v (aput y z l))))
      | _, _ => none) else none) else none
    | _ => none) else none)
  | _ => none
/-- keys that a map's text may have: what the machine compares at once -/
def Ty.key : Ty → Bool
  | .int _ => true
  | .str => true
  | .bool => true
  | _ => false
def mapT (T : Tab) (i : TypeId) : Option (Ty × Ty) := match look T.maps i with
  | some (a, b) => (match T.ty a, T.ty b with | some k, some v => some (k, v) | _, _ => none)
  | none => none

/-- what must not be reached -/
def Never : Prop := False
/-- what an operation gives; own: the operations whose new memory the call writes again; wr: the objects that may be written; nm: the name of what is made -/
def opA (T : Tab) (own : List Nat) (wr : Nat → Bool) (dst nm : Nat) (ty : TypeId) (op : Op) (ev : Operand → AV) (M : Mm) : Option Out :=
  match op with
  | .move x => some ⟨none, typed T ty (ev x), M⟩
  | .assign x => some ⟨none, typed T ty (ev x), M⟩
  | .pick c a b => (match ev c with | .d .bool g => out1 M (pickA g (ev a) (ev b)) | _ => none)
  | .binOp op t x y _ => out1 M (binA op (T.ty t) (ev x) (ev y))
  | .unOp op _ x => out1 M (unA op (ev x))
  | .convert s t x => (match T.ty s, T.ty t with | some _, some τ => out1 M (convA τ (ev x)) | _, _ => none)
  | .nilCheck x => out0 M (nilA (ev x))
  | .load t a => (match T.ty t with | some τ => out0 M (loadA M τ (ev a)) | none => none)
  | .store t a x => (match T.ty t with | some τ => (match storeA M wr τ (ev a) (ev x) with | some M' => some ⟨none, .any, M'⟩ | none => none) | none => none)
  | .fieldAddr s x k => (match T.ty s with
    | some (.st b) => (match fieldT b k with
      | some t => (bif Nat.beq t.sz 0 then none else (match ev x with
        | .kp (.st b') y => (if b' = b then out0 M (projK b' y k) else none)
        | .hp h off => some ⟨none, .hp h (off + offF b k), M⟩
        | _ => none))
      | none => none)
    | _ => none)
  | .field s x k => (match T.ty s with
    | some (.st b) => (match ev x with
      | .d (.st b') y => (if b' = b then out0 M (projA b' y k) else none)
      | .ag l => (match fieldT b k with
        | some t => (bif t.cell && Nat.beq (lenL l) b.sz then (match (dropL (offF b k) l).head? with | some c => some ⟨none, .c c, M⟩ | none => none) else none)
        | none => none)
      | _ => none)
    | _ => none)
  | .indexAddr t x i => (match T.ty t, ev i with
    | some (.sl τ), .d (.int _) n => (match ev x with
      | .d (.sl τ') xs => (if τ' = τ then some ⟨some (0 ≤ n ∧ n < ((List.length xs : Nat) : Int)), .kp τ' (List.getD xs n.toNat τ'.d), M⟩ else none)
      | .hs h => (match M h with
        | some (.row _ τ' xs) => (if τ' = τ then some ⟨some (0 ≤ n ∧ n < ((List.length xs : Nat) : Int)), .he h τ' n.toNat, M⟩ else none)
        | _ => none)
      | _ => none)
    | some (.arr N τ), .d (.int _) n => (match ev x with
      | .kp (.arr N' τ') xs => (if (Ty.arr N' τ') = .arr N τ then some ⟨some (0 ≤ n ∧ n < ((List.length xs : Nat) : Int)), .kp τ' (List.getD xs n.toNat τ'.d), M⟩ else none)
      | _ => none)
    | _, _ => none)
  | .index t x i => (match T.ty t, ev x, ev i with
    | some .str, .d .str s, .d (.int _) n => some ⟨some (0 ≤ n ∧ n < ((List.length s : Nat) : Int)), .d (.int .u8) ((List.getD s n.toNat 0).toNat : Int), M⟩
    | some (.arr N τ), .d (.arr N' τ') xs, .d (.int _) n => (if (Ty.arr N' τ') = .arr N τ then some ⟨some (0 ≤ n ∧ n < ((List.length xs : Nat) : Int)), .d τ' (List.getD xs n.toNat τ'.d), M⟩ else none)
    | _, _, _ => none)
  | .slice t x l h m => (match T.ty t with
    | some τ => (match optInt (l.map ev), optInt (h.map ev), optInt (m.map ev) with
      | some l, some h, some m => (bif memB own dst then (match τ with | .sl _ => cutA M wr nm (ev x) l h m | _ => none) else (match viewA M τ (ev x) l h m with | some p => out1 M (some p) | none => out1 M (partA τ (ev x) l h m)))
      | _, _, _ => none)
    | none => none)
  | .build t ps => (match T.ty t with
    | some (.st b) => (match (bif memB own dst then none else setFs b (ps.toList.map fun p => (p.1, ev p.2)) b.d) with
      | some x => some ⟨none, .d (.st b) x, M⟩
      | none => (match setAg M b (ps.toList.map fun p => (p.1, ev p.2)) (leafN b) with | some l => some ⟨none, .ag l, M⟩ | none => none))
    | _ => none)
  | .buildSlice t n ps => (match look T.tys t with
    | some ⟨.sl τ, _, e⟩ => (bif Nat.ble (n * τ.sz) 16777216 && Nat.blt 0 τ.sz then (match setEs τ (ps.toList.map fun p => (p.1, ev p.2)) (replL n τ.d) with
      | some xs => (bif memB own dst then some ⟨none, .hs nm, upd M nm (some (.row e τ xs))⟩ else some ⟨none, .d (.sl τ) xs, M⟩)
      | none => none) else none)
    | _ => none)
  | .makeSlice t l c => (match look T.tys t with
    | some ⟨.sl τ, _, e⟩ => (match look T.tys e, ev l, ev c with
      | some te, .d (.int .i64) n, .d (.int .i64) m => (bif Nat.blt 0 τ.sz && Nat.blt 0 te.bytes then some ⟨some (0 ≤ n ∧ n ≤ m ∧ m * (te.bytes : Int) ≤ 140737488355328), .hs nm, upd M nm (some (.row e τ (List.replicate n.toNat τ.d)))⟩ else none)
      | _, _, _ => none)
    | _ => none)
  | .makeMap t none => (match mapT T t with | some (k, v) => some ⟨none, .hs nm, upd M nm (some (.map k v []))⟩ | none => none)
  | .lookup t m i ok => (match mapT T t with | some (k, v) => bif k.key then out0 M (lookupA M k v (ev m) (ev i) ok) else none | none => none)
  | .mapUpdate t m i x => (match mapT T t with | some (k, v) => bif k.key then (match putA M wr k v (ev m) (ev i) (ev x) with | some M' => some ⟨none, .any, M'⟩ | none => none) else none | none => none)
  | .box t x => (match T.ty t with
    | some τ => (bif memB own dst
      then (match τ with
        | .st b => (match (ev x).leaves M (.st b) with | some l => (bif Nat.beq (lenL l) b.sz && capsB M l then some ⟨none, .hp nm 0, upd M nm (some (.cells (avs l)))⟩ else none) | none => none)
        | _ => (bif τ.cell && (ev x).cellB M then some ⟨none, .hp nm 0, upd M nm (some (.cells [ev x]))⟩ else none))
      else (match (ev x).as τ with | some y => some ⟨none, .kp τ y, M⟩ | none => none))
    | none => none)
  | .alloc t => (match T.ty t with
    | some τ => (bif memB own dst then some ⟨none, .hp nm 0, upd M nm (some (.cells (avs (leafN τ))))⟩ else some ⟨none, .kp τ τ.d, M⟩)
    | none => none)
  | .makeFunc (.func f) first caps => (bif Nat.beq (lenL first.toList) 0 then (match capsA (caps.toList.map ev) with | some cs => some ⟨none, .fn f cs, M⟩ | none => none) else none)
  | .makeInterface t x => (match T.ty t with | some τ => (match (ev x).as τ with | some y => some ⟨none, .ifd t τ y, M⟩ | none => none) | none => none)
  | .extract x k => (match ev x with
    | .d (.tup b) y => out0 M (projA b y k)
    | .tg l => (match (dropL k l).head? with | some c => some ⟨none, .c c, M⟩ | none => none)
    | _ => none)
  | .panic _ => some ⟨some Never, .any, M⟩
  | .call { callee := .builtin .len, args, argTypes } => (match args.toList, argTypes.toList with | [x], [t] => (match T.ty t with | some τ => out0 M (lenA M τ (ev x)) | none => none) | _, _ => none)
  | .call { callee := .builtin .append, args, argTypes } => (match args.toList, argTypes.toList with
    | [s, x], [t, t'] => (bif Nat.beq t t' then (match look T.tys t with
      | some ⟨.sl τ, _, e⟩ => (match look T.tys e, rowOf M wr e τ (ev s), srcA M τ (ev x) with
        | some te, some (h, xs), some ys => (bif Nat.blt 0 τ.sz && Nat.blt 0 te.bytes then
            (bif memB own dst then some ⟨some (((List.length xs + List.length ys : Nat) : Int) * (te.bytes : Int) ≤ 140737488355328), .hs nm, upd (killM M h) nm (some (.row e τ (xs ++ ys)))⟩
              else some ⟨some (((List.length xs + List.length ys : Nat) : Int) * (te.bytes : Int) ≤ 140737488355328), .d (.sl τ) (xs ++ ys), killM M h⟩) else none)
        | _, _, _ => none)
      | _ => none) else none)
    | _, _ => none)
  | .call { callee := .builtin .copy, args, argTypes } => (match args.toList, argTypes.toList with
    | [d, s], [t, t'] => (bif Nat.beq t t' then (match T.ty t with
      | some (.sl τ) => (bif Nat.blt 0 τ.sz then (match srcA M τ (ev s) with
        | some ys => (match copyA M wr τ (ev d) ys with | some (n, M') => some ⟨none, .d (.int .i64) ((n : Nat) : Int), M'⟩ | none => none)
        | none => none) else none)
      | _ => none) else none)
    | _, _ => none)
  | .call { callee := .builtin .min, args, .. } => (match args.toList with
    | [x, y] => (match ev x, ev y with | .d (.int k) a, .d (.int k') b => (if k = k' then some ⟨none, .d (.int k) (min a b), M⟩ else none) | _, _ => none)
    | _ => none)
  | .call { callee := .builtin .max, args, .. } => (match args.toList with
    | [x, y] => (match ev x, ev y with | .d (.int k) a, .d (.int k') b => (if k = k' then some ⟨none, .d (.int k) (max a b), M⟩ else none) | _, _ => none)
    | _ => none)
  | _ => none

/-- function values that share no memory with the call -/
def plainB : List Cap → Bool
  | [] => true
  | .hp _ _ :: _ => false
  | .hs _ :: _ => false
  | _ :: l => plainB l
/-- an argument of a call -/
def argA (M : Mm) (ret : Ty) : Option Ty → AV → Option AV
  | some τ, .hs h => (bif ret.plain && !ret.isT then (match asM M τ (.hs h) with | some x => some (.d τ x) | none => none) else none)
  | some τ, .hv h t l r => (bif ret.plain && !ret.isT then (match asM M τ (.hv h t l r) with | some x => some (.d τ x) | none => none) else none)
  | some τ, a => (match a.as τ with | some x => some (.d τ x) | none => none)
  | none, .fn f cs => bif plainB cs then some (.fn f cs) else none
  | none, .kp t x => some (.kp t x)
  | none, _ => none
def argsA (M : Mm) (ret : Ty) : List (Option Ty) → List AV → Option (List AV)
  | [], [] => some []
  | p :: ps, a :: r => (match argA M ret p a with | some x => (match argsA M ret ps r with | some xs => some (x :: xs) | none => none) | none => none)
  | _, _ => none
structure CallA where
  f : FuncId
  args : List AV
  ret : Ty
  clo : Option (FuncId × List Cap) := none
/-- what a call hands back -/
def CallA.val (q : CallA) (r : q.ret.T) : AV := match q.clo with | some p => .fn p.1 p.2 | none => .d q.ret r
/-- copies of arguments, as a closure captures them -/
def boxesA (l : List AV) : List Nat → Option (List Cap)
  | [] => some []
  | i :: ix => (match l[i]? with
    | some (.d τ x) => (match boxesA l ix with | some cs => some (.kp τ x :: cs) | none => none)
    | _ => none)
/-- a call of a Go function -/
def callA (T : Tab) (ev : Operand → AV) (M : Mm) : Op → Option CallA
  | .call { callee := .value f, args, .. } => (match ev f with
    | .fn g caps => (match look T.fns g with
      | some fi => (match argsA M fi.ret fi.ps (appL (args.toList.map ev) (avs caps)) with | some zs => some ⟨g, zs, fi.ret, none⟩ | none => none)
      | none => (match look T.cls g with
        | some k => (match argsA M (.tup .unit) k.ps (appL (args.toList.map ev) (avs caps)) with
          | some zs => (match boxesA zs k.ix with | some cs => some ⟨g, zs, .bool, some (k.g, cs)⟩ | none => none)
          | none => none)
        | none => none))
    | _ => none)
  | _ => none
theorem boxesA_uses {l : List AV} {h : Nat} : ∀ {ix : List Nat} {cs : List Cap}, boxesA l ix = some cs → ∀ c ∈ cs, c.uses h = false
  | [], cs, e => by simp only [boxesA, Option.some.injEq] at e; subst e; simp
  | i :: ix, cs, e => by
    simp only [boxesA] at e
    split at e <;> try (simp at e; done)
    split at e <;> simp only [Option.some.injEq, reduceCtorEq] at e
    rename_i ds hds
    subst e
    intro c hc
    rcases List.mem_cons.1 hc with rfl | hc
    · rfl
    · exact boxesA_uses hds c hc
theorem callA_val {T : Tab} {ev : Operand → AV} {M : Mm} {op : Op} {q : CallA} (e : callA T ev M op = some q) (r : q.ret.T) (h : Nat) : (q.val r).uses h = false := by
  cases op <;> try (simp [callA] at e; done)
  rename_i c
  obtain ⟨callee, args, tys⟩ := c
  cases callee <;> try (simp [callA] at e; done)
  simp only [callA] at e
  split at e <;> try (simp at e; done)
  split at e
  · split at e <;> simp only [Option.some.injEq, reduceCtorEq] at e
    subst e
    rfl
  · split at e <;> try (simp at e; done)
    split at e <;> try (simp at e; done)
    split at e <;> simp only [Option.some.injEq, reduceCtorEq] at e
    rename_i cs hcs
    subst e
    show (AV.fn _ _).uses h = false
    simp only [AV.uses, List.any_eq_false]
    intro c hc
    simp [boxesA_uses hcs c hc]
def isCallB : Op → Bool
  | .call { callee := .value _, .. } => true
  | _ => false
def allocB (own : List Nat) (d : Nat) : Op → Bool
  | .buildSlice _ _ _ => memB own d
  | .slice _ _ _ _ _ => memB own d
  | .box _ _ => memB own d
  | .alloc _ => memB own d
  | .makeSlice _ _ _ => true
  | .makeMap _ _ => true
  | .call { callee := .builtin .append, .. } => true
  | .call { callee := .value _, .. } => memB own d
  | _ => false
/-- what an operation does to the objects: nothing; it reads; it writes -/
def touch (own : List Nat) (d : Nat) : Op → Nat
  | .load _ _ => 1
  | .indexAddr _ _ _ => 1
  | .build _ _ => 1
  | .lookup _ _ _ _ => 1
  | .mapUpdate _ _ _ _ => 2
  | .makeMap _ _ => 2
  | .store _ _ _ => 2
  | .makeSlice _ _ _ => 2
  | .slice _ _ _ _ _ => bif memB own d then 2 else 1
  | .box _ _ => bif memB own d then 2 else 0
  | .alloc _ => bif memB own d then 2 else 0
  | .buildSlice _ _ _ => bif memB own d then 2 else 0
  | .call { callee := .builtin .append, .. } => 2
  | .call { callee := .builtin .copy, .. } => 2
  | .call { callee := .builtin .len, .. } => 1
  | .call { callee := .builtin .min, .. } => 0
  | .call { callee := .builtin .max, .. } => 0
  | .call { callee := .value _, .. } => bif memB own d then 2 else 1
  | .call _ => 1
  | _ => 0
/-- a result that the caller owns, as an object -/
def rowOb (e : Nat) : (t : Ty) → t.T → Option Ob
  | .sl τ, xs => some (.row e τ xs)
  | _, _ => none
def elemT (T : Tab) (i : TypeId) : Option Nat := match look T.tys i with | some ti => some ti.elem | none => none
def andO : Option Prop → Option Prop → Option Prop
  | none, q => q
  | p, none => p
  | some p, some q => some (p ∧ q)
def impO (c : Bool) : Option Prop → Option Prop
  | none => none
  | some p => some (c = true → p)
def andP : Option Prop → Prop → Prop
  | none, q => q
  | some p, q => p ∧ q
def AV.strip : AV → AV
  | .opt _ a => a
  | a => a
def optO : AV → Option Prop
  | .opt g _ => some (g = true)
  | _ => none
def condsO (ev : Operand → AV) : List Operand → Option Prop
  | [] => none
  | x :: xs => andO (optO (ev x)) (condsO ev xs)
/-- is a guarded operation carried out? -/
def guardC : AV → Bool → Option Bool
  | .d .bool g, want => some (bif want then g else !g)
  | .opt g0 (.d .bool g), want => some (g0 && (bif want then g else !g))
  | _, _ => none
def sameOp : Operand → Operand → Bool
  | .tmp a, .tmp b => Nat.beq a b
  | _, _ => false
/-- what a guarded operation sees: a choice looks at one of two -/
def gev (op : Op) (f : Operand → AV) : Operand → AV := match op with
  | .pick c _ _ => fun x => bif sameOp x c then (f x).strip else f x
  | _ => fun x => (f x).strip
def condL (op : Op) : List Operand := match op with
  | .pick c _ _ => [c]
  | op => op.operands.toList
def updD (e : Env) : Option Nat → AV → Env
  | none, _ => e
  | some d, v => upd e d v
def dstN (o : Oper) : Nat := match o.dst with | some d => d | none => 0
end Go.Proofs.Ytohglckebkgbpaa
