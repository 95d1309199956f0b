/-
  What must be shown of each function, worked out from its text; the kernel holds it against the text.
-/
import Derived.Test.YtohglckebkgbpaaTab
import Derived.Test.YtohglckebkgbpaaNe
namespace Go.Proofs.Ytohglckebkgbpaa
open Go.RowKit
/- foresight/arena.Swap -/
def cx27 : Cx := { T := tT, own := ownT, frz := [], loops := [(270006, 228, ⟨[.val 24 (.int .i64), .obj 117 [.own 0 3 (.int .i64), .own 1 3 (.int .i64), .own 2 22 (.sl (.int .i64))]], 3⟩)], cuts := [], inl := inlT }
set_option maxRecDepth 1000000 in
theorem of27 (g : (Ty.T (.st (.pair (.sl (.int .i64)) (.pair (.sl (.int .i64)) (.pair (.sl (.sl (.int .i64))) .unit)))))) (r : Ty.T (.st (.pair (.sl (.int .i64)) (.pair (.sl (.int .i64)) (.pair (.sl (.sl (.int .i64))) .unit))))) (h : ∀ R : Ty.T (.st (.pair (.sl (.int .i64)) (.pair (.sl (.int .i64)) (.pair (.sl (.sl (.int .i64))) .unit)))) → Prop, (∀ x, R x ↔ x = r) → WF (.st (.pair (.sl (.int .i64)) (.pair (.sl (.int .i64)) (.pair (.sl (.sl (.int .i64))) .unit)))) g → 
    ∃ r : Bool,
    (CallP Try.prog tT (29 : Nat) [(AV.c (Cap.d (Ty.st (Ty.pair (Ty.sl (Ty.int Go.IntKind.i64)) (Ty.pair (Ty.sl (Ty.int Go.IntKind.i64)) (Ty.pair (Ty.sl (Ty.sl (Ty.int Go.IntKind.i64))) Ty.unit)))) g))] Ty.bool r ∧
    ((((!(!r)) = true) →
      ((!(!r)) = true)) ∧
    ∃ r1 : Bool,
    ((((!(!r)) = true) →
      (((!(!r)) = true) ∧
      CallP Try.prog tT (31 : Nat) [(AV.c (Cap.d (Ty.sl (Ty.int Go.IntKind.i64)) g.2.1)), (AV.c (Cap.d (Ty.int Go.IntKind.i64) (30000 : Int)))] Ty.bool r1)) ∧
    ((((!r) = false) →
      ((!(!r)) = true)) ∧
    ((((selB (!r) true r1) = true) →
      (R (([] : List Int), (([] : List Int), (([] : List (List Int)), ()))))) ∧
    (((selB (!r) true r1) = false) →
      ∃ r2 : (List Int),
      (CallR Try.prog tT (41 : Nat) [(AV.c (Cap.d (Ty.sl (Ty.int Go.IntKind.i64)) g.1))] (3 : Nat) (Ty.sl (Ty.int Go.IntKind.i64)) r2 ∧
      ∃ r3 : (List Int),
      (CallR Try.prog tT (41 : Nat) [(AV.c (Cap.d (Ty.sl (Ty.int Go.IntKind.i64)) g.2.1))] (3 : Nat) (Ty.sl (Ty.int Go.IntKind.i64)) r3 ∧
      ∃ I : ((Int × (((List Int) × ((List Int) × ((List (List Int)) × Unit))) × Unit)) → Prop),
      ∃ μ : ((Int × (((List Int) × ((List Int) × ((List (List Int)) × Unit))) × Unit)) → Nat),
      ((I ((0 : Int), ((r2, (r3, (([] : List (List Int)), ()))), ()))) ∧
      ∀ x : (Int × (((List Int) × ((List Int) × ((List (List Int)) × Unit))) × Unit)),
      ((WF (Ty.int Go.IntKind.i64) x.1 ∧
        (WF (Ty.pair (Ty.sl (Ty.int Go.IntKind.i64)) (Ty.pair (Ty.sl (Ty.int Go.IntKind.i64)) (Ty.pair (Ty.sl (Ty.sl (Ty.int Go.IntKind.i64))) Ty.unit))) x.2.1 ∧
        True)) →
        ((I x) →
          ((((decide (x.1 < (((List.length r2) : Nat) : Int))) = true) →
            ((((0 : Int) ≤ x.1) ∧
            (x.1 < (((List.length x.2.1.1) : Nat) : Int))) ∧
            (inK Go.IntKind.i64 ((1 : Int) - (List.getD x.2.1.1 (Int.toNat x.1) (0 : Int))) ∧
            ((((0 : Int) ≤ x.1) ∧
            (x.1 < (((List.length x.2.1.1) : Nat) : Int))) ∧
            ((((0 : Int) ≤ x.1) ∧
            (x.1 < (((List.length x.2.1.2.1) : Nat) : Int))) ∧
            (inK Go.IntKind.i64 ((List.getD x.2.1.2.1 (Int.toNat x.1) (0 : Int)) + (1 : Int)) ∧
            ((((0 : Int) ≤ x.1) ∧
            (x.1 < (((List.length x.2.1.2.1) : Nat) : Int))) ∧
            ((((0 : Int) ≤ x.1) ∧
            (x.1 < (((List.length g.2.2.1) : Nat) : Int))) ∧
            ∃ r4 : (List Int),
            (CallP Try.prog tT (41 : Nat) [(AV.c (Cap.d (Ty.sl (Ty.int Go.IntKind.i64)) (List.getD g.2.2.1 (Int.toNat x.1) ([] : List Int))))] (Ty.sl (Ty.int Go.IntKind.i64)) r4 ∧
            (((((((List.length x.2.1.2.2.1) + (List.length [r4])) : Nat) : Int) * (((24 : Nat) : Nat) : Int)) ≤ (140737488355328 : Int)) ∧
            (inK Go.IntKind.i64 (x.1 + (1 : Int)) ∧
            ((I ((x.1 + (1 : Int)), (((List.set x.2.1.1 (Int.toNat x.1) ((1 : Int) - (List.getD x.2.1.1 (Int.toNat x.1) (0 : Int)))), ((List.set x.2.1.2.1 (Int.toNat x.1) ((List.getD x.2.1.2.1 (Int.toNat x.1) (0 : Int)) + (1 : Int))), ((x.2.1.2.2.1 ++ [r4]), ()))), ()))) ∧
            ((μ ((x.1 + (1 : Int)), (((List.set x.2.1.1 (Int.toNat x.1) ((1 : Int) - (List.getD x.2.1.1 (Int.toNat x.1) (0 : Int)))), ((List.set x.2.1.2.1 (Int.toNat x.1) ((List.getD x.2.1.2.1 (Int.toNat x.1) (0 : Int)) + (1 : Int))), ((x.2.1.2.2.1 ++ [r4]), ()))), ()))) < (μ x)))))))))))))) ∧
          (((decide (x.1 < (((List.length r2) : Nat) : Int))) = false) →
            (R (x.2.1.1, (x.2.1.2.1, (x.2.1.2.2.1, ())))))))))))))))))) : CallP Try.prog tT 27 [.d (.st (.pair (.sl (.int .i64)) (.pair (.sl (.int .i64)) (.pair (.sl (.sl (.int .i64))) .unit)))) g] (.st (.pair (.sl (.int .i64)) (.pair (.sl (.int .i64)) (.pair (.sl (.sl (.int .i64))) .unit)))) r :=
  callP_of (cx := cx27) (d := 6) mixed tab_ok inl_ok Try.func27 ⟨fun _ _ => by kernel_rfl⟩ rfl rfl fun wf => Eq.mpr (by kernel_rfl) (h (fun x => x = r) (fun _ => Iff.rfl) (wf.1 rfl))
set_option maxRecDepth 1000000 in
theorem sf27 (g : (Ty.T (.st (.pair (.sl (.int .i64)) (.pair (.sl (.int .i64)) (.pair (.sl (.sl (.int .i64))) .unit)))))) (r : Ty.T (.st (.pair (.sl (.int .i64)) (.pair (.sl (.int .i64)) (.pair (.sl (.sl (.int .i64))) .unit))))) (h : ∀ R : Ty.T (.st (.pair (.sl (.int .i64)) (.pair (.sl (.int .i64)) (.pair (.sl (.sl (.int .i64))) .unit)))) → Prop, (∀ x, R x ↔ x = r) → WF (.st (.pair (.sl (.int .i64)) (.pair (.sl (.int .i64)) (.pair (.sl (.sl (.int .i64))) .unit)))) g → 
    (∃ r : Bool,
    (CallP Try.prog tT (29 : Nat) [(AV.c (Cap.d (Ty.st (Ty.pair (Ty.sl (Ty.int Go.IntKind.i64)) (Ty.pair (Ty.sl (Ty.int Go.IntKind.i64)) (Ty.pair (Ty.sl (Ty.sl (Ty.int Go.IntKind.i64))) Ty.unit)))) g))] Ty.bool r ∧
    (∃ r1 : Bool,
    (((r = true) →
      CallP Try.prog tT (31 : Nat) [(AV.c (Cap.d (Ty.sl (Ty.int Go.IntKind.i64)) g.2.1)), (AV.c (Cap.d (Ty.int Go.IntKind.i64) (30000 : Int)))] Ty.bool r1) ∧
    ((((r = false) ∨ (r1 = true)) →
      (R (([] : List Int), (([] : List Int), (([] : List (List Int)), ()))))) ∧
    ((r = true) → (r1 = false) →
      (∃ r2 : (List Int),
      (CallR Try.prog tT (41 : Nat) [(AV.c (Cap.d (Ty.sl (Ty.int Go.IntKind.i64)) g.1))] (3 : Nat) (Ty.sl (Ty.int Go.IntKind.i64)) r2 ∧
      (∃ r3 : (List Int),
      (CallR Try.prog tT (41 : Nat) [(AV.c (Cap.d (Ty.sl (Ty.int Go.IntKind.i64)) g.2.1))] (3 : Nat) (Ty.sl (Ty.int Go.IntKind.i64)) r3 ∧
      (∃ I : ((Int × (((List Int) × ((List Int) × ((List (List Int)) × Unit))) × Unit)) → Prop),
      (∃ μ : ((Int × (((List Int) × ((List Int) × ((List (List Int)) × Unit))) × Unit)) → Nat),
      ((I ((0 : Int), ((r2, (r3, (([] : List (List Int)), ()))), ()))) ∧
      (∀ x : (Int × (((List Int) × ((List Int) × ((List (List Int)) × Unit))) × Unit)),
      ((WF (Ty.int Go.IntKind.i64) x.1 ∧
        (WF (Ty.pair (Ty.sl (Ty.int Go.IntKind.i64)) (Ty.pair (Ty.sl (Ty.int Go.IntKind.i64)) (Ty.pair (Ty.sl (Ty.sl (Ty.int Go.IntKind.i64))) Ty.unit))) x.2.1 ∧
        True)) →
        ((I x) →
          (((x.1 < (((List.length r2) : Nat) : Int)) →
            ((((0 : Int) ≤ x.1) ∧
            (x.1 < (((List.length x.2.1.1) : Nat) : Int))) ∧
            (inK Go.IntKind.i64 ((1 : Int) - (List.getD x.2.1.1 (Int.toNat x.1) (0 : Int))) ∧
            ((x.1 < (((List.length x.2.1.2.1) : Nat) : Int)) ∧
            (inK Go.IntKind.i64 ((List.getD x.2.1.2.1 (Int.toNat x.1) (0 : Int)) + (1 : Int)) ∧
            ((x.1 < (((List.length g.2.2.1) : Nat) : Int)) ∧
            (∃ r4 : (List Int),
            (CallP Try.prog tT (41 : Nat) [(AV.c (Cap.d (Ty.sl (Ty.int Go.IntKind.i64)) (List.getD g.2.2.1 (Int.toNat x.1) ([] : List Int))))] (Ty.sl (Ty.int Go.IntKind.i64)) r4 ∧
            (((((((List.length x.2.1.2.2.1) + (List.length [r4])) : Nat) : Int) * (((24 : Nat) : Nat) : Int)) ≤ (140737488355328 : Int)) ∧
            (inK Go.IntKind.i64 (x.1 + (1 : Int)) ∧
            ((I ((x.1 + (1 : Int)), (((List.set x.2.1.1 (Int.toNat x.1) ((1 : Int) - (List.getD x.2.1.1 (Int.toNat x.1) (0 : Int)))), ((List.set x.2.1.2.1 (Int.toNat x.1) ((List.getD x.2.1.2.1 (Int.toNat x.1) (0 : Int)) + (1 : Int))), ((x.2.1.2.2.1 ++ [r4]), ()))), ()))) ∧
            ((μ ((x.1 + (1 : Int)), (((List.set x.2.1.1 (Int.toNat x.1) ((1 : Int) - (List.getD x.2.1.1 (Int.toNat x.1) (0 : Int)))), ((List.set x.2.1.2.1 (Int.toNat x.1) ((List.getD x.2.1.2.1 (Int.toNat x.1) (0 : Int)) + (1 : Int))), ((x.2.1.2.2.1 ++ [r4]), ()))), ()))) < (μ x))))))))))))) ∧
          (((((List.length r2) : Nat) : Int) ≤ x.1) →
            (R (x.2.1.1, (x.2.1.2.1, (x.2.1.2.2.1, ()))))))))))))))))))))))) : CallP Try.prog tT 27 [.d (.st (.pair (.sl (.int .i64)) (.pair (.sl (.int .i64)) (.pair (.sl (.sl (.int .i64))) .unit)))) g] (.st (.pair (.sl (.int .i64)) (.pair (.sl (.int .i64)) (.pair (.sl (.sl (.int .i64))) .unit)))) r :=
  of27 g r fun R hR w0_ => have p := h R hR w0_
    (Exists.elim p fun r q1 => Exists.intro r ⟨q1.1, ⟨(fun h3 => h3), (Exists.elim q1.2 fun r1 q4 => Exists.intro r1 ⟨(fun h10 => ⟨h10, (q4.1 (bnot_f (bnot_t h10)))⟩), ⟨(fun h13 => (bnot_t2 h13)), ⟨(fun h19 => (q4.2.1 (Or.imp (fun h => (bnot_t h)) (fun h => h) (selB_ot h19)))), (fun h21 => (Exists.elim (q4.2.2 (bnot_f (selB_of h21).1) ((selB_of h21).2)) fun r2 q22 => Exists.intro r2 ⟨q22.1, (Exists.elim q22.2 fun r3 q23 => Exists.intro r3 ⟨q23.1, (Exists.elim q23.2 fun I q24 => Exists.intro I (Exists.elim q24 fun μ q25 => Exists.intro μ ⟨q25.1, (fun x => (fun h26 => (fun h27 => ⟨(fun h34 => ⟨⟨((((q25.2 x) h26) h27).1 (of_decide_eq_true h34)).1.1, ((((q25.2 x) h26) h27).1 (of_decide_eq_true h34)).1.2⟩, ⟨((((q25.2 x) h26) h27).1 (of_decide_eq_true h34)).2.1, ⟨⟨((((q25.2 x) h26) h27).1 (of_decide_eq_true h34)).1.1, ((((q25.2 x) h26) h27).1 (of_decide_eq_true h34)).1.2⟩, ⟨⟨((((q25.2 x) h26) h27).1 (of_decide_eq_true h34)).1.1, ((((q25.2 x) h26) h27).1 (of_decide_eq_true h34)).2.2.1⟩, ⟨((((q25.2 x) h26) h27).1 (of_decide_eq_true h34)).2.2.2.1, ⟨⟨((((q25.2 x) h26) h27).1 (of_decide_eq_true h34)).1.1, ((((q25.2 x) h26) h27).1 (of_decide_eq_true h34)).2.2.1⟩, ⟨⟨((((q25.2 x) h26) h27).1 (of_decide_eq_true h34)).1.1, ((((q25.2 x) h26) h27).1 (of_decide_eq_true h34)).2.2.2.2.1⟩, (Exists.elim ((((q25.2 x) h26) h27).1 (of_decide_eq_true h34)).2.2.2.2.2 fun r4 q35 => Exists.intro r4 ⟨q35.1, ⟨q35.2.1, ⟨q35.2.2.1, ⟨q35.2.2.2.1, q35.2.2.2.2⟩⟩⟩⟩)⟩⟩⟩⟩⟩⟩⟩), (fun h37 => ((((q25.2 x) h26) h27).2 (Int.not_lt.1 (of_decide_eq_false h37))))⟩)))⟩))⟩)⟩))⟩⟩⟩)⟩⟩)
/- foresight/foresightlaw25.StrategyExchange -/
def cx8 : Cx := { T := tT, own := ownT, frz := [(80015, 1391, [.row 973])], loops := [(80009, 973, ⟨[.val 15 (.int .i64), .obj 709 [.d (.sl (.int .i64)), .own 0 3 (.int .i64), .d (.sl (.sl (.int .i64)))]], 1⟩)], cuts := [], inl := inlT }
set_option maxRecDepth 1000000 in
theorem of8 (g : (Ty.T (.st (.pair (.sl (.int .i64)) (.pair (.sl (.int .i64)) (.pair (.sl (.sl (.int .i64))) .unit)))))) (second : (Ty.T .bool)) (set_ : (Ty.T (.sl .bool))) (s : (Ty.T (.sl (.int .i64)))) (x_ : (Ty.T (.st (.pair (.sl (.int .i64)) (.pair (.sl (.int .i64)) .unit))))) (r : Ty.T .bool) (h : ∀ R : Ty.T .bool → Prop, (∀ x, R x ↔ x = r) → WF (.st (.pair (.sl (.int .i64)) (.pair (.sl (.int .i64)) (.pair (.sl (.sl (.int .i64))) .unit)))) g → WF .bool second → WF (.sl .bool) set_ → WF (.sl (.int .i64)) s → WF (.st (.pair (.sl (.int .i64)) (.pair (.sl (.int .i64)) .unit))) x_ → 
    ∃ r : Bool,
    (CallP Try.prog tT (9 : Nat) [] Ty.bool r ∧
    ∃ r1 : Bool,
    (CallP Try.prog tT (20 : Nat) [(AV.c (Cap.d (Ty.st (Ty.pair (Ty.sl (Ty.int Go.IntKind.i64)) (Ty.pair (Ty.sl (Ty.int Go.IntKind.i64)) (Ty.pair (Ty.sl (Ty.sl (Ty.int Go.IntKind.i64))) Ty.unit)))) g)), (AV.c (Cap.d (Ty.sl Ty.bool) set_)), (AV.c (Cap.d (Ty.sl (Ty.int Go.IntKind.i64)) s))] Ty.bool r1 ∧
    ((((!(!r1)) = true) →
      ((!(!r1)) = true)) ∧
    ((((!(!r1)) = true) →
      ((!(!r1)) = true)) ∧
    ((((!(!r1)) = true) →
      ((!(!r1)) = true)) ∧
    ((((!r1) = false) →
      ((!(!r1)) = true)) ∧
    ((((!(selB (!r1) true (decide ((40 : Int) < (((List.length x_.1) : Nat) : Int))))) = true) →
      ((!(selB (!r1) true (decide ((40 : Int) < (((List.length x_.1) : Nat) : Int))))) = true)) ∧
    ((((!(selB (!r1) true (decide ((40 : Int) < (((List.length x_.1) : Nat) : Int))))) = true) →
      ((!(selB (!r1) true (decide ((40 : Int) < (((List.length x_.1) : Nat) : Int))))) = true)) ∧
    ((((!(selB (!r1) true (decide ((40 : Int) < (((List.length x_.1) : Nat) : Int))))) = true) →
      ((!(selB (!r1) true (decide ((40 : Int) < (((List.length x_.1) : Nat) : Int))))) = true)) ∧
    ((((selB (!r1) true (decide ((40 : Int) < (((List.length x_.1) : Nat) : Int)))) = false) →
      ((!(selB (!r1) true (decide ((40 : Int) < (((List.length x_.1) : Nat) : Int))))) = true)) ∧
    ((((selB (selB (!r1) true (decide ((40 : Int) < (((List.length x_.1) : Nat) : Int)))) true (decide ((40 : Int) < (((List.length x_.2.1) : Nat) : Int)))) = true) →
      (R r)) ∧
    (((selB (selB (!r1) true (decide ((40 : Int) < (((List.length x_.1) : Nat) : Int)))) true (decide ((40 : Int) < (((List.length x_.2.1) : Nat) : Int)))) = false) →
      ∃ r2 : Int,
      (CallP Try.prog tT (21 : Nat) [(AV.c (Cap.d Ty.bool second))] (Ty.int Go.IntKind.i64) r2 ∧
      ∃ r3 : ((List Int) × ((List Int) × ((List (List Int)) × Unit))),
      (CallP Try.prog tT (27 : Nat) [(AV.c (Cap.d (Ty.st (Ty.pair (Ty.sl (Ty.int Go.IntKind.i64)) (Ty.pair (Ty.sl (Ty.int Go.IntKind.i64)) (Ty.pair (Ty.sl (Ty.sl (Ty.int Go.IntKind.i64))) Ty.unit)))) g))] (Ty.st (Ty.pair (Ty.sl (Ty.int Go.IntKind.i64)) (Ty.pair (Ty.sl (Ty.int Go.IntKind.i64)) (Ty.pair (Ty.sl (Ty.sl (Ty.int Go.IntKind.i64))) Ty.unit)))) r3 ∧
      ∃ I : ((Int × (((List Int) × ((List Int) × ((List (List Int)) × Unit))) × Unit)) → Prop),
      ∃ μ : ((Int × (((List Int) × ((List Int) × ((List (List Int)) × Unit))) × Unit)) → Nat),
      ((I ((0 : Int), ((g.1, (([] : List Int), (g.2.2.1, ()))), ()))) ∧
      ∀ x : (Int × (((List Int) × ((List Int) × ((List (List Int)) × Unit))) × Unit)),
      ((WF (Ty.int Go.IntKind.i64) x.1 ∧
        (WF (Ty.pair (Ty.sl (Ty.int Go.IntKind.i64)) (Ty.pair (Ty.sl (Ty.int Go.IntKind.i64)) (Ty.pair (Ty.sl (Ty.sl (Ty.int Go.IntKind.i64))) Ty.unit))) x.2.1 ∧
        True)) →
        ((I x) →
          ((((decide (x.1 < (((List.length g.2.1) : Nat) : Int))) = true) →
            ((((0 : Int) ≤ x.1) ∧
            (x.1 < (((List.length g.2.1) : Nat) : Int))) ∧
            ((((decide ((1000 : Int) < (List.getD g.2.1 (Int.toNat x.1) (0 : Int)))) = true) →
              (R r)) ∧
            (((decide ((1000 : Int) < (List.getD g.2.1 (Int.toNat x.1) (0 : Int)))) = false) →
              ((((0 : Int) ≤ x.1) ∧
              (x.1 < (((List.length g.2.1) : Nat) : Int))) ∧
              (inK Go.IntKind.i64 ((List.getD g.2.1 (Int.toNat x.1) (0 : Int)) + (2 : Int)) ∧
              (((((((List.length x.2.1.2.1) + (List.length [((List.getD g.2.1 (Int.toNat x.1) (0 : Int)) + (2 : Int))])) : Nat) : Int) * (((8 : Nat) : Nat) : Int)) ≤ (140737488355328 : Int)) ∧
              (inK Go.IntKind.i64 (x.1 + (1 : Int)) ∧
              ((I ((x.1 + (1 : Int)), ((x.2.1.1, ((x.2.1.2.1 ++ [((List.getD g.2.1 (Int.toNat x.1) (0 : Int)) + (2 : Int))]), (x.2.1.2.2.1, ()))), ()))) ∧
              ((μ ((x.1 + (1 : Int)), ((x.2.1.1, ((x.2.1.2.1 ++ [((List.getD g.2.1 (Int.toNat x.1) (0 : Int)) + (2 : Int))]), (x.2.1.2.2.1, ()))), ()))) < (μ x))))))))))) ∧
          (((decide (x.1 < (((List.length g.2.1) : Nat) : Int))) = false) →
            ∃ r4 : Int,
            (CallP Try.prog tT (18 : Nat) [(AV.c (Cap.d (Ty.st (Ty.pair (Ty.sl (Ty.int Go.IntKind.i64)) (Ty.pair (Ty.sl (Ty.int Go.IntKind.i64)) (Ty.pair (Ty.sl (Ty.sl (Ty.int Go.IntKind.i64))) Ty.unit)))) g)), (AV.c (Cap.d (Ty.st (Ty.pair (Ty.sl (Ty.int Go.IntKind.i64)) (Ty.pair (Ty.sl (Ty.int Go.IntKind.i64)) Ty.unit))) x_))] (Ty.int Go.IntKind.i64) r4 ∧
            ∃ r5 : Int,
            (CallP Try.prog tT (18 : Nat) [(AV.c (Cap.d (Ty.st (Ty.pair (Ty.sl (Ty.int Go.IntKind.i64)) (Ty.pair (Ty.sl (Ty.int Go.IntKind.i64)) (Ty.pair (Ty.sl (Ty.sl (Ty.int Go.IntKind.i64))) Ty.unit)))) (r3.1, (r3.2.1, (r3.2.2.1, ()))))), (AV.c (Cap.d (Ty.st (Ty.pair (Ty.sl (Ty.int Go.IntKind.i64)) (Ty.pair (Ty.sl (Ty.int Go.IntKind.i64)) Ty.unit))) x_))] (Ty.int Go.IntKind.i64) r5 ∧
            ((((!(!((decide (r4 < (0 : Int))) == (decide (r5 < (0 : Int)))))) = true) →
              ((!(!((decide (r4 < (0 : Int))) == (decide (r5 < (0 : Int)))))) = true)) ∧
            ((((!(!((decide (r4 < (0 : Int))) == (decide (r5 < (0 : Int)))))) = true) →
              ((!(!((decide (r4 < (0 : Int))) == (decide (r5 < (0 : Int)))))) = true)) ∧
            (((((!(!((decide (r4 < (0 : Int))) == (decide (r5 < (0 : Int)))))) && (decide ((0 : Int) ≤ r4))) = true) →
              ((((!(!((decide (r4 < (0 : Int))) == (decide (r5 < (0 : Int)))))) && (decide ((0 : Int) ≤ r4))) = true) ∧
              inK Go.IntKind.i64 ((1 : Int) - r4))) ∧
            (((((!(!((decide (r4 < (0 : Int))) == (decide (r5 < (0 : Int)))))) && (decide ((0 : Int) ≤ r4))) = true) →
              ((((!(!((decide (r4 < (0 : Int))) == (decide (r5 < (0 : Int)))))) && (decide ((0 : Int) ≤ r4))) = true) ∧
              (((!(!((decide (r4 < (0 : Int))) == (decide (r5 < (0 : Int)))))) && (decide ((0 : Int) ≤ r4))) = true))) ∧
            ((((!(!((decide (r4 < (0 : Int))) == (decide (r5 < (0 : Int)))))) = true) →
              (((!(!((decide (r4 < (0 : Int))) == (decide (r5 < (0 : Int)))))) = true) ∧
              (((decide ((0 : Int) ≤ r4)) = true) →
                (((!(!((decide (r4 < (0 : Int))) == (decide (r5 < (0 : Int)))))) && (decide ((0 : Int) ≤ r4))) = true)))) ∧
            ((((!((decide (r4 < (0 : Int))) == (decide (r5 < (0 : Int))))) = false) →
              ((!(!((decide (r4 < (0 : Int))) == (decide (r5 < (0 : Int)))))) = true)) ∧
            ∃ r6 : Int,
            ((((!(selB (!((decide (r4 < (0 : Int))) == (decide (r5 < (0 : Int))))) true (selB (decide ((0 : Int) ≤ r4)) (!(decide (r5 = ((1 : Int) - r4)))) false))) = true) →
              ((((!(selB (!((decide (r4 < (0 : Int))) == (decide (r5 < (0 : Int))))) true (selB (decide ((0 : Int) ≤ r4)) (!(decide (r5 = ((1 : Int) - r4)))) false))) = true) ∧
              ((!(selB (!((decide (r4 < (0 : Int))) == (decide (r5 < (0 : Int))))) true (selB (decide ((0 : Int) ≤ r4)) (!(decide (r5 = ((1 : Int) - r4)))) false))) = true)) ∧
              CallP Try.prog tT (18 : Nat) [(AV.c (Cap.d (Ty.st (Ty.pair (Ty.sl (Ty.int Go.IntKind.i64)) (Ty.pair (Ty.sl (Ty.int Go.IntKind.i64)) (Ty.pair (Ty.sl (Ty.sl (Ty.int Go.IntKind.i64))) Ty.unit)))) (x.2.1.1, (x.2.1.2.1, (x.2.1.2.2.1, ()))))), (AV.c (Cap.d (Ty.st (Ty.pair (Ty.sl (Ty.int Go.IntKind.i64)) (Ty.pair (Ty.sl (Ty.int Go.IntKind.i64)) Ty.unit))) x_))] (Ty.int Go.IntKind.i64) r6)) ∧
            ((((!(selB (!((decide (r4 < (0 : Int))) == (decide (r5 < (0 : Int))))) true (selB (decide ((0 : Int) ≤ r4)) (!(decide (r5 = ((1 : Int) - r4)))) false))) = true) →
              (((!(selB (!((decide (r4 < (0 : Int))) == (decide (r5 < (0 : Int))))) true (selB (decide ((0 : Int) ≤ r4)) (!(decide (r5 = ((1 : Int) - r4)))) false))) = true) ∧
              ((!(selB (!((decide (r4 < (0 : Int))) == (decide (r5 < (0 : Int))))) true (selB (decide ((0 : Int) ≤ r4)) (!(decide (r5 = ((1 : Int) - r4)))) false))) = true))) ∧
            ((((selB (!((decide (r4 < (0 : Int))) == (decide (r5 < (0 : Int))))) true (selB (decide ((0 : Int) ≤ r4)) (!(decide (r5 = ((1 : Int) - r4)))) false)) = false) →
              ((!(selB (!((decide (r4 < (0 : Int))) == (decide (r5 < (0 : Int))))) true (selB (decide ((0 : Int) ≤ r4)) (!(decide (r5 = ((1 : Int) - r4)))) false))) = true)) ∧
            ((((selB (selB (!((decide (r4 < (0 : Int))) == (decide (r5 < (0 : Int))))) true (selB (decide ((0 : Int) ≤ r4)) (!(decide (r5 = ((1 : Int) - r4)))) false)) true (!(decide (r6 = r4)))) = true) →
              (R false)) ∧
            (((selB (selB (!((decide (r4 < (0 : Int))) == (decide (r5 < (0 : Int))))) true (selB (decide ((0 : Int) ≤ r4)) (!(decide (r5 = ((1 : Int) - r4)))) false)) true (!(decide (r6 = r4)))) = false) →
              ∃ r7 : Bool,
              (CallP Try.prog tT (15 : Nat) [(AV.c (Cap.d (Ty.st (Ty.pair (Ty.sl (Ty.int Go.IntKind.i64)) (Ty.pair (Ty.sl (Ty.int Go.IntKind.i64)) (Ty.pair (Ty.sl (Ty.sl (Ty.int Go.IntKind.i64))) Ty.unit)))) g)), (AV.c (Cap.d (Ty.int Go.IntKind.i64) r2)), (AV.c (Cap.d (Ty.sl Ty.bool) set_)), (AV.c (Cap.d (Ty.sl (Ty.int Go.IntKind.i64)) s))] Ty.bool r7 ∧
              (((r = true) →
                ((r = true) ∧
                inK Go.IntKind.i64 ((1 : Int) - r2))) ∧
              ∃ r8 : Bool,
              (((r = true) →
                (((r = true) ∧
                ((r = true) ∧
                ((r = true) ∧
                (r = true)))) ∧
                CallP Try.prog tT (13 : Nat) [(AV.c (Cap.d (Ty.st (Ty.pair (Ty.sl (Ty.int Go.IntKind.i64)) (Ty.pair (Ty.sl (Ty.int Go.IntKind.i64)) (Ty.pair (Ty.sl (Ty.sl (Ty.int Go.IntKind.i64))) Ty.unit)))) (r3.1, (r3.2.1, (r3.2.2.1, ()))))), (AV.c (Cap.d (Ty.int Go.IntKind.i64) ((1 : Int) - r2))), (AV.c (Cap.d (Ty.sl Ty.bool) set_)), (AV.c (Cap.d (Ty.sl (Ty.int Go.IntKind.i64)) s))] Ty.bool r8)) ∧
              ∃ r9 : Bool,
              (((r = true) →
                (((r = true) ∧
                ((r = true) ∧
                ((r = true) ∧
                (r = true)))) ∧
                CallP Try.prog tT (13 : Nat) [(AV.c (Cap.d (Ty.st (Ty.pair (Ty.sl (Ty.int Go.IntKind.i64)) (Ty.pair (Ty.sl (Ty.int Go.IntKind.i64)) (Ty.pair (Ty.sl (Ty.sl (Ty.int Go.IntKind.i64))) Ty.unit)))) g)), (AV.c (Cap.d (Ty.int Go.IntKind.i64) r2)), (AV.c (Cap.d (Ty.sl Ty.bool) set_)), (AV.c (Cap.d (Ty.sl (Ty.int Go.IntKind.i64)) s))] Ty.bool r9)) ∧
              (((r = true) →
                ((r = true) ∧
                (r = true))) ∧
              (((r = true) →
                (r = true)) ∧
              ((((selB r (r8 == r9) false) = true) →
                (((selB r (r8 == r9) false) = true) ∧
                inK Go.IntKind.i64 ((1 : Int) - r2))) ∧
              ∃ r10 : Bool,
              ((((selB r (r8 == r9) false) = true) →
                ((((selB r (r8 == r9) false) = true) ∧
                (((selB r (r8 == r9) false) = true) ∧
                (((selB r (r8 == r9) false) = true) ∧
                ((selB r (r8 == r9) false) = true)))) ∧
                CallP Try.prog tT (15 : Nat) [(AV.c (Cap.d (Ty.st (Ty.pair (Ty.sl (Ty.int Go.IntKind.i64)) (Ty.pair (Ty.sl (Ty.int Go.IntKind.i64)) (Ty.pair (Ty.sl (Ty.sl (Ty.int Go.IntKind.i64))) Ty.unit)))) (r3.1, (r3.2.1, (r3.2.2.1, ()))))), (AV.c (Cap.d (Ty.int Go.IntKind.i64) ((1 : Int) - r2))), (AV.c (Cap.d (Ty.sl Ty.bool) set_)), (AV.c (Cap.d (Ty.sl (Ty.int Go.IntKind.i64)) s))] Ty.bool r10)) ∧
              ((((selB r (r8 == r9) false) = true) →
                (((selB r (r8 == r9) false) = true) ∧
                ((selB r (r8 == r9) false) = true))) ∧
              ((((selB r (r8 == r9) false) = true) →
                ((selB r (r8 == r9) false) = true)) ∧
              ∃ r11 : Bool,
              ((((selB (selB r (r8 == r9) false) (r10 == r7) false) = true) →
                ((((selB (selB r (r8 == r9) false) (r10 == r7) false) = true) ∧
                (((selB (selB r (r8 == r9) false) (r10 == r7) false) = true) ∧
                (((selB (selB r (r8 == r9) false) (r10 == r7) false) = true) ∧
                ((selB (selB r (r8 == r9) false) (r10 == r7) false) = true)))) ∧
                CallP Try.prog tT (15 : Nat) [(AV.c (Cap.d (Ty.st (Ty.pair (Ty.sl (Ty.int Go.IntKind.i64)) (Ty.pair (Ty.sl (Ty.int Go.IntKind.i64)) (Ty.pair (Ty.sl (Ty.sl (Ty.int Go.IntKind.i64))) Ty.unit)))) (x.2.1.1, (x.2.1.2.1, (x.2.1.2.2.1, ()))))), (AV.c (Cap.d (Ty.int Go.IntKind.i64) r2)), (AV.c (Cap.d (Ty.sl Ty.bool) set_)), (AV.c (Cap.d (Ty.sl (Ty.int Go.IntKind.i64)) s))] Ty.bool r11)) ∧
              ((((selB (selB r (r8 == r9) false) (r10 == r7) false) = true) →
                (((selB (selB r (r8 == r9) false) (r10 == r7) false) = true) ∧
                ((selB (selB r (r8 == r9) false) (r10 == r7) false) = true))) ∧
              ((((selB (selB r (r8 == r9) false) (r10 == r7) false) = true) →
                ((selB (selB r (r8 == r9) false) (r10 == r7) false) = true)) ∧
              (R (selB (selB (selB r (r8 == r9) false) (r10 == r7) false) (r11 == r7) false)))))))))))))))))))))))))))))))))))))))))))))))) : CallP Try.prog tT 8 [.d (.st (.pair (.sl (.int .i64)) (.pair (.sl (.int .i64)) (.pair (.sl (.sl (.int .i64))) .unit)))) g, .d .bool second, .d (.sl .bool) set_, .d (.sl (.int .i64)) s, .d (.st (.pair (.sl (.int .i64)) (.pair (.sl (.int .i64)) .unit))) x_] .bool r :=
  callP_of (cx := cx8) (d := 6) mixed tab_ok inl_ok Try.func8 ⟨fun _ _ => by kernel_rfl⟩ rfl rfl fun wf => Eq.mpr (by kernel_rfl) (h (fun x => x = r) (fun _ => Iff.rfl) (wf.1 rfl) (wf.2.1 rfl) (wf.2.2.1 rfl) (wf.2.2.2.1 rfl) (wf.2.2.2.2.1 rfl))
set_option maxRecDepth 1000000 in
theorem sf8 (g : (Ty.T (.st (.pair (.sl (.int .i64)) (.pair (.sl (.int .i64)) (.pair (.sl (.sl (.int .i64))) .unit)))))) (second : (Ty.T .bool)) (set_ : (Ty.T (.sl .bool))) (s : (Ty.T (.sl (.int .i64)))) (x_ : (Ty.T (.st (.pair (.sl (.int .i64)) (.pair (.sl (.int .i64)) .unit))))) (r : Ty.T .bool) (h : ∀ R : Ty.T .bool → Prop, (∀ x, R x ↔ x = r) → WF (.st (.pair (.sl (.int .i64)) (.pair (.sl (.int .i64)) (.pair (.sl (.sl (.int .i64))) .unit)))) g → WF .bool second → WF (.sl .bool) set_ → WF (.sl (.int .i64)) s → WF (.st (.pair (.sl (.int .i64)) (.pair (.sl (.int .i64)) .unit))) x_ → 
    (∃ r : Bool,
    (CallP Try.prog tT (9 : Nat) [] Ty.bool r ∧
    (∃ r1 : Bool,
    (CallP Try.prog tT (20 : Nat) [(AV.c (Cap.d (Ty.st (Ty.pair (Ty.sl (Ty.int Go.IntKind.i64)) (Ty.pair (Ty.sl (Ty.int Go.IntKind.i64)) (Ty.pair (Ty.sl (Ty.sl (Ty.int Go.IntKind.i64))) Ty.unit)))) g)), (AV.c (Cap.d (Ty.sl Ty.bool) set_)), (AV.c (Cap.d (Ty.sl (Ty.int Go.IntKind.i64)) s))] Ty.bool r1 ∧
    (((((r1 = false) ∨ ((40 : Int) < (((List.length x_.1) : Nat) : Int))) ∨ ((40 : Int) < (((List.length x_.2.1) : Nat) : Int))) →
      (R r)) ∧
    ((r1 = true) → ((((List.length x_.1) : Nat) : Int) ≤ (40 : Int)) → ((((List.length x_.2.1) : Nat) : Int) ≤ (40 : Int)) →
      (∃ r2 : Int,
      (CallP Try.prog tT (21 : Nat) [(AV.c (Cap.d Ty.bool second))] (Ty.int Go.IntKind.i64) r2 ∧
      (∃ r3 : ((List Int) × ((List Int) × ((List (List Int)) × Unit))),
      (CallP Try.prog tT (27 : Nat) [(AV.c (Cap.d (Ty.st (Ty.pair (Ty.sl (Ty.int Go.IntKind.i64)) (Ty.pair (Ty.sl (Ty.int Go.IntKind.i64)) (Ty.pair (Ty.sl (Ty.sl (Ty.int Go.IntKind.i64))) Ty.unit)))) g))] (Ty.st (Ty.pair (Ty.sl (Ty.int Go.IntKind.i64)) (Ty.pair (Ty.sl (Ty.int Go.IntKind.i64)) (Ty.pair (Ty.sl (Ty.sl (Ty.int Go.IntKind.i64))) Ty.unit)))) r3 ∧
      (∃ I : ((Int × (((List Int) × ((List Int) × ((List (List Int)) × Unit))) × Unit)) → Prop),
      (∃ μ : ((Int × (((List Int) × ((List Int) × ((List (List Int)) × Unit))) × Unit)) → Nat),
      ((I ((0 : Int), ((g.1, (([] : List Int), (g.2.2.1, ()))), ()))) ∧
      (∀ x : (Int × (((List Int) × ((List Int) × ((List (List Int)) × Unit))) × Unit)),
      ((WF (Ty.int Go.IntKind.i64) x.1 ∧
        (WF (Ty.pair (Ty.sl (Ty.int Go.IntKind.i64)) (Ty.pair (Ty.sl (Ty.int Go.IntKind.i64)) (Ty.pair (Ty.sl (Ty.sl (Ty.int Go.IntKind.i64))) Ty.unit))) x.2.1 ∧
        True)) →
        ((I x) →
          (((x.1 < (((List.length g.2.1) : Nat) : Int)) →
            (((0 : Int) ≤ x.1) ∧
            ((((1000 : Int) < (List.getD g.2.1 (Int.toNat x.1) (0 : Int))) →
              (R r)) ∧
            (((List.getD g.2.1 (Int.toNat x.1) (0 : Int)) ≤ (1000 : Int)) →
              (inK Go.IntKind.i64 ((List.getD g.2.1 (Int.toNat x.1) (0 : Int)) + (2 : Int)) ∧
              (((((((List.length x.2.1.2.1) + (List.length [((List.getD g.2.1 (Int.toNat x.1) (0 : Int)) + (2 : Int))])) : Nat) : Int) * (((8 : Nat) : Nat) : Int)) ≤ (140737488355328 : Int)) ∧
              (inK Go.IntKind.i64 (x.1 + (1 : Int)) ∧
              ((I ((x.1 + (1 : Int)), ((x.2.1.1, ((x.2.1.2.1 ++ [((List.getD g.2.1 (Int.toNat x.1) (0 : Int)) + (2 : Int))]), (x.2.1.2.2.1, ()))), ()))) ∧
              ((μ ((x.1 + (1 : Int)), ((x.2.1.1, ((x.2.1.2.1 ++ [((List.getD g.2.1 (Int.toNat x.1) (0 : Int)) + (2 : Int))]), (x.2.1.2.2.1, ()))), ()))) < (μ x)))))))))) ∧
          (((((List.length g.2.1) : Nat) : Int) ≤ x.1) →
            (∃ r4 : Int,
            (CallP Try.prog tT (18 : Nat) [(AV.c (Cap.d (Ty.st (Ty.pair (Ty.sl (Ty.int Go.IntKind.i64)) (Ty.pair (Ty.sl (Ty.int Go.IntKind.i64)) (Ty.pair (Ty.sl (Ty.sl (Ty.int Go.IntKind.i64))) Ty.unit)))) g)), (AV.c (Cap.d (Ty.st (Ty.pair (Ty.sl (Ty.int Go.IntKind.i64)) (Ty.pair (Ty.sl (Ty.int Go.IntKind.i64)) Ty.unit))) x_))] (Ty.int Go.IntKind.i64) r4 ∧
            (∃ r5 : Int,
            (CallP Try.prog tT (18 : Nat) [(AV.c (Cap.d (Ty.st (Ty.pair (Ty.sl (Ty.int Go.IntKind.i64)) (Ty.pair (Ty.sl (Ty.int Go.IntKind.i64)) (Ty.pair (Ty.sl (Ty.sl (Ty.int Go.IntKind.i64))) Ty.unit)))) (r3.1, (r3.2.1, (r3.2.2.1, ()))))), (AV.c (Cap.d (Ty.st (Ty.pair (Ty.sl (Ty.int Go.IntKind.i64)) (Ty.pair (Ty.sl (Ty.int Go.IntKind.i64)) Ty.unit))) x_))] (Ty.int Go.IntKind.i64) r5 ∧
            (((((decide (r4 < (0 : Int))) == (decide (r5 < (0 : Int)))) = true) → ((0 : Int) ≤ r4) →
              inK Go.IntKind.i64 ((1 : Int) - r4)) ∧
            (∃ r6 : Int,
            (((((decide (r4 < (0 : Int))) == (decide (r5 < (0 : Int)))) = true) → ((r4 < (0 : Int)) ∨ (r5 = ((1 : Int) - r4))) →
              CallP Try.prog tT (18 : Nat) [(AV.c (Cap.d (Ty.st (Ty.pair (Ty.sl (Ty.int Go.IntKind.i64)) (Ty.pair (Ty.sl (Ty.int Go.IntKind.i64)) (Ty.pair (Ty.sl (Ty.sl (Ty.int Go.IntKind.i64))) Ty.unit)))) (x.2.1.1, (x.2.1.2.1, (x.2.1.2.2.1, ()))))), (AV.c (Cap.d (Ty.st (Ty.pair (Ty.sl (Ty.int Go.IntKind.i64)) (Ty.pair (Ty.sl (Ty.int Go.IntKind.i64)) Ty.unit))) x_))] (Ty.int Go.IntKind.i64) r6) ∧
            (((((((decide (r4 < (0 : Int))) == (decide (r5 < (0 : Int)))) = false) ∨ (((0 : Int) ≤ r4) ∧ (¬ (r5 = ((1 : Int) - r4))))) ∨ (¬ (r6 = r4))) →
              (R false)) ∧
            ((((decide (r4 < (0 : Int))) == (decide (r5 < (0 : Int)))) = true) → ((r4 < (0 : Int)) ∨ (r5 = ((1 : Int) - r4))) → (r6 = r4) →
              (∃ r7 : Bool,
              (CallP Try.prog tT (15 : Nat) [(AV.c (Cap.d (Ty.st (Ty.pair (Ty.sl (Ty.int Go.IntKind.i64)) (Ty.pair (Ty.sl (Ty.int Go.IntKind.i64)) (Ty.pair (Ty.sl (Ty.sl (Ty.int Go.IntKind.i64))) Ty.unit)))) g)), (AV.c (Cap.d (Ty.int Go.IntKind.i64) r2)), (AV.c (Cap.d (Ty.sl Ty.bool) set_)), (AV.c (Cap.d (Ty.sl (Ty.int Go.IntKind.i64)) s))] Ty.bool r7 ∧
              (((r = true) →
                inK Go.IntKind.i64 ((1 : Int) - r2)) ∧
              (∃ r8 : Bool,
              (((r = true) →
                CallP Try.prog tT (13 : Nat) [(AV.c (Cap.d (Ty.st (Ty.pair (Ty.sl (Ty.int Go.IntKind.i64)) (Ty.pair (Ty.sl (Ty.int Go.IntKind.i64)) (Ty.pair (Ty.sl (Ty.sl (Ty.int Go.IntKind.i64))) Ty.unit)))) (r3.1, (r3.2.1, (r3.2.2.1, ()))))), (AV.c (Cap.d (Ty.int Go.IntKind.i64) ((1 : Int) - r2))), (AV.c (Cap.d (Ty.sl Ty.bool) set_)), (AV.c (Cap.d (Ty.sl (Ty.int Go.IntKind.i64)) s))] Ty.bool r8) ∧
              (∃ r9 : Bool,
              (((r = true) →
                CallP Try.prog tT (13 : Nat) [(AV.c (Cap.d (Ty.st (Ty.pair (Ty.sl (Ty.int Go.IntKind.i64)) (Ty.pair (Ty.sl (Ty.int Go.IntKind.i64)) (Ty.pair (Ty.sl (Ty.sl (Ty.int Go.IntKind.i64))) Ty.unit)))) g)), (AV.c (Cap.d (Ty.int Go.IntKind.i64) r2)), (AV.c (Cap.d (Ty.sl Ty.bool) set_)), (AV.c (Cap.d (Ty.sl (Ty.int Go.IntKind.i64)) s))] Ty.bool r9) ∧
              (∃ r10 : Bool,
              (((r = true) → ((r8 == r9) = true) →
                CallP Try.prog tT (15 : Nat) [(AV.c (Cap.d (Ty.st (Ty.pair (Ty.sl (Ty.int Go.IntKind.i64)) (Ty.pair (Ty.sl (Ty.int Go.IntKind.i64)) (Ty.pair (Ty.sl (Ty.sl (Ty.int Go.IntKind.i64))) Ty.unit)))) (r3.1, (r3.2.1, (r3.2.2.1, ()))))), (AV.c (Cap.d (Ty.int Go.IntKind.i64) ((1 : Int) - r2))), (AV.c (Cap.d (Ty.sl Ty.bool) set_)), (AV.c (Cap.d (Ty.sl (Ty.int Go.IntKind.i64)) s))] Ty.bool r10) ∧
              (∃ r11 : Bool,
              (((r = true) → ((r8 == r9) = true) → ((r10 == r7) = true) →
                CallP Try.prog tT (15 : Nat) [(AV.c (Cap.d (Ty.st (Ty.pair (Ty.sl (Ty.int Go.IntKind.i64)) (Ty.pair (Ty.sl (Ty.int Go.IntKind.i64)) (Ty.pair (Ty.sl (Ty.sl (Ty.int Go.IntKind.i64))) Ty.unit)))) (x.2.1.1, (x.2.1.2.1, (x.2.1.2.2.1, ()))))), (AV.c (Cap.d (Ty.int Go.IntKind.i64) r2)), (AV.c (Cap.d (Ty.sl Ty.bool) set_)), (AV.c (Cap.d (Ty.sl (Ty.int Go.IntKind.i64)) s))] Ty.bool r11) ∧
              (R (selB (selB (selB r (r8 == r9) false) (r10 == r7) false) (r11 == r7) false))))))))))))))))))))))))))))))))))))))))) : CallP Try.prog tT 8 [.d (.st (.pair (.sl (.int .i64)) (.pair (.sl (.int .i64)) (.pair (.sl (.sl (.int .i64))) .unit)))) g, .d .bool second, .d (.sl .bool) set_, .d (.sl (.int .i64)) s, .d (.st (.pair (.sl (.int .i64)) (.pair (.sl (.int .i64)) .unit))) x_] .bool r :=
  of8 g second set_ s x_ r fun R hR w0_ w1_ w2_ w3_ w4_ => have p := h R hR w0_ w1_ w2_ w3_ w4_
    (Exists.elim p fun r q1 => Exists.intro r ⟨q1.1, (Exists.elim q1.2 fun r1 q2 => Exists.intro r1 ⟨q2.1, ⟨(fun h12 => h12), ⟨(fun h21 => h21), ⟨(fun h29 => h29), ⟨(fun h36 => (bnot_t2 h36)), ⟨(fun h42 => h42), ⟨(fun h47 => h47), ⟨(fun h51 => h51), ⟨(fun h54 => (bnot_t2 h54)), ⟨(fun h60 => (q2.2.1 (Or.imp (fun h => (Or.imp (fun h => (bnot_t h)) (fun h => (of_decide_eq_true h)) (selB_ot h))) (fun h => (of_decide_eq_true h)) (selB_ot h60)))), (fun h62 => (Exists.elim (q2.2.2 (bnot_f (selB_of (selB_of h62).1).1) (Int.not_lt.1 (of_decide_eq_false (selB_of (selB_of h62).1).2)) (Int.not_lt.1 (of_decide_eq_false (selB_of h62).2))) fun r2 q63 => Exists.intro r2 ⟨q63.1, (Exists.elim q63.2 fun r3 q64 => Exists.intro r3 ⟨q64.1, (Exists.elim q64.2 fun I q65 => Exists.intro I (Exists.elim q65 fun μ q66 => Exists.intro μ ⟨q66.1, (fun x => (fun h67 => (fun h68 => ⟨(fun h82 => ⟨⟨((((q66.2 x) h67) h68).1 (of_decide_eq_true h82)).1, (of_decide_eq_true h82)⟩, ⟨(fun h88 => (((((q66.2 x) h67) h68).1 (of_decide_eq_true h82)).2.1 (of_decide_eq_true h88))), (fun h90 => ⟨⟨((((q66.2 x) h67) h68).1 (of_decide_eq_true h82)).1, (of_decide_eq_true h82)⟩, ⟨(((((q66.2 x) h67) h68).1 (of_decide_eq_true h82)).2.2 (Int.not_lt.1 (of_decide_eq_false h90))).1, ⟨(((((q66.2 x) h67) h68).1 (of_decide_eq_true h82)).2.2 (Int.not_lt.1 (of_decide_eq_false h90))).2.1, ⟨(((((q66.2 x) h67) h68).1 (of_decide_eq_true h82)).2.2 (Int.not_lt.1 (of_decide_eq_false h90))).2.2.1, ⟨(((((q66.2 x) h67) h68).1 (of_decide_eq_true h82)).2.2 (Int.not_lt.1 (of_decide_eq_false h90))).2.2.2.1, (((((q66.2 x) h67) h68).1 (of_decide_eq_true h82)).2.2 (Int.not_lt.1 (of_decide_eq_false h90))).2.2.2.2⟩⟩⟩⟩⟩)⟩⟩), (fun h92 => (Exists.elim ((((q66.2 x) h67) h68).2 (Int.not_lt.1 (of_decide_eq_false h92))) fun r4 q93 => Exists.intro r4 ⟨q93.1, (Exists.elim q93.2 fun r5 q94 => Exists.intro r5 ⟨q94.1, ⟨(fun h98 => h98), ⟨(fun h101 => h101), ⟨(fun h107 => ⟨h107, (q94.2.1 (bnot_f (bnot_t (and_at h107).1)) (of_decide_eq_true (and_at h107).2))⟩), ⟨(fun h112 => ⟨h112, h112⟩), ⟨(fun h116 => ⟨h116, (fun h117 => (and_at2 h116 h117))⟩), ⟨(fun h119 => (bnot_t2 h119)), (Exists.elim q94.2.2 fun r6 q120 => Exists.intro r6 ⟨(fun h126 => ⟨⟨h126, h126⟩, (q120.1 (bnot_f (selB_of (bnot_t h126)).1) (Or.imp (fun h => (Int.not_le.1 (of_decide_eq_false h))) (fun h => (of_decide_eq_true (bnot_f h))) (selB_af (selB_of (bnot_t h126)).2)))⟩), ⟨(fun h130 => ⟨h130, h130⟩), ⟨(fun h133 => (bnot_t2 h133)), ⟨(fun h139 => (q120.2.1 (Or.imp (fun h => (Or.imp (fun h => (bnot_t h)) (fun h => ⟨(of_decide_eq_true (selB_at h).1), (of_decide_eq_false (bnot_t (selB_at h).2))⟩) (selB_ot h))) (fun h => (of_decide_eq_false (bnot_t h))) (selB_ot h139)))), (fun h141 => (Exists.elim (q120.2.2 (bnot_f (selB_of (selB_of h141).1).1) (Or.imp (fun h => (Int.not_le.1 (of_decide_eq_false h))) (fun h => (of_decide_eq_true (bnot_f h))) (selB_af (selB_of (selB_of h141).1).2)) (of_decide_eq_true (bnot_f (selB_of h141).2))) fun r7 q142 => Exists.intro r7 ⟨q142.1, ⟨(fun h148 => ⟨h148, (q142.2.1 h148)⟩), (Exists.elim q142.2.2 fun r8 q149 => Exists.intro r8 ⟨(fun h155 => ⟨⟨h155, ⟨h155, ⟨h155, h155⟩⟩⟩, (q149.1 h155)⟩), (Exists.elim q149.2 fun r9 q156 => Exists.intro r9 ⟨(fun h162 => ⟨⟨h162, ⟨h162, ⟨h162, h162⟩⟩⟩, (q156.1 h162)⟩), ⟨(fun h166 => ⟨h166, h166⟩), ⟨(fun h169 => h169), ⟨(fun h171 => ⟨h171, (q142.2.1 ((selB_at h171).1))⟩), (Exists.elim q156.2 fun r10 q172 => Exists.intro r10 ⟨(fun h178 => ⟨⟨h178, ⟨h178, ⟨h178, h178⟩⟩⟩, (q172.1 ((selB_at h178).1) ((selB_at h178).2))⟩), ⟨(fun h181 => ⟨h181, h181⟩), ⟨(fun h183 => h183), (Exists.elim q172.2 fun r11 q184 => Exists.intro r11 ⟨(fun h190 => ⟨⟨h190, ⟨h190, ⟨h190, h190⟩⟩⟩, (q184.1 ((selB_at (selB_at h190).1).1) ((selB_at (selB_at h190).1).2) ((selB_at h190).2))⟩), ⟨(fun h193 => ⟨h193, h193⟩), ⟨(fun h195 => h195), q184.2⟩⟩⟩)⟩⟩⟩)⟩⟩⟩⟩)⟩)⟩⟩))⟩⟩⟩⟩)⟩⟩⟩⟩⟩⟩⟩)⟩))⟩)))⟩))⟩)⟩))⟩⟩⟩⟩⟩⟩⟩⟩⟩⟩)⟩)
end Go.Proofs.Ytohglckebkgbpaa
