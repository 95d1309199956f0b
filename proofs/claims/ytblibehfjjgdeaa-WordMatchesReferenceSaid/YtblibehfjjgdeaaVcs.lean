/-
  What must be shown of each function, worked out from its text; the kernel holds it against the text.
-/
import Derived.Test.YtblibehfjjgdeaaVcsa
import Derived.Test.YtblibehfjjgdeaaNe
namespace Go.Proofs.Ytblibehfjjgdeaa
open Go.RowKit
/- foresight/foresightlaw02.WordNormal -/
def cx4 : Cx := { T := tT, own := ownT, frz := [], loops := [(40013, 1107, ⟨[.val 6 .bool, .val 7 (.int .i64)], 0⟩), (40009, 738, ⟨[.val 5 (.int .i64)], 0⟩)], cuts := [], inl := inlT }
set_option maxRecDepth 1000000 in
theorem of4 (w : (Ty.T (.st (.pair (.sl (.int .i64)) (.pair (.sl (.int .i64)) .unit))))) (r : Ty.T .bool) (h : ∀ R : Ty.T .bool → Prop, (∀ x, R x ↔ x = r) → WF (.st (.pair (.sl (.int .i64)) (.pair (.sl (.int .i64)) .unit))) w → 
    ∃ r : Bool,
    (CallP Try.prog tT (10 : Nat) [] Ty.bool r ∧
    ∃ r1 : ((List Int) × ((List Int) × Unit)),
    (CallP Try.prog tT (20 : Nat) [(AV.c (Cap.d (Ty.st (Ty.pair (Ty.sl (Ty.int Go.IntKind.i64)) (Ty.pair (Ty.sl (Ty.int Go.IntKind.i64)) Ty.unit))) w))] (Ty.st (Ty.pair (Ty.sl (Ty.int Go.IntKind.i64)) (Ty.pair (Ty.sl (Ty.int Go.IntKind.i64)) Ty.unit))) r1 ∧
    ∃ r2 : Bool,
    (CallP Try.prog tT (30 : Nat) [(AV.c (Cap.d (Ty.st (Ty.pair (Ty.sl (Ty.int Go.IntKind.i64)) (Ty.pair (Ty.sl (Ty.int Go.IntKind.i64)) Ty.unit))) w))] Ty.bool r2 ∧
    ((((!r2) = true) →
      (((r = true) →
        (r = true)) ∧
      (((r = true) →
        (r = true)) ∧
      (((r = true) →
        (r = true)) ∧
      (((r = true) →
        (r = true)) ∧
      (((r = true) →
        (((r = true) ∧
        (r = true)) ∧
        inK Go.IntKind.i64 ((((List.length r1.1) : Nat) : Int) + (((List.length r1.2.1) : Nat) : Int)))) ∧
      (((r = true) →
        (r = true)) ∧
      (((r = true) →
        (r = true)) ∧
      (R (selB r (decide (((((List.length r1.1) : Nat) : Int) + (((List.length r1.2.1) : Nat) : Int)) = (0 : Int))) false)))))))))) ∧
    (((!r2) = false) →
      ∃ r3 : Bool,
      (CallP Try.prog tT (30 : Nat) [(AV.c (Cap.d (Ty.st (Ty.pair (Ty.sl (Ty.int Go.IntKind.i64)) (Ty.pair (Ty.sl (Ty.int Go.IntKind.i64)) Ty.unit))) (r1.1, (r1.2.1, ()))))] Ty.bool r3 ∧
      ∃ r4 : Bool,
      ((((!(!r3)) = true) →
        ((((!(!r3)) = true) ∧
        ((!(!r3)) = true)) ∧
        CallP Try.prog tT (31 : Nat) [(AV.c (Cap.d (Ty.st (Ty.pair (Ty.sl (Ty.int Go.IntKind.i64)) (Ty.pair (Ty.sl (Ty.int Go.IntKind.i64)) Ty.unit))) w)), (AV.c (Cap.d (Ty.st (Ty.pair (Ty.sl (Ty.int Go.IntKind.i64)) (Ty.pair (Ty.sl (Ty.int Go.IntKind.i64)) Ty.unit))) (r1.1, (r1.2.1, ())))), (AV.c (Cap.d (Ty.int Go.IntKind.i64) (200 : Int)))] Ty.bool r4)) ∧
      ((((!(!r3)) = true) →
        ((!(!r3)) = true)) ∧
      ((((!r3) = false) →
        ((!(!r3)) = true)) ∧
      ((((!(selB (!r3) true (!r4))) = true) →
        ((!(selB (!r3) true (!r4))) = true)) ∧
      ((((!(selB (!r3) true (!r4))) = true) →
        ((!(selB (!r3) true (!r4))) = true)) ∧
      ((((!(selB (!r3) true (!r4))) = true) →
        ((!(selB (!r3) true (!r4))) = true)) ∧
      ((((!(selB (!r3) true (!r4))) = true) →
        ((!(selB (!r3) true (!r4))) = true)) ∧
      ((((!(selB (!r3) true (!r4))) = true) →
        (((!(selB (!r3) true (!r4))) = true) ∧
        ((!(selB (!r3) true (!r4))) = true))) ∧
      ((((selB (!r3) true (!r4)) = false) →
        ((!(selB (!r3) true (!r4))) = true)) ∧
      ((((!(selB (selB (!r3) true (!r4)) true (decide ((((List.length w.1) : Nat) : Int) < (((List.length r1.1) : Nat) : Int))))) = true) →
        ((!(selB (selB (!r3) true (!r4)) true (decide ((((List.length w.1) : Nat) : Int) < (((List.length r1.1) : Nat) : Int))))) = true)) ∧
      ((((!(selB (selB (!r3) true (!r4)) true (decide ((((List.length w.1) : Nat) : Int) < (((List.length r1.1) : Nat) : Int))))) = true) →
        ((!(selB (selB (!r3) true (!r4)) true (decide ((((List.length w.1) : Nat) : Int) < (((List.length r1.1) : Nat) : Int))))) = true)) ∧
      ((((!(selB (selB (!r3) true (!r4)) true (decide ((((List.length w.1) : Nat) : Int) < (((List.length r1.1) : Nat) : Int))))) = true) →
        ((!(selB (selB (!r3) true (!r4)) true (decide ((((List.length w.1) : Nat) : Int) < (((List.length r1.1) : Nat) : Int))))) = true)) ∧
      ((((!(selB (selB (!r3) true (!r4)) true (decide ((((List.length w.1) : Nat) : Int) < (((List.length r1.1) : Nat) : Int))))) = true) →
        ((!(selB (selB (!r3) true (!r4)) true (decide ((((List.length w.1) : Nat) : Int) < (((List.length r1.1) : Nat) : Int))))) = true)) ∧
      ((((!(selB (selB (!r3) true (!r4)) true (decide ((((List.length w.1) : Nat) : Int) < (((List.length r1.1) : Nat) : Int))))) = true) →
        (((!(selB (selB (!r3) true (!r4)) true (decide ((((List.length w.1) : Nat) : Int) < (((List.length r1.1) : Nat) : Int))))) = true) ∧
        ((!(selB (selB (!r3) true (!r4)) true (decide ((((List.length w.1) : Nat) : Int) < (((List.length r1.1) : Nat) : Int))))) = true))) ∧
      ((((selB (selB (!r3) true (!r4)) true (decide ((((List.length w.1) : Nat) : Int) < (((List.length r1.1) : Nat) : Int)))) = false) →
        ((!(selB (selB (!r3) true (!r4)) true (decide ((((List.length w.1) : Nat) : Int) < (((List.length r1.1) : Nat) : Int))))) = true)) ∧
      ∃ r5 : ((List Int) × ((List Int) × Unit)),
      ((((!(selB (selB (selB (!r3) true (!r4)) true (decide ((((List.length w.1) : Nat) : Int) < (((List.length r1.1) : Nat) : Int)))) true (decide ((((List.length w.2.1) : Nat) : Int) < (((List.length r1.2.1) : Nat) : Int))))) = true) →
        (((!(selB (selB (selB (!r3) true (!r4)) true (decide ((((List.length w.1) : Nat) : Int) < (((List.length r1.1) : Nat) : Int)))) true (decide ((((List.length w.2.1) : Nat) : Int) < (((List.length r1.2.1) : Nat) : Int))))) = true) ∧
        CallP Try.prog tT (20 : Nat) [(AV.c (Cap.d (Ty.st (Ty.pair (Ty.sl (Ty.int Go.IntKind.i64)) (Ty.pair (Ty.sl (Ty.int Go.IntKind.i64)) Ty.unit))) (r1.1, (r1.2.1, ()))))] (Ty.st (Ty.pair (Ty.sl (Ty.int Go.IntKind.i64)) (Ty.pair (Ty.sl (Ty.int Go.IntKind.i64)) Ty.unit))) r5)) ∧
      ∃ r6 : Bool,
      ((((!(selB (selB (selB (!r3) true (!r4)) true (decide ((((List.length w.1) : Nat) : Int) < (((List.length r1.1) : Nat) : Int)))) true (decide ((((List.length w.2.1) : Nat) : Int) < (((List.length r1.2.1) : Nat) : Int))))) = true) →
        ((((!(selB (selB (selB (!r3) true (!r4)) true (decide ((((List.length w.1) : Nat) : Int) < (((List.length r1.1) : Nat) : Int)))) true (decide ((((List.length w.2.1) : Nat) : Int) < (((List.length r1.2.1) : Nat) : Int))))) = true) ∧
        ((!(selB (selB (selB (!r3) true (!r4)) true (decide ((((List.length w.1) : Nat) : Int) < (((List.length r1.1) : Nat) : Int)))) true (decide ((((List.length w.2.1) : Nat) : Int) < (((List.length r1.2.1) : Nat) : Int))))) = true)) ∧
        CallP Try.prog tT (19 : Nat) [(AV.c (Cap.d (Ty.st (Ty.pair (Ty.sl (Ty.int Go.IntKind.i64)) (Ty.pair (Ty.sl (Ty.int Go.IntKind.i64)) Ty.unit))) r5)), (AV.c (Cap.d (Ty.st (Ty.pair (Ty.sl (Ty.int Go.IntKind.i64)) (Ty.pair (Ty.sl (Ty.int Go.IntKind.i64)) Ty.unit))) (r1.1, (r1.2.1, ()))))] Ty.bool r6)) ∧
      ((((!(selB (selB (selB (!r3) true (!r4)) true (decide ((((List.length w.1) : Nat) : Int) < (((List.length r1.1) : Nat) : Int)))) true (decide ((((List.length w.2.1) : Nat) : Int) < (((List.length r1.2.1) : Nat) : Int))))) = true) →
        ((!(selB (selB (selB (!r3) true (!r4)) true (decide ((((List.length w.1) : Nat) : Int) < (((List.length r1.1) : Nat) : Int)))) true (decide ((((List.length w.2.1) : Nat) : Int) < (((List.length r1.2.1) : Nat) : Int))))) = true)) ∧
      ((((selB (selB (selB (!r3) true (!r4)) true (decide ((((List.length w.1) : Nat) : Int) < (((List.length r1.1) : Nat) : Int)))) true (decide ((((List.length w.2.1) : Nat) : Int) < (((List.length r1.2.1) : Nat) : Int)))) = false) →
        ((!(selB (selB (selB (!r3) true (!r4)) true (decide ((((List.length w.1) : Nat) : Int) < (((List.length r1.1) : Nat) : Int)))) true (decide ((((List.length w.2.1) : Nat) : Int) < (((List.length r1.2.1) : Nat) : Int))))) = true)) ∧
      ((((selB (selB (selB (selB (!r3) true (!r4)) true (decide ((((List.length w.1) : Nat) : Int) < (((List.length r1.1) : Nat) : Int)))) true (decide ((((List.length w.2.1) : Nat) : Int) < (((List.length r1.2.1) : Nat) : Int)))) true (!r6)) = true) →
        (R false)) ∧
      (((selB (selB (selB (selB (!r3) true (!r4)) true (decide ((((List.length w.1) : Nat) : Int) < (((List.length r1.1) : Nat) : Int)))) true (decide ((((List.length w.2.1) : Nat) : Int) < (((List.length r1.2.1) : Nat) : Int)))) true (!r6)) = false) →
        ∃ I : ((Int × Unit) → Prop),
        ∃ μ : ((Int × Unit) → Nat),
        ((I ((1 : Int), ())) ∧
        ∀ x : (Int × Unit),
        ((WF (Ty.int Go.IntKind.i64) x.1 ∧
          True) →
          ((I x) →
            ((((decide (x.1 < (((List.length r1.2.1) : Nat) : Int))) = true) →
              ((((0 : Int) ≤ (((List.length r1.2.1) : Nat) : Int)) ∧
              ((0 : Int) < x.1)) ∧
              ∃ I1 : ((Bool × (Int × Unit)) → Prop),
              ∃ μ1 : ((Bool × (Int × Unit)) → Nat),
              ((I1 ((decide (((((List.length r1.2.1) : Nat) : Int) % x.1) = (0 : Int))), (x.1, ()))) ∧
              ∀ x1 : (Bool × (Int × Unit)),
              ((WF Ty.bool x1.1 ∧
                (WF (Ty.int Go.IntKind.i64) x1.2.1 ∧
                True)) →
                ((I1 x1) →
                  ((((decide (x1.2.1 < (((List.length r1.2.1) : Nat) : Int))) = true) →
                    (((x1.1 = true) →
                      (x1.1 = true)) ∧
                    (((x1.1 = true) →
                      (((x1.1 = true) ∧
                      (x1.1 = true)) ∧
                      (((0 : Int) ≤ x1.2.1) ∧
                      (x1.2.1 < (((List.length r1.2.1) : Nat) : Int))))) ∧
                    (((x1.1 = true) →
                      (x1.1 = true)) ∧
                    (((x1.1 = true) →
                      (x1.1 = true)) ∧
                    (((x1.1 = true) →
                      (((x1.1 = true) ∧
                      (x1.1 = true)) ∧
                      inK Go.IntKind.i64 (x1.2.1 - x.1))) ∧
                    (((x1.1 = true) →
                      (((x1.1 = true) ∧
                      (x1.1 = true)) ∧
                      (((0 : Int) ≤ (x1.2.1 - x.1)) ∧
                      ((x1.2.1 - x.1) < (((List.length r1.2.1) : Nat) : Int))))) ∧
                    (((x1.1 = true) →
                      (x1.1 = true)) ∧
                    (((x1.1 = true) →
                      ((x1.1 = true) ∧
                      (x1.1 = true))) ∧
                    (((x1.1 = true) →
                      (x1.1 = true)) ∧
                    (inK Go.IntKind.i64 (x1.2.1 + (1 : Int)) ∧
                    ((I1 ((selB x1.1 (decide ((List.getD r1.2.1 (Int.toNat x1.2.1) (0 : Int)) = (List.getD r1.2.1 (Int.toNat (x1.2.1 - x.1)) (0 : Int)))) false), ((x1.2.1 + (1 : Int)), ()))) ∧
                    ((μ1 ((selB x1.1 (decide ((List.getD r1.2.1 (Int.toNat x1.2.1) (0 : Int)) = (List.getD r1.2.1 (Int.toNat (x1.2.1 - x.1)) (0 : Int)))) false), ((x1.2.1 + (1 : Int)), ()))) < (μ1 x1)))))))))))))) ∧
                  (((decide (x1.2.1 < (((List.length r1.2.1) : Nat) : Int))) = false) →
                    (((x1.1 = true) →
                      (R false)) ∧
                    ((x1.1 = false) →
                      (inK Go.IntKind.i64 (x.1 + (1 : Int)) ∧
                      ((I ((x.1 + (1 : Int)), ())) ∧
                      ((μ ((x.1 + (1 : Int)), ())) < (μ x))))))))))))) ∧
            (((decide (x.1 < (((List.length r1.2.1) : Nat) : Int))) = false) →
              (((r = true) →
                (r = true)) ∧
              (((r = true) →
                (r = true)) ∧
              (((r = true) →
                (r = true)) ∧
              (((r = true) →
                (r = true)) ∧
              ((((r && (!(decide ((((List.length r1.1) : Nat) : Int) = (0 : Int))))) = true) →
                ((r && (!(decide ((((List.length r1.1) : Nat) : Int) = (0 : Int))))) = true)) ∧
              ((((r && (!(decide ((((List.length r1.1) : Nat) : Int) = (0 : Int))))) = true) →
                ((r && (!(decide ((((List.length r1.1) : Nat) : Int) = (0 : Int))))) = true)) ∧
              ((((r && (!(decide ((((List.length r1.1) : Nat) : Int) = (0 : Int))))) = true) →
                ((r && (!(decide ((((List.length r1.1) : Nat) : Int) = (0 : Int))))) = true)) ∧
              ((((r && (!(decide ((((List.length r1.1) : Nat) : Int) = (0 : Int))))) = true) →
                (((r && (!(decide ((((List.length r1.1) : Nat) : Int) = (0 : Int))))) = true) ∧
                inK Go.IntKind.i64 ((((List.length r1.1) : Nat) : Int) - (1 : Int)))) ∧
              ((((r && (!(decide ((((List.length r1.1) : Nat) : Int) = (0 : Int))))) = true) →
                ((((r && (!(decide ((((List.length r1.1) : Nat) : Int) = (0 : Int))))) = true) ∧
                ((r && (!(decide ((((List.length r1.1) : Nat) : Int) = (0 : Int))))) = true)) ∧
                (((0 : Int) ≤ ((((List.length r1.1) : Nat) : Int) - (1 : Int))) ∧
                (((((List.length r1.1) : Nat) : Int) - (1 : Int)) < (((List.length r1.1) : Nat) : Int))))) ∧
              ((((r && (!(decide ((((List.length r1.1) : Nat) : Int) = (0 : Int))))) = true) →
                ((r && (!(decide ((((List.length r1.1) : Nat) : Int) = (0 : Int))))) = true)) ∧
              ((((r && (!(decide ((((List.length r1.1) : Nat) : Int) = (0 : Int))))) = true) →
                ((r && (!(decide ((((List.length r1.1) : Nat) : Int) = (0 : Int))))) = true)) ∧
              ((((r && (!(decide ((((List.length r1.1) : Nat) : Int) = (0 : Int))))) = true) →
                ((r && (!(decide ((((List.length r1.1) : Nat) : Int) = (0 : Int))))) = true)) ∧
              ((((r && (!(decide ((((List.length r1.1) : Nat) : Int) = (0 : Int))))) = true) →
                ((r && (!(decide ((((List.length r1.1) : Nat) : Int) = (0 : Int))))) = true)) ∧
              ((((r && (!(decide ((((List.length r1.1) : Nat) : Int) = (0 : Int))))) = true) →
                (((r && (!(decide ((((List.length r1.1) : Nat) : Int) = (0 : Int))))) = true) ∧
                inK Go.IntKind.i64 ((((List.length r1.2.1) : Nat) : Int) - (1 : Int)))) ∧
              ((((r && (!(decide ((((List.length r1.1) : Nat) : Int) = (0 : Int))))) = true) →
                ((((r && (!(decide ((((List.length r1.1) : Nat) : Int) = (0 : Int))))) = true) ∧
                ((r && (!(decide ((((List.length r1.1) : Nat) : Int) = (0 : Int))))) = true)) ∧
                (((0 : Int) ≤ ((((List.length r1.2.1) : Nat) : Int) - (1 : Int))) ∧
                (((((List.length r1.2.1) : Nat) : Int) - (1 : Int)) < (((List.length r1.2.1) : Nat) : Int))))) ∧
              ((((r && (!(decide ((((List.length r1.1) : Nat) : Int) = (0 : Int))))) = true) →
                ((r && (!(decide ((((List.length r1.1) : Nat) : Int) = (0 : Int))))) = true)) ∧
              ((((r && (!(decide ((((List.length r1.1) : Nat) : Int) = (0 : Int))))) = true) →
                (((r && (!(decide ((((List.length r1.1) : Nat) : Int) = (0 : Int))))) = true) ∧
                ((r && (!(decide ((((List.length r1.1) : Nat) : Int) = (0 : Int))))) = true))) ∧
              (((r = true) →
                ((r = true) ∧
                (((decide ((((List.length r1.1) : Nat) : Int) = (0 : Int))) = false) →
                  ((r && (!(decide ((((List.length r1.1) : Nat) : Int) = (0 : Int))))) = true)))) ∧
              (((r = true) →
                (r = true)) ∧
              (R (selB r (selB (decide ((((List.length r1.1) : Nat) : Int) = (0 : Int))) true (!(decide ((List.getD r1.1 (Int.toNat ((((List.length r1.1) : Nat) : Int) - (1 : Int))) (0 : Int)) = (List.getD r1.2.1 (Int.toNat ((((List.length r1.2.1) : Nat) : Int) - (1 : Int))) (0 : Int)))))) false)))))))))))))))))))))))))))))))))))))))))))))))))))))) : CallP Try.prog tT 4 [.d (.st (.pair (.sl (.int .i64)) (.pair (.sl (.int .i64)) .unit))) w] .bool r :=
  callP_of (cx := cx4) (d := 6) mixed tab_ok inl_ok Try.func4 ⟨fun _ _ => by kernel_rfl⟩ rfl rfl fun wf => Eq.mpr (by kernel_rfl) (h (fun x => x = r) (fun _ => Iff.rfl) (wf.1 rfl))
set_option maxRecDepth 1000000 in
theorem sf4 (w : (Ty.T (.st (.pair (.sl (.int .i64)) (.pair (.sl (.int .i64)) .unit))))) (r : Ty.T .bool) (h : ∀ R : Ty.T .bool → Prop, (∀ x, R x ↔ x = r) → WF (.st (.pair (.sl (.int .i64)) (.pair (.sl (.int .i64)) .unit))) w → 
    (∃ r : Bool,
    (CallP Try.prog tT (10 : Nat) [] Ty.bool r ∧
    (∃ r1 : ((List Int) × ((List Int) × Unit)),
    (CallP Try.prog tT (20 : Nat) [(AV.c (Cap.d (Ty.st (Ty.pair (Ty.sl (Ty.int Go.IntKind.i64)) (Ty.pair (Ty.sl (Ty.int Go.IntKind.i64)) Ty.unit))) w))] (Ty.st (Ty.pair (Ty.sl (Ty.int Go.IntKind.i64)) (Ty.pair (Ty.sl (Ty.int Go.IntKind.i64)) Ty.unit))) r1 ∧
    (∃ r2 : Bool,
    (CallP Try.prog tT (30 : Nat) [(AV.c (Cap.d (Ty.st (Ty.pair (Ty.sl (Ty.int Go.IntKind.i64)) (Ty.pair (Ty.sl (Ty.int Go.IntKind.i64)) Ty.unit))) w))] Ty.bool r2 ∧
    (((r2 = false) →
      (((r = true) →
        inK Go.IntKind.i64 ((((List.length r1.1) : Nat) : Int) + (((List.length r1.2.1) : Nat) : Int))) ∧
      (R (selB r (decide (((((List.length r1.1) : Nat) : Int) + (((List.length r1.2.1) : Nat) : Int)) = (0 : Int))) false)))) ∧
    ((r2 = true) →
      (∃ r3 : Bool,
      (CallP Try.prog tT (30 : Nat) [(AV.c (Cap.d (Ty.st (Ty.pair (Ty.sl (Ty.int Go.IntKind.i64)) (Ty.pair (Ty.sl (Ty.int Go.IntKind.i64)) Ty.unit))) (r1.1, (r1.2.1, ()))))] Ty.bool r3 ∧
      (∃ r4 : Bool,
      (((r3 = true) →
        CallP Try.prog tT (31 : Nat) [(AV.c (Cap.d (Ty.st (Ty.pair (Ty.sl (Ty.int Go.IntKind.i64)) (Ty.pair (Ty.sl (Ty.int Go.IntKind.i64)) Ty.unit))) w)), (AV.c (Cap.d (Ty.st (Ty.pair (Ty.sl (Ty.int Go.IntKind.i64)) (Ty.pair (Ty.sl (Ty.int Go.IntKind.i64)) Ty.unit))) (r1.1, (r1.2.1, ())))), (AV.c (Cap.d (Ty.int Go.IntKind.i64) (200 : Int)))] Ty.bool r4) ∧
      (∃ r5 : ((List Int) × ((List Int) × Unit)),
      (((r3 = true) → (r4 = true) → ((((List.length r1.1) : Nat) : Int) ≤ (((List.length w.1) : Nat) : Int)) → ((((List.length r1.2.1) : Nat) : Int) ≤ (((List.length w.2.1) : Nat) : Int)) →
        CallP Try.prog tT (20 : Nat) [(AV.c (Cap.d (Ty.st (Ty.pair (Ty.sl (Ty.int Go.IntKind.i64)) (Ty.pair (Ty.sl (Ty.int Go.IntKind.i64)) Ty.unit))) (r1.1, (r1.2.1, ()))))] (Ty.st (Ty.pair (Ty.sl (Ty.int Go.IntKind.i64)) (Ty.pair (Ty.sl (Ty.int Go.IntKind.i64)) Ty.unit))) r5) ∧
      (∃ r6 : Bool,
      (((r3 = true) → (r4 = true) → ((((List.length r1.1) : Nat) : Int) ≤ (((List.length w.1) : Nat) : Int)) → ((((List.length r1.2.1) : Nat) : Int) ≤ (((List.length w.2.1) : Nat) : Int)) →
        CallP Try.prog tT (19 : Nat) [(AV.c (Cap.d (Ty.st (Ty.pair (Ty.sl (Ty.int Go.IntKind.i64)) (Ty.pair (Ty.sl (Ty.int Go.IntKind.i64)) Ty.unit))) r5)), (AV.c (Cap.d (Ty.st (Ty.pair (Ty.sl (Ty.int Go.IntKind.i64)) (Ty.pair (Ty.sl (Ty.int Go.IntKind.i64)) Ty.unit))) (r1.1, (r1.2.1, ()))))] Ty.bool r6) ∧
      (((((((r3 = false) ∨ (r4 = false)) ∨ ((((List.length w.1) : Nat) : Int) < (((List.length r1.1) : Nat) : Int))) ∨ ((((List.length w.2.1) : Nat) : Int) < (((List.length r1.2.1) : Nat) : Int))) ∨ (r6 = false)) →
        (R false)) ∧
      ((r3 = true) → (r4 = true) → ((((List.length r1.1) : Nat) : Int) ≤ (((List.length w.1) : Nat) : Int)) → ((((List.length r1.2.1) : Nat) : Int) ≤ (((List.length w.2.1) : Nat) : Int)) → (r6 = true) →
        (∃ I : ((Int × Unit) → Prop),
        (∃ μ : ((Int × Unit) → Nat),
        ((I ((1 : Int), ())) ∧
        (∀ x : (Int × Unit),
        ((WF (Ty.int Go.IntKind.i64) x.1 ∧
          True) →
          ((I x) →
            (((x.1 < (((List.length r1.2.1) : Nat) : Int)) →
              ((((0 : Int) ≤ (((List.length r1.2.1) : Nat) : Int)) ∧
              ((0 : Int) < x.1)) ∧
              (∃ I1 : ((Bool × (Int × Unit)) → Prop),
              (∃ μ1 : ((Bool × (Int × Unit)) → Nat),
              ((I1 ((decide (((((List.length r1.2.1) : Nat) : Int) % x.1) = (0 : Int))), (x.1, ()))) ∧
              (∀ x1 : (Bool × (Int × Unit)),
              ((WF Ty.bool x1.1 ∧
                (WF (Ty.int Go.IntKind.i64) x1.2.1 ∧
                True)) →
                ((I1 x1) →
                  (((x1.2.1 < (((List.length r1.2.1) : Nat) : Int)) →
                    (((x1.1 = true) →
                      ((0 : Int) ≤ x1.2.1)) ∧
                    (((x1.1 = true) →
                      inK Go.IntKind.i64 (x1.2.1 - x.1)) ∧
                    (((x1.1 = true) →
                      (((0 : Int) ≤ (x1.2.1 - x.1)) ∧
                      ((x1.2.1 - x.1) < (((List.length r1.2.1) : Nat) : Int)))) ∧
                    (inK Go.IntKind.i64 (x1.2.1 + (1 : Int)) ∧
                    ((I1 ((selB x1.1 (decide ((List.getD r1.2.1 (Int.toNat x1.2.1) (0 : Int)) = (List.getD r1.2.1 (Int.toNat (x1.2.1 - x.1)) (0 : Int)))) false), ((x1.2.1 + (1 : Int)), ()))) ∧
                    ((μ1 ((selB x1.1 (decide ((List.getD r1.2.1 (Int.toNat x1.2.1) (0 : Int)) = (List.getD r1.2.1 (Int.toNat (x1.2.1 - x.1)) (0 : Int)))) false), ((x1.2.1 + (1 : Int)), ()))) < (μ1 x1)))))))) ∧
                  (((((List.length r1.2.1) : Nat) : Int) ≤ x1.2.1) →
                    (((x1.1 = true) →
                      (R false)) ∧
                    ((x1.1 = false) →
                      (inK Go.IntKind.i64 (x.1 + (1 : Int)) ∧
                      ((I ((x.1 + (1 : Int)), ())) ∧
                      ((μ ((x.1 + (1 : Int)), ())) < (μ x)))))))))))))))) ∧
            (((((List.length r1.2.1) : Nat) : Int) ≤ x.1) →
              (((r = true) → (¬ ((((List.length r1.1) : Nat) : Int) = (0 : Int))) →
                inK Go.IntKind.i64 ((((List.length r1.1) : Nat) : Int) - (1 : Int))) ∧
              (((r = true) → (¬ ((((List.length r1.1) : Nat) : Int) = (0 : Int))) →
                (((0 : Int) ≤ ((((List.length r1.1) : Nat) : Int) - (1 : Int))) ∧
                (((((List.length r1.1) : Nat) : Int) - (1 : Int)) < (((List.length r1.1) : Nat) : Int)))) ∧
              (((r = true) → (¬ ((((List.length r1.1) : Nat) : Int) = (0 : Int))) →
                inK Go.IntKind.i64 ((((List.length r1.2.1) : Nat) : Int) - (1 : Int))) ∧
              (((r = true) → (¬ ((((List.length r1.1) : Nat) : Int) = (0 : Int))) →
                (((0 : Int) ≤ ((((List.length r1.2.1) : Nat) : Int) - (1 : Int))) ∧
                (((((List.length r1.2.1) : Nat) : Int) - (1 : Int)) < (((List.length r1.2.1) : Nat) : Int)))) ∧
              (R (selB r (selB (decide ((((List.length r1.1) : Nat) : Int) = (0 : Int))) true (!(decide ((List.getD r1.1 (Int.toNat ((((List.length r1.1) : Nat) : Int) - (1 : Int))) (0 : Int)) = (List.getD r1.2.1 (Int.toNat ((((List.length r1.2.1) : Nat) : Int) - (1 : Int))) (0 : Int)))))) false))))))))))))))))))))))))))))))))) : CallP Try.prog tT 4 [.d (.st (.pair (.sl (.int .i64)) (.pair (.sl (.int .i64)) .unit))) w] .bool r :=
  of4 w r fun R hR w0_ => have p := h R hR w0_
    (Exists.elim p fun r q1 => Exists.intro r ⟨q1.1, (Exists.elim q1.2 fun r1 q2 => Exists.intro r1 ⟨q2.1, (Exists.elim q2.2 fun r2 q3 => Exists.intro r2 ⟨q3.1, ⟨(fun h58 => ⟨(fun h64 => h64), ⟨(fun h69 => h69), ⟨(fun h73 => h73), ⟨(fun h76 => h76), ⟨(fun h82 => ⟨⟨h82, h82⟩, ((q3.2.1 (bnot_t h58)).1 h82)⟩), ⟨(fun h85 => h85), ⟨(fun h87 => h87), (q3.2.1 (bnot_t h58)).2⟩⟩⟩⟩⟩⟩⟩), (fun h89 => (Exists.elim (q3.2.2 (bnot_f h89)) fun r3 q90 => Exists.intro r3 ⟨q90.1, (Exists.elim q90.2 fun r4 q91 => Exists.intro r4 ⟨(fun h97 => ⟨⟨h97, h97⟩, (q91.1 (bnot_f (bnot_t h97)))⟩), ⟨(fun h112 => h112), ⟨(fun h126 => (bnot_t2 h126)), ⟨(fun h139 => h139), ⟨(fun h151 => h151), ⟨(fun h162 => h162), ⟨(fun h172 => h172), ⟨(fun h181 => ⟨h181, h181⟩), ⟨(fun h189 => (bnot_t2 h189)), ⟨(fun h196 => h196), ⟨(fun h202 => h202), ⟨(fun h207 => h207), ⟨(fun h211 => h211), ⟨(fun h214 => ⟨h214, h214⟩), ⟨(fun h216 => (bnot_t2 h216)), (Exists.elim q91.2 fun r5 q217 => Exists.intro r5 ⟨(fun h223 => ⟨h223, (q217.1 (bnot_f (selB_of (selB_of (selB_of (bnot_t h223)).1).1).1) (bnot_f (selB_of (selB_of (selB_of (bnot_t h223)).1).1).2) (Int.not_lt.1 (of_decide_eq_false (selB_of (selB_of (bnot_t h223)).1).2)) (Int.not_lt.1 (of_decide_eq_false (selB_of (bnot_t h223)).2)))⟩), (Exists.elim q217.2 fun r6 q224 => Exists.intro r6 ⟨(fun h230 => ⟨⟨h230, h230⟩, (q224.1 (bnot_f (selB_of (selB_of (selB_of (bnot_t h230)).1).1).1) (bnot_f (selB_of (selB_of (selB_of (bnot_t h230)).1).1).2) (Int.not_lt.1 (of_decide_eq_false (selB_of (selB_of (bnot_t h230)).1).2)) (Int.not_lt.1 (of_decide_eq_false (selB_of (bnot_t h230)).2)))⟩), ⟨(fun h234 => h234), ⟨(fun h237 => (bnot_t2 h237)), ⟨(fun h243 => (q224.2.1 (Or.imp (fun h => (Or.imp (fun h => (Or.imp (fun h => (Or.imp (fun h => (bnot_t h)) (fun h => (bnot_t h)) (selB_ot h))) (fun h => (of_decide_eq_true h)) (selB_ot h))) (fun h => (of_decide_eq_true h)) (selB_ot h))) (fun h => (bnot_t h)) (selB_ot h243)))), (fun h245 => (Exists.elim (q224.2.2 (bnot_f (selB_of (selB_of (selB_of (selB_of h245).1).1).1).1) (bnot_f (selB_of (selB_of (selB_of (selB_of h245).1).1).1).2) (Int.not_lt.1 (of_decide_eq_false (selB_of (selB_of (selB_of h245).1).1).2)) (Int.not_lt.1 (of_decide_eq_false (selB_of (selB_of h245).1).2)) (bnot_f (selB_of h245).2)) fun I q246 => Exists.intro I (Exists.elim q246 fun μ q247 => Exists.intro μ ⟨q247.1, (fun x => (fun h248 => (fun h249 => ⟨(fun h358 => ⟨⟨((((q247.2 x) h248) h249).1 (of_decide_eq_true h358)).1.1, ((((q247.2 x) h248) h249).1 (of_decide_eq_true h358)).1.2⟩, (Exists.elim ((((q247.2 x) h248) h249).1 (of_decide_eq_true h358)).2 fun I1 q359 => Exists.intro I1 (Exists.elim q359 fun μ1 q360 => Exists.intro μ1 ⟨q360.1, (fun x1 => (fun h361 => (fun h362 => ⟨(fun h413 => ⟨(fun h416 => h416), ⟨(fun h422 => ⟨⟨h422, h422⟩, ⟨(((((q360.2 x1) h361) h362).1 (of_decide_eq_true h413)).1 h422), (of_decide_eq_true h413)⟩⟩), ⟨(fun h426 => h426), ⟨(fun h429 => h429), ⟨(fun h435 => ⟨⟨h435, h435⟩, (((((q360.2 x1) h361) h362).1 (of_decide_eq_true h413)).2.1 h435)⟩), ⟨(fun h441 => ⟨⟨h441, h441⟩, ⟨(((((q360.2 x1) h361) h362).1 (of_decide_eq_true h413)).2.2.1 h441).1, (((((q360.2 x1) h361) h362).1 (of_decide_eq_true h413)).2.2.1 h441).2⟩⟩), ⟨(fun h445 => h445), ⟨(fun h448 => ⟨h448, h448⟩), ⟨(fun h450 => h450), ⟨((((q360.2 x1) h361) h362).1 (of_decide_eq_true h413)).2.2.2.1, ⟨((((q360.2 x1) h361) h362).1 (of_decide_eq_true h413)).2.2.2.2.1, ((((q360.2 x1) h361) h362).1 (of_decide_eq_true h413)).2.2.2.2.2⟩⟩⟩⟩⟩⟩⟩⟩⟩⟩⟩), (fun h453 => ⟨(fun h459 => (((((q360.2 x1) h361) h362).2 (Int.not_lt.1 (of_decide_eq_false h453))).1 h459)), (fun h461 => ⟨(((((q360.2 x1) h361) h362).2 (Int.not_lt.1 (of_decide_eq_false h453))).2 h461).1, ⟨(((((q360.2 x1) h361) h362).2 (Int.not_lt.1 (of_decide_eq_false h453))).2 h461).2.1, (((((q360.2 x1) h361) h362).2 (Int.not_lt.1 (of_decide_eq_false h453))).2 h461).2.2⟩⟩)⟩)⟩)))⟩))⟩), (fun h471 => ⟨(fun h480 => h480), ⟨(fun h488 => h488), ⟨(fun h495 => h495), ⟨(fun h501 => h501), ⟨(fun h506 => h506), ⟨(fun h510 => h510), ⟨(fun h513 => h513), ⟨(fun h519 => ⟨h519, (((((q247.2 x) h248) h249).2 (Int.not_lt.1 (of_decide_eq_false h471))).1 ((and_at h519).1) (of_decide_eq_false (bnot_t (and_at h519).2)))⟩), ⟨(fun h525 => ⟨⟨h525, h525⟩, ⟨(((((q247.2 x) h248) h249).2 (Int.not_lt.1 (of_decide_eq_false h471))).2.1 ((and_at h525).1) (of_decide_eq_false (bnot_t (and_at h525).2))).1, (((((q247.2 x) h248) h249).2 (Int.not_lt.1 (of_decide_eq_false h471))).2.1 ((and_at h525).1) (of_decide_eq_false (bnot_t (and_at h525).2))).2⟩⟩), ⟨(fun h531 => h531), ⟨(fun h536 => h536), ⟨(fun h540 => h540), ⟨(fun h543 => h543), ⟨(fun h549 => ⟨h549, (((((q247.2 x) h248) h249).2 (Int.not_lt.1 (of_decide_eq_false h471))).2.2.1 ((and_at h549).1) (of_decide_eq_false (bnot_t (and_at h549).2)))⟩), ⟨(fun h555 => ⟨⟨h555, h555⟩, ⟨(((((q247.2 x) h248) h249).2 (Int.not_lt.1 (of_decide_eq_false h471))).2.2.2.1 ((and_at h555).1) (of_decide_eq_false (bnot_t (and_at h555).2))).1, (((((q247.2 x) h248) h249).2 (Int.not_lt.1 (of_decide_eq_false h471))).2.2.2.1 ((and_at h555).1) (of_decide_eq_false (bnot_t (and_at h555).2))).2⟩⟩), ⟨(fun h561 => h561), ⟨(fun h566 => ⟨h566, h566⟩), ⟨(fun h570 => ⟨h570, (fun h571 => (and_at2 h570 (bnot_t2 h571)))⟩), ⟨(fun h573 => h573), ((((q247.2 x) h248) h249).2 (Int.not_lt.1 (of_decide_eq_false h471))).2.2.2.2⟩⟩⟩⟩⟩⟩⟩⟩⟩⟩⟩⟩⟩⟩⟩⟩⟩⟩⟩)⟩)))⟩)))⟩⟩⟩⟩)⟩)⟩⟩⟩⟩⟩⟩⟩⟩⟩⟩⟩⟩⟩⟩⟩)⟩))⟩⟩)⟩)⟩)
/- foresight/foresightlaw02.WordSame -/
def cx5 : Cx := { T := tT, own := ownT, frz := [], loops := [], cuts := [], inl := inlT }
set_option maxRecDepth 1000000 in
theorem of5 (a : (Ty.T (.st (.pair (.sl (.int .i64)) (.pair (.sl (.int .i64)) .unit))))) (b : (Ty.T (.st (.pair (.sl (.int .i64)) (.pair (.sl (.int .i64)) .unit))))) (r : Ty.T .bool) (h : ∀ R : Ty.T .bool → Prop, (∀ x, R x ↔ x = r) → WF (.st (.pair (.sl (.int .i64)) (.pair (.sl (.int .i64)) .unit))) a → WF (.st (.pair (.sl (.int .i64)) (.pair (.sl (.int .i64)) .unit))) b → 
    ∃ r : Bool,
    (CallP Try.prog tT (10 : Nat) [] Ty.bool r ∧
    ∃ r1 : Bool,
    (CallP Try.prog tT (30 : Nat) [(AV.c (Cap.d (Ty.st (Ty.pair (Ty.sl (Ty.int Go.IntKind.i64)) (Ty.pair (Ty.sl (Ty.int Go.IntKind.i64)) Ty.unit))) a))] Ty.bool r1 ∧
    ∃ r2 : Bool,
    ((((!(!r1)) = true) →
      (((!(!r1)) = true) ∧
      CallP Try.prog tT (30 : Nat) [(AV.c (Cap.d (Ty.st (Ty.pair (Ty.sl (Ty.int Go.IntKind.i64)) (Ty.pair (Ty.sl (Ty.int Go.IntKind.i64)) Ty.unit))) b))] Ty.bool r2)) ∧
    ((((!(!r1)) = true) →
      ((!(!r1)) = true)) ∧
    ((((!r1) = false) →
      ((!(!r1)) = true)) ∧
    ((((selB (!r1) true (!r2)) = true) →
      ∃ r3 : Bool,
      (((r = true) →
        (((r = true) ∧
        (r = true)) ∧
        CallP Try.prog tT (22 : Nat) [(AV.c (Cap.d (Ty.st (Ty.pair (Ty.sl (Ty.int Go.IntKind.i64)) (Ty.pair (Ty.sl (Ty.int Go.IntKind.i64)) Ty.unit))) a)), (AV.c (Cap.d (Ty.st (Ty.pair (Ty.sl (Ty.int Go.IntKind.i64)) (Ty.pair (Ty.sl (Ty.int Go.IntKind.i64)) Ty.unit))) b))] Ty.bool r3)) ∧
      (((r = true) →
        (r = true)) ∧
      (((r = true) →
        (r = true)) ∧
      ∃ r4 : Bool,
      ((((selB r (!r3) false) = true) →
        ((((selB r (!r3) false) = true) ∧
        ((selB r (!r3) false) = true)) ∧
        CallP Try.prog tT (22 : Nat) [(AV.c (Cap.d (Ty.st (Ty.pair (Ty.sl (Ty.int Go.IntKind.i64)) (Ty.pair (Ty.sl (Ty.int Go.IntKind.i64)) Ty.unit))) b)), (AV.c (Cap.d (Ty.st (Ty.pair (Ty.sl (Ty.int Go.IntKind.i64)) (Ty.pair (Ty.sl (Ty.int Go.IntKind.i64)) Ty.unit))) a))] Ty.bool r4)) ∧
      ((((selB r (!r3) false) = true) →
        ((selB r (!r3) false) = true)) ∧
      ((((selB r (!r3) false) = true) →
        ((selB r (!r3) false) = true)) ∧
      (R (selB (selB r (!r3) false) (!r4) false))))))))) ∧
    (((selB (!r1) true (!r2)) = false) →
      ∃ r3 : Bool,
      (CallP Try.prog tT (22 : Nat) [(AV.c (Cap.d (Ty.st (Ty.pair (Ty.sl (Ty.int Go.IntKind.i64)) (Ty.pair (Ty.sl (Ty.int Go.IntKind.i64)) Ty.unit))) a)), (AV.c (Cap.d (Ty.st (Ty.pair (Ty.sl (Ty.int Go.IntKind.i64)) (Ty.pair (Ty.sl (Ty.int Go.IntKind.i64)) Ty.unit))) b))] Ty.bool r3 ∧
      ∃ r4 : Bool,
      (((r = true) →
        (((r = true) ∧
        (r = true)) ∧
        CallP Try.prog tT (31 : Nat) [(AV.c (Cap.d (Ty.st (Ty.pair (Ty.sl (Ty.int Go.IntKind.i64)) (Ty.pair (Ty.sl (Ty.int Go.IntKind.i64)) Ty.unit))) a)), (AV.c (Cap.d (Ty.st (Ty.pair (Ty.sl (Ty.int Go.IntKind.i64)) (Ty.pair (Ty.sl (Ty.int Go.IntKind.i64)) Ty.unit))) b)), (AV.c (Cap.d (Ty.int Go.IntKind.i64) (140 : Int)))] Ty.bool r4)) ∧
      (((r = true) →
        ((r = true) ∧
        (r = true))) ∧
      (((r = true) →
        (r = true)) ∧
      ∃ r5 : ((List Int) × ((List Int) × Unit)),
      ((((selB r (r3 == r4) false) = true) →
        (((selB r (r3 == r4) false) = true) ∧
        CallP Try.prog tT (20 : Nat) [(AV.c (Cap.d (Ty.st (Ty.pair (Ty.sl (Ty.int Go.IntKind.i64)) (Ty.pair (Ty.sl (Ty.int Go.IntKind.i64)) Ty.unit))) a))] (Ty.st (Ty.pair (Ty.sl (Ty.int Go.IntKind.i64)) (Ty.pair (Ty.sl (Ty.int Go.IntKind.i64)) Ty.unit))) r5)) ∧
      ∃ r6 : ((List Int) × ((List Int) × Unit)),
      ((((selB r (r3 == r4) false) = true) →
        (((selB r (r3 == r4) false) = true) ∧
        CallP Try.prog tT (20 : Nat) [(AV.c (Cap.d (Ty.st (Ty.pair (Ty.sl (Ty.int Go.IntKind.i64)) (Ty.pair (Ty.sl (Ty.int Go.IntKind.i64)) Ty.unit))) b))] (Ty.st (Ty.pair (Ty.sl (Ty.int Go.IntKind.i64)) (Ty.pair (Ty.sl (Ty.int Go.IntKind.i64)) Ty.unit))) r6)) ∧
      ∃ r7 : Bool,
      ((((selB r (r3 == r4) false) = true) →
        ((((selB r (r3 == r4) false) = true) ∧
        ((selB r (r3 == r4) false) = true)) ∧
        CallP Try.prog tT (19 : Nat) [(AV.c (Cap.d (Ty.st (Ty.pair (Ty.sl (Ty.int Go.IntKind.i64)) (Ty.pair (Ty.sl (Ty.int Go.IntKind.i64)) Ty.unit))) r5)), (AV.c (Cap.d (Ty.st (Ty.pair (Ty.sl (Ty.int Go.IntKind.i64)) (Ty.pair (Ty.sl (Ty.int Go.IntKind.i64)) Ty.unit))) r6))] Ty.bool r7)) ∧
      ((((selB r (r3 == r4) false) = true) →
        (((selB r (r3 == r4) false) = true) ∧
        ((selB r (r3 == r4) false) = true))) ∧
      ((((selB r (r3 == r4) false) = true) →
        ((selB r (r3 == r4) false) = true)) ∧
      ∃ r8 : Bool,
      ((((selB (selB r (r3 == r4) false) (r3 == r7) false) = true) →
        ((((selB (selB r (r3 == r4) false) (r3 == r7) false) = true) ∧
        ((selB (selB r (r3 == r4) false) (r3 == r7) false) = true)) ∧
        CallP Try.prog tT (22 : Nat) [(AV.c (Cap.d (Ty.st (Ty.pair (Ty.sl (Ty.int Go.IntKind.i64)) (Ty.pair (Ty.sl (Ty.int Go.IntKind.i64)) Ty.unit))) b)), (AV.c (Cap.d (Ty.st (Ty.pair (Ty.sl (Ty.int Go.IntKind.i64)) (Ty.pair (Ty.sl (Ty.int Go.IntKind.i64)) Ty.unit))) a))] Ty.bool r8)) ∧
      ((((selB (selB r (r3 == r4) false) (r3 == r7) false) = true) →
        (((selB (selB r (r3 == r4) false) (r3 == r7) false) = true) ∧
        ((selB (selB r (r3 == r4) false) (r3 == r7) false) = true))) ∧
      ((((selB (selB r (r3 == r4) false) (r3 == r7) false) = true) →
        ((selB (selB r (r3 == r4) false) (r3 == r7) false) = true)) ∧
      ∃ r9 : ((List Int) × ((List Int) × Unit)),
      ((((selB (selB (selB r (r3 == r4) false) (r3 == r7) false) (r3 == r8) false) = true) →
        (((selB (selB (selB r (r3 == r4) false) (r3 == r7) false) (r3 == r8) false) = true) ∧
        CallP Try.prog tT (20 : Nat) [(AV.c (Cap.d (Ty.st (Ty.pair (Ty.sl (Ty.int Go.IntKind.i64)) (Ty.pair (Ty.sl (Ty.int Go.IntKind.i64)) Ty.unit))) a))] (Ty.st (Ty.pair (Ty.sl (Ty.int Go.IntKind.i64)) (Ty.pair (Ty.sl (Ty.int Go.IntKind.i64)) Ty.unit))) r9)) ∧
      ∃ r10 : Bool,
      ((((selB (selB (selB r (r3 == r4) false) (r3 == r7) false) (r3 == r8) false) = true) →
        ((((selB (selB (selB r (r3 == r4) false) (r3 == r7) false) (r3 == r8) false) = true) ∧
        ((selB (selB (selB r (r3 == r4) false) (r3 == r7) false) (r3 == r8) false) = true)) ∧
        CallP Try.prog tT (22 : Nat) [(AV.c (Cap.d (Ty.st (Ty.pair (Ty.sl (Ty.int Go.IntKind.i64)) (Ty.pair (Ty.sl (Ty.int Go.IntKind.i64)) Ty.unit))) a)), (AV.c (Cap.d (Ty.st (Ty.pair (Ty.sl (Ty.int Go.IntKind.i64)) (Ty.pair (Ty.sl (Ty.int Go.IntKind.i64)) Ty.unit))) r9))] Ty.bool r10)) ∧
      ((((selB (selB (selB r (r3 == r4) false) (r3 == r7) false) (r3 == r8) false) = true) →
        ((selB (selB (selB r (r3 == r4) false) (r3 == r7) false) (r3 == r8) false) = true)) ∧
      (R (selB (selB (selB (selB r (r3 == r4) false) (r3 == r7) false) (r3 == r8) false) r10 false))))))))))))))))))))))))) : CallP Try.prog tT 5 [.d (.st (.pair (.sl (.int .i64)) (.pair (.sl (.int .i64)) .unit))) a, .d (.st (.pair (.sl (.int .i64)) (.pair (.sl (.int .i64)) .unit))) b] .bool r :=
  callP_of (cx := cx5) (d := 6) mixed tab_ok inl_ok Try.func5 ⟨fun _ _ => by kernel_rfl⟩ rfl rfl fun wf => Eq.mpr (by kernel_rfl) (h (fun x => x = r) (fun _ => Iff.rfl) (wf.1 rfl) (wf.2.1 rfl))
set_option maxRecDepth 1000000 in
theorem sf5 (a : (Ty.T (.st (.pair (.sl (.int .i64)) (.pair (.sl (.int .i64)) .unit))))) (b : (Ty.T (.st (.pair (.sl (.int .i64)) (.pair (.sl (.int .i64)) .unit))))) (r : Ty.T .bool) (h : ∀ R : Ty.T .bool → Prop, (∀ x, R x ↔ x = r) → WF (.st (.pair (.sl (.int .i64)) (.pair (.sl (.int .i64)) .unit))) a → WF (.st (.pair (.sl (.int .i64)) (.pair (.sl (.int .i64)) .unit))) b → 
    (∃ r : Bool,
    (CallP Try.prog tT (10 : Nat) [] Ty.bool r ∧
    (∃ r1 : Bool,
    (CallP Try.prog tT (30 : Nat) [(AV.c (Cap.d (Ty.st (Ty.pair (Ty.sl (Ty.int Go.IntKind.i64)) (Ty.pair (Ty.sl (Ty.int Go.IntKind.i64)) Ty.unit))) a))] Ty.bool r1 ∧
    (∃ r2 : Bool,
    (((r1 = true) →
      CallP Try.prog tT (30 : Nat) [(AV.c (Cap.d (Ty.st (Ty.pair (Ty.sl (Ty.int Go.IntKind.i64)) (Ty.pair (Ty.sl (Ty.int Go.IntKind.i64)) Ty.unit))) b))] Ty.bool r2) ∧
    ((((r1 = false) ∨ (r2 = false)) →
      (∃ r3 : Bool,
      (((r = true) →
        CallP Try.prog tT (22 : Nat) [(AV.c (Cap.d (Ty.st (Ty.pair (Ty.sl (Ty.int Go.IntKind.i64)) (Ty.pair (Ty.sl (Ty.int Go.IntKind.i64)) Ty.unit))) a)), (AV.c (Cap.d (Ty.st (Ty.pair (Ty.sl (Ty.int Go.IntKind.i64)) (Ty.pair (Ty.sl (Ty.int Go.IntKind.i64)) Ty.unit))) b))] Ty.bool r3) ∧
      (∃ r4 : Bool,
      (((r = true) → (r3 = false) →
        CallP Try.prog tT (22 : Nat) [(AV.c (Cap.d (Ty.st (Ty.pair (Ty.sl (Ty.int Go.IntKind.i64)) (Ty.pair (Ty.sl (Ty.int Go.IntKind.i64)) Ty.unit))) b)), (AV.c (Cap.d (Ty.st (Ty.pair (Ty.sl (Ty.int Go.IntKind.i64)) (Ty.pair (Ty.sl (Ty.int Go.IntKind.i64)) Ty.unit))) a))] Ty.bool r4) ∧
      (R (selB (selB r (!r3) false) (!r4) false))))))) ∧
    ((r1 = true) → (r2 = true) →
      (∃ r3 : Bool,
      (CallP Try.prog tT (22 : Nat) [(AV.c (Cap.d (Ty.st (Ty.pair (Ty.sl (Ty.int Go.IntKind.i64)) (Ty.pair (Ty.sl (Ty.int Go.IntKind.i64)) Ty.unit))) a)), (AV.c (Cap.d (Ty.st (Ty.pair (Ty.sl (Ty.int Go.IntKind.i64)) (Ty.pair (Ty.sl (Ty.int Go.IntKind.i64)) Ty.unit))) b))] Ty.bool r3 ∧
      (∃ r4 : Bool,
      (((r = true) →
        CallP Try.prog tT (31 : Nat) [(AV.c (Cap.d (Ty.st (Ty.pair (Ty.sl (Ty.int Go.IntKind.i64)) (Ty.pair (Ty.sl (Ty.int Go.IntKind.i64)) Ty.unit))) a)), (AV.c (Cap.d (Ty.st (Ty.pair (Ty.sl (Ty.int Go.IntKind.i64)) (Ty.pair (Ty.sl (Ty.int Go.IntKind.i64)) Ty.unit))) b)), (AV.c (Cap.d (Ty.int Go.IntKind.i64) (140 : Int)))] Ty.bool r4) ∧
      (∃ r5 : ((List Int) × ((List Int) × Unit)),
      (((r = true) → ((r3 == r4) = true) →
        CallP Try.prog tT (20 : Nat) [(AV.c (Cap.d (Ty.st (Ty.pair (Ty.sl (Ty.int Go.IntKind.i64)) (Ty.pair (Ty.sl (Ty.int Go.IntKind.i64)) Ty.unit))) a))] (Ty.st (Ty.pair (Ty.sl (Ty.int Go.IntKind.i64)) (Ty.pair (Ty.sl (Ty.int Go.IntKind.i64)) Ty.unit))) r5) ∧
      (∃ r6 : ((List Int) × ((List Int) × Unit)),
      (((r = true) → ((r3 == r4) = true) →
        CallP Try.prog tT (20 : Nat) [(AV.c (Cap.d (Ty.st (Ty.pair (Ty.sl (Ty.int Go.IntKind.i64)) (Ty.pair (Ty.sl (Ty.int Go.IntKind.i64)) Ty.unit))) b))] (Ty.st (Ty.pair (Ty.sl (Ty.int Go.IntKind.i64)) (Ty.pair (Ty.sl (Ty.int Go.IntKind.i64)) Ty.unit))) r6) ∧
      (∃ r7 : Bool,
      (((r = true) → ((r3 == r4) = true) →
        CallP Try.prog tT (19 : Nat) [(AV.c (Cap.d (Ty.st (Ty.pair (Ty.sl (Ty.int Go.IntKind.i64)) (Ty.pair (Ty.sl (Ty.int Go.IntKind.i64)) Ty.unit))) r5)), (AV.c (Cap.d (Ty.st (Ty.pair (Ty.sl (Ty.int Go.IntKind.i64)) (Ty.pair (Ty.sl (Ty.int Go.IntKind.i64)) Ty.unit))) r6))] Ty.bool r7) ∧
      (∃ r8 : Bool,
      (((r = true) → ((r3 == r4) = true) → ((r3 == r7) = true) →
        CallP Try.prog tT (22 : Nat) [(AV.c (Cap.d (Ty.st (Ty.pair (Ty.sl (Ty.int Go.IntKind.i64)) (Ty.pair (Ty.sl (Ty.int Go.IntKind.i64)) Ty.unit))) b)), (AV.c (Cap.d (Ty.st (Ty.pair (Ty.sl (Ty.int Go.IntKind.i64)) (Ty.pair (Ty.sl (Ty.int Go.IntKind.i64)) Ty.unit))) a))] Ty.bool r8) ∧
      (∃ r9 : ((List Int) × ((List Int) × Unit)),
      (((r = true) → ((r3 == r4) = true) → ((r3 == r7) = true) → ((r3 == r8) = true) →
        CallP Try.prog tT (20 : Nat) [(AV.c (Cap.d (Ty.st (Ty.pair (Ty.sl (Ty.int Go.IntKind.i64)) (Ty.pair (Ty.sl (Ty.int Go.IntKind.i64)) Ty.unit))) a))] (Ty.st (Ty.pair (Ty.sl (Ty.int Go.IntKind.i64)) (Ty.pair (Ty.sl (Ty.int Go.IntKind.i64)) Ty.unit))) r9) ∧
      (∃ r10 : Bool,
      (((r = true) → ((r3 == r4) = true) → ((r3 == r7) = true) → ((r3 == r8) = true) →
        CallP Try.prog tT (22 : Nat) [(AV.c (Cap.d (Ty.st (Ty.pair (Ty.sl (Ty.int Go.IntKind.i64)) (Ty.pair (Ty.sl (Ty.int Go.IntKind.i64)) Ty.unit))) a)), (AV.c (Cap.d (Ty.st (Ty.pair (Ty.sl (Ty.int Go.IntKind.i64)) (Ty.pair (Ty.sl (Ty.int Go.IntKind.i64)) Ty.unit))) r9))] Ty.bool r10) ∧
      (R (selB (selB (selB (selB r (r3 == r4) false) (r3 == r7) false) (r3 == r8) false) r10 false))))))))))))))))))))))))))) : CallP Try.prog tT 5 [.d (.st (.pair (.sl (.int .i64)) (.pair (.sl (.int .i64)) .unit))) a, .d (.st (.pair (.sl (.int .i64)) (.pair (.sl (.int .i64)) .unit))) b] .bool r :=
  of5 a b r fun R hR w0_ w1_ => have p := h R hR w0_ w1_
    (Exists.elim p fun r q1 => Exists.intro r ⟨q1.1, (Exists.elim q1.2 fun r1 q2 => Exists.intro r1 ⟨q2.1, (Exists.elim q2.2 fun r2 q3 => Exists.intro r2 ⟨(fun h9 => ⟨h9, (q3.1 (bnot_f (bnot_t h9)))⟩), ⟨(fun h13 => h13), ⟨(fun h16 => (bnot_t2 h16)), ⟨(fun h46 => (Exists.elim (q3.2.1 (Or.imp (fun h => (bnot_t h)) (fun h => (bnot_t h)) (selB_ot h46))) fun r3 q47 => Exists.intro r3 ⟨(fun h53 => ⟨⟨h53, h53⟩, (q47.1 h53)⟩), ⟨(fun h56 => h56), ⟨(fun h58 => h58), (Exists.elim q47.2 fun r4 q59 => Exists.intro r4 ⟨(fun h65 => ⟨⟨h65, h65⟩, (q59.1 ((selB_at h65).1) (bnot_t (selB_at h65).2))⟩), ⟨(fun h68 => h68), ⟨(fun h70 => h70), q59.2⟩⟩⟩)⟩⟩⟩)), (fun h72 => (Exists.elim (q3.2.2 (bnot_f (selB_of h72).1) (bnot_f (selB_of h72).2)) fun r3 q73 => Exists.intro r3 ⟨q73.1, (Exists.elim q73.2 fun r4 q74 => Exists.intro r4 ⟨(fun h80 => ⟨⟨h80, h80⟩, (q74.1 h80)⟩), ⟨(fun h83 => ⟨h83, h83⟩), ⟨(fun h85 => h85), (Exists.elim q74.2 fun r5 q86 => Exists.intro r5 ⟨(fun h92 => ⟨h92, (q86.1 ((selB_at h92).1) ((selB_at h92).2))⟩), (Exists.elim q86.2 fun r6 q93 => Exists.intro r6 ⟨(fun h99 => ⟨h99, (q93.1 ((selB_at h99).1) ((selB_at h99).2))⟩), (Exists.elim q93.2 fun r7 q100 => Exists.intro r7 ⟨(fun h106 => ⟨⟨h106, h106⟩, (q100.1 ((selB_at h106).1) ((selB_at h106).2))⟩), ⟨(fun h109 => ⟨h109, h109⟩), ⟨(fun h111 => h111), (Exists.elim q100.2 fun r8 q112 => Exists.intro r8 ⟨(fun h118 => ⟨⟨h118, h118⟩, (q112.1 ((selB_at (selB_at h118).1).1) ((selB_at (selB_at h118).1).2) ((selB_at h118).2))⟩), ⟨(fun h121 => ⟨h121, h121⟩), ⟨(fun h123 => h123), (Exists.elim q112.2 fun r9 q124 => Exists.intro r9 ⟨(fun h130 => ⟨h130, (q124.1 ((selB_at (selB_at (selB_at h130).1).1).1) ((selB_at (selB_at (selB_at h130).1).1).2) ((selB_at (selB_at h130).1).2) ((selB_at h130).2))⟩), (Exists.elim q124.2 fun r10 q131 => Exists.intro r10 ⟨(fun h137 => ⟨⟨h137, h137⟩, (q131.1 ((selB_at (selB_at (selB_at h137).1).1).1) ((selB_at (selB_at (selB_at h137).1).1).2) ((selB_at (selB_at h137).1).2) ((selB_at h137).2))⟩), ⟨(fun h139 => h139), q131.2⟩⟩)⟩)⟩⟩⟩)⟩⟩⟩)⟩)⟩)⟩⟩⟩)⟩))⟩⟩⟩⟩)⟩)⟩)
/- foresight/foresightlaw02.WordSuffix -/
def cx6 : Cx := { T := tT, own := ownT, frz := [], loops := [(60007, 405, ⟨[.val 9 (.int .i64)], 0⟩)], cuts := [], inl := inlT }
set_option maxRecDepth 1000000 in
theorem of6 (w : (Ty.T (.st (.pair (.sl (.int .i64)) (.pair (.sl (.int .i64)) .unit))))) (n : (Ty.T (.int .i64))) (m : (Ty.T (.int .i64))) (r : Ty.T .bool) (h : ∀ R : Ty.T .bool → Prop, (∀ x, R x ↔ x = r) → WF (.st (.pair (.sl (.int .i64)) (.pair (.sl (.int .i64)) .unit))) w → WF (.int .i64) n → WF (.int .i64) m → 
    ∃ r : Bool,
    (CallP Try.prog tT (10 : Nat) [] Ty.bool r ∧
    ∃ r1 : Bool,
    (CallP Try.prog tT (30 : Nat) [(AV.c (Cap.d (Ty.st (Ty.pair (Ty.sl (Ty.int Go.IntKind.i64)) (Ty.pair (Ty.sl (Ty.int Go.IntKind.i64)) Ty.unit))) w))] Ty.bool r1 ∧
    ((((!(!r1)) = true) →
      ((!(!r1)) = true)) ∧
    ((((!r1) = false) →
      ((!(!r1)) = true)) ∧
    ((((!(selB (!r1) true (decide (n < (0 : Int))))) = true) →
      ((!(selB (!r1) true (decide (n < (0 : Int))))) = true)) ∧
    ((((selB (!r1) true (decide (n < (0 : Int)))) = false) →
      ((!(selB (!r1) true (decide (n < (0 : Int))))) = true)) ∧
    ((((!(selB (selB (!r1) true (decide (n < (0 : Int)))) true (decide (m < (0 : Int))))) = true) →
      ((!(selB (selB (!r1) true (decide (n < (0 : Int)))) true (decide (m < (0 : Int))))) = true)) ∧
    ((((selB (selB (!r1) true (decide (n < (0 : Int)))) true (decide (m < (0 : Int)))) = false) →
      ((!(selB (selB (!r1) true (decide (n < (0 : Int)))) true (decide (m < (0 : Int))))) = true)) ∧
    ((((!(selB (selB (selB (!r1) true (decide (n < (0 : Int)))) true (decide (m < (0 : Int)))) true (decide ((1000 : Int) < n)))) = true) →
      ((!(selB (selB (selB (!r1) true (decide (n < (0 : Int)))) true (decide (m < (0 : Int)))) true (decide ((1000 : Int) < n)))) = true)) ∧
    ((((selB (selB (selB (!r1) true (decide (n < (0 : Int)))) true (decide (m < (0 : Int)))) true (decide ((1000 : Int) < n))) = false) →
      ((!(selB (selB (selB (!r1) true (decide (n < (0 : Int)))) true (decide (m < (0 : Int)))) true (decide ((1000 : Int) < n)))) = true)) ∧
    ((((selB (selB (selB (selB (!r1) true (decide (n < (0 : Int)))) true (decide (m < (0 : Int)))) true (decide ((1000 : Int) < n))) true (decide ((1000 : Int) < m))) = true) →
      (((r = true) →
        (r = true)) ∧
      (((r = true) →
        (r = true)) ∧
      ∃ r2 : Bool,
      ((((r && (decide ((0 : Int) ≤ n))) = true) →
        (((r && (decide ((0 : Int) ≤ n))) = true) ∧
        CallP Try.prog tT (30 : Nat) [(AV.c (Cap.d (Ty.st (Ty.pair (Ty.sl (Ty.int Go.IntKind.i64)) (Ty.pair (Ty.sl (Ty.int Go.IntKind.i64)) Ty.unit))) w))] Ty.bool r2)) ∧
      (((r = true) →
        ((r = true) ∧
        (((decide ((0 : Int) ≤ n)) = true) →
          ((r && (decide ((0 : Int) ≤ n))) = true)))) ∧
      (((r = true) →
        (r = true)) ∧
      ∃ r3 : ((List Int) × ((List Int) × Unit)),
      ((((r && (!(selB (decide ((0 : Int) ≤ n)) r2 false))) = true) →
        ((((r && (!(selB (decide ((0 : Int) ≤ n)) r2 false))) = true) ∧
        ((r && (!(selB (decide ((0 : Int) ≤ n)) r2 false))) = true)) ∧
        CallP Try.prog tT (24 : Nat) [(AV.c (Cap.d (Ty.st (Ty.pair (Ty.sl (Ty.int Go.IntKind.i64)) (Ty.pair (Ty.sl (Ty.int Go.IntKind.i64)) Ty.unit))) w)), (AV.c (Cap.d (Ty.int Go.IntKind.i64) n))] (Ty.st (Ty.pair (Ty.sl (Ty.int Go.IntKind.i64)) (Ty.pair (Ty.sl (Ty.int Go.IntKind.i64)) Ty.unit))) r3)) ∧
      ((((r && (!(selB (decide ((0 : Int) ≤ n)) r2 false))) = true) →
        ((r && (!(selB (decide ((0 : Int) ≤ n)) r2 false))) = true)) ∧
      ((((r && (!(selB (decide ((0 : Int) ≤ n)) r2 false))) = true) →
        ((r && (!(selB (decide ((0 : Int) ≤ n)) r2 false))) = true)) ∧
      ((((r && (!(selB (decide ((0 : Int) ≤ n)) r2 false))) = true) →
        ((r && (!(selB (decide ((0 : Int) ≤ n)) r2 false))) = true)) ∧
      (((r = true) →
        ((r = true) ∧
        (((selB (decide ((0 : Int) ≤ n)) r2 false) = false) →
          ((r && (!(selB (decide ((0 : Int) ≤ n)) r2 false))) = true)))) ∧
      (((r = true) →
        (r = true)) ∧
      (R (selB r (selB (selB (decide ((0 : Int) ≤ n)) r2 false) true (decide ((((List.length r3.2.1) : Nat) : Int) = (0 : Int)))) false)))))))))))))) ∧
    (((selB (selB (selB (selB (!r1) true (decide (n < (0 : Int)))) true (decide (m < (0 : Int)))) true (decide ((1000 : Int) < n))) true (decide ((1000 : Int) < m))) = false) →
      ∃ r2 : ((List Int) × ((List Int) × Unit)),
      (CallP Try.prog tT (24 : Nat) [(AV.c (Cap.d (Ty.st (Ty.pair (Ty.sl (Ty.int Go.IntKind.i64)) (Ty.pair (Ty.sl (Ty.int Go.IntKind.i64)) Ty.unit))) w)), (AV.c (Cap.d (Ty.int Go.IntKind.i64) n))] (Ty.st (Ty.pair (Ty.sl (Ty.int Go.IntKind.i64)) (Ty.pair (Ty.sl (Ty.int Go.IntKind.i64)) Ty.unit))) r2 ∧
      ∃ I : ((Int × Unit) → Prop),
      ∃ μ : ((Int × Unit) → Nat),
      ((I ((0 : Int), ())) ∧
      ∀ x : (Int × Unit),
      ((WF (Ty.int Go.IntKind.i64) x.1 ∧
        True) →
        ((I x) →
          ((((decide (x.1 < (120 : Int))) = true) →
            ∃ r3 : Int,
            (CallP Try.prog tT (14 : Nat) [(AV.c (Cap.d (Ty.st (Ty.pair (Ty.sl (Ty.int Go.IntKind.i64)) (Ty.pair (Ty.sl (Ty.int Go.IntKind.i64)) Ty.unit))) (r2.1, (r2.2.1, ())))), (AV.c (Cap.d (Ty.int Go.IntKind.i64) x.1))] (Ty.int Go.IntKind.i64) r3 ∧
            (inK Go.IntKind.i64 (n + x.1) ∧
            ∃ r4 : Int,
            (CallP Try.prog tT (14 : Nat) [(AV.c (Cap.d (Ty.st (Ty.pair (Ty.sl (Ty.int Go.IntKind.i64)) (Ty.pair (Ty.sl (Ty.int Go.IntKind.i64)) Ty.unit))) w)), (AV.c (Cap.d (Ty.int Go.IntKind.i64) (n + x.1)))] (Ty.int Go.IntKind.i64) r4 ∧
            ((((!(decide (r3 = r4))) = true) →
              (R false)) ∧
            (((!(decide (r3 = r4))) = false) →
              (inK Go.IntKind.i64 (x.1 + (1 : Int)) ∧
              ((I ((x.1 + (1 : Int)), ())) ∧
              ((μ ((x.1 + (1 : Int)), ())) < (μ x)))))))))) ∧
          (((decide (x.1 < (120 : Int))) = false) →
            ∃ r3 : ((List Int) × ((List Int) × Unit)),
            (((r = true) →
              (((r = true) ∧
              (r = true)) ∧
              CallP Try.prog tT (24 : Nat) [(AV.c (Cap.d (Ty.st (Ty.pair (Ty.sl (Ty.int Go.IntKind.i64)) (Ty.pair (Ty.sl (Ty.int Go.IntKind.i64)) Ty.unit))) (r2.1, (r2.2.1, ())))), (AV.c (Cap.d (Ty.int Go.IntKind.i64) m))] (Ty.st (Ty.pair (Ty.sl (Ty.int Go.IntKind.i64)) (Ty.pair (Ty.sl (Ty.int Go.IntKind.i64)) Ty.unit))) r3)) ∧
            (((r = true) →
              (((r = true) ∧
              (r = true)) ∧
              inK Go.IntKind.i64 (n + m))) ∧
            ∃ r4 : ((List Int) × ((List Int) × Unit)),
            (((r = true) →
              (((r = true) ∧
              (r = true)) ∧
              CallP Try.prog tT (24 : Nat) [(AV.c (Cap.d (Ty.st (Ty.pair (Ty.sl (Ty.int Go.IntKind.i64)) (Ty.pair (Ty.sl (Ty.int Go.IntKind.i64)) Ty.unit))) w)), (AV.c (Cap.d (Ty.int Go.IntKind.i64) (n + m)))] (Ty.st (Ty.pair (Ty.sl (Ty.int Go.IntKind.i64)) (Ty.pair (Ty.sl (Ty.int Go.IntKind.i64)) Ty.unit))) r4)) ∧
            ∃ r5 : Bool,
            (((r = true) →
              (((r = true) ∧
              (r = true)) ∧
              CallP Try.prog tT (19 : Nat) [(AV.c (Cap.d (Ty.st (Ty.pair (Ty.sl (Ty.int Go.IntKind.i64)) (Ty.pair (Ty.sl (Ty.int Go.IntKind.i64)) Ty.unit))) r3)), (AV.c (Cap.d (Ty.st (Ty.pair (Ty.sl (Ty.int Go.IntKind.i64)) (Ty.pair (Ty.sl (Ty.int Go.IntKind.i64)) Ty.unit))) r4))] Ty.bool r5)) ∧
            (((r = true) →
              (r = true)) ∧
            ∃ r6 : ((List Int) × ((List Int) × Unit)),
            ((((selB r r5 false) = true) →
              (((selB r r5 false) = true) ∧
              CallP Try.prog tT (24 : Nat) [(AV.c (Cap.d (Ty.st (Ty.pair (Ty.sl (Ty.int Go.IntKind.i64)) (Ty.pair (Ty.sl (Ty.int Go.IntKind.i64)) Ty.unit))) w)), (AV.c (Cap.d (Ty.int Go.IntKind.i64) (0 : Int)))] (Ty.st (Ty.pair (Ty.sl (Ty.int Go.IntKind.i64)) (Ty.pair (Ty.sl (Ty.int Go.IntKind.i64)) Ty.unit))) r6)) ∧
            ∃ r7 : Bool,
            ((((selB r r5 false) = true) →
              ((((selB r r5 false) = true) ∧
              ((selB r r5 false) = true)) ∧
              CallP Try.prog tT (22 : Nat) [(AV.c (Cap.d (Ty.st (Ty.pair (Ty.sl (Ty.int Go.IntKind.i64)) (Ty.pair (Ty.sl (Ty.int Go.IntKind.i64)) Ty.unit))) r6)), (AV.c (Cap.d (Ty.st (Ty.pair (Ty.sl (Ty.int Go.IntKind.i64)) (Ty.pair (Ty.sl (Ty.int Go.IntKind.i64)) Ty.unit))) w))] Ty.bool r7)) ∧
            ((((selB r r5 false) = true) →
              ((selB r r5 false) = true)) ∧
            (R (selB (selB r r5 false) r7 false))))))))))))))))))))))))))))) : CallP Try.prog tT 6 [.d (.st (.pair (.sl (.int .i64)) (.pair (.sl (.int .i64)) .unit))) w, .d (.int .i64) n, .d (.int .i64) m] .bool r :=
  callP_of (cx := cx6) (d := 6) mixed tab_ok inl_ok Try.func6 ⟨fun _ _ => by kernel_rfl⟩ rfl rfl fun wf => Eq.mpr (by kernel_rfl) (h (fun x => x = r) (fun _ => Iff.rfl) (wf.1 rfl) (wf.2.1 rfl) (wf.2.2.1 rfl))
set_option maxRecDepth 1000000 in
theorem sf6 (w : (Ty.T (.st (.pair (.sl (.int .i64)) (.pair (.sl (.int .i64)) .unit))))) (n : (Ty.T (.int .i64))) (m : (Ty.T (.int .i64))) (r : Ty.T .bool) (h : ∀ R : Ty.T .bool → Prop, (∀ x, R x ↔ x = r) → WF (.st (.pair (.sl (.int .i64)) (.pair (.sl (.int .i64)) .unit))) w → WF (.int .i64) n → WF (.int .i64) m → 
    (∃ r : Bool,
    (CallP Try.prog tT (10 : Nat) [] Ty.bool r ∧
    (∃ r1 : Bool,
    (CallP Try.prog tT (30 : Nat) [(AV.c (Cap.d (Ty.st (Ty.pair (Ty.sl (Ty.int Go.IntKind.i64)) (Ty.pair (Ty.sl (Ty.int Go.IntKind.i64)) Ty.unit))) w))] Ty.bool r1 ∧
    (((((((r1 = false) ∨ (n < (0 : Int))) ∨ (m < (0 : Int))) ∨ ((1000 : Int) < n)) ∨ ((1000 : Int) < m)) →
      (∃ r2 : Bool,
      (((r = true) → ((0 : Int) ≤ n) →
        CallP Try.prog tT (30 : Nat) [(AV.c (Cap.d (Ty.st (Ty.pair (Ty.sl (Ty.int Go.IntKind.i64)) (Ty.pair (Ty.sl (Ty.int Go.IntKind.i64)) Ty.unit))) w))] Ty.bool r2) ∧
      (∃ r3 : ((List Int) × ((List Int) × Unit)),
      (((r = true) → ((n < (0 : Int)) ∨ (r2 = false)) →
        CallP Try.prog tT (24 : Nat) [(AV.c (Cap.d (Ty.st (Ty.pair (Ty.sl (Ty.int Go.IntKind.i64)) (Ty.pair (Ty.sl (Ty.int Go.IntKind.i64)) Ty.unit))) w)), (AV.c (Cap.d (Ty.int Go.IntKind.i64) n))] (Ty.st (Ty.pair (Ty.sl (Ty.int Go.IntKind.i64)) (Ty.pair (Ty.sl (Ty.int Go.IntKind.i64)) Ty.unit))) r3) ∧
      (R (selB r (selB (selB (decide ((0 : Int) ≤ n)) r2 false) true (decide ((((List.length r3.2.1) : Nat) : Int) = (0 : Int)))) false))))))) ∧
    ((r1 = true) → ((0 : Int) ≤ n) → ((0 : Int) ≤ m) → (n ≤ (1000 : Int)) → (m ≤ (1000 : Int)) →
      (∃ r2 : ((List Int) × ((List Int) × Unit)),
      (CallP Try.prog tT (24 : Nat) [(AV.c (Cap.d (Ty.st (Ty.pair (Ty.sl (Ty.int Go.IntKind.i64)) (Ty.pair (Ty.sl (Ty.int Go.IntKind.i64)) Ty.unit))) w)), (AV.c (Cap.d (Ty.int Go.IntKind.i64) n))] (Ty.st (Ty.pair (Ty.sl (Ty.int Go.IntKind.i64)) (Ty.pair (Ty.sl (Ty.int Go.IntKind.i64)) Ty.unit))) r2 ∧
      (∃ I : ((Int × Unit) → Prop),
      (∃ μ : ((Int × Unit) → Nat),
      ((I ((0 : Int), ())) ∧
      (∀ x : (Int × Unit),
      ((WF (Ty.int Go.IntKind.i64) x.1 ∧
        True) →
        ((I x) →
          (((x.1 < (120 : Int)) →
            (∃ r3 : Int,
            (CallP Try.prog tT (14 : Nat) [(AV.c (Cap.d (Ty.st (Ty.pair (Ty.sl (Ty.int Go.IntKind.i64)) (Ty.pair (Ty.sl (Ty.int Go.IntKind.i64)) Ty.unit))) (r2.1, (r2.2.1, ())))), (AV.c (Cap.d (Ty.int Go.IntKind.i64) x.1))] (Ty.int Go.IntKind.i64) r3 ∧
            (inK Go.IntKind.i64 (n + x.1) ∧
            (∃ r4 : Int,
            (CallP Try.prog tT (14 : Nat) [(AV.c (Cap.d (Ty.st (Ty.pair (Ty.sl (Ty.int Go.IntKind.i64)) (Ty.pair (Ty.sl (Ty.int Go.IntKind.i64)) Ty.unit))) w)), (AV.c (Cap.d (Ty.int Go.IntKind.i64) (n + x.1)))] (Ty.int Go.IntKind.i64) r4 ∧
            (((¬ (r3 = r4)) →
              (R false)) ∧
            ((r3 = r4) →
              (inK Go.IntKind.i64 (x.1 + (1 : Int)) ∧
              ((I ((x.1 + (1 : Int)), ())) ∧
              ((μ ((x.1 + (1 : Int)), ())) < (μ x)))))))))))) ∧
          (((120 : Int) ≤ x.1) →
            (∃ r3 : ((List Int) × ((List Int) × Unit)),
            (((r = true) →
              CallP Try.prog tT (24 : Nat) [(AV.c (Cap.d (Ty.st (Ty.pair (Ty.sl (Ty.int Go.IntKind.i64)) (Ty.pair (Ty.sl (Ty.int Go.IntKind.i64)) Ty.unit))) (r2.1, (r2.2.1, ())))), (AV.c (Cap.d (Ty.int Go.IntKind.i64) m))] (Ty.st (Ty.pair (Ty.sl (Ty.int Go.IntKind.i64)) (Ty.pair (Ty.sl (Ty.int Go.IntKind.i64)) Ty.unit))) r3) ∧
            (((r = true) →
              inK Go.IntKind.i64 (n + m)) ∧
            (∃ r4 : ((List Int) × ((List Int) × Unit)),
            (((r = true) →
              CallP Try.prog tT (24 : Nat) [(AV.c (Cap.d (Ty.st (Ty.pair (Ty.sl (Ty.int Go.IntKind.i64)) (Ty.pair (Ty.sl (Ty.int Go.IntKind.i64)) Ty.unit))) w)), (AV.c (Cap.d (Ty.int Go.IntKind.i64) (n + m)))] (Ty.st (Ty.pair (Ty.sl (Ty.int Go.IntKind.i64)) (Ty.pair (Ty.sl (Ty.int Go.IntKind.i64)) Ty.unit))) r4) ∧
            (∃ r5 : Bool,
            (((r = true) →
              CallP Try.prog tT (19 : Nat) [(AV.c (Cap.d (Ty.st (Ty.pair (Ty.sl (Ty.int Go.IntKind.i64)) (Ty.pair (Ty.sl (Ty.int Go.IntKind.i64)) Ty.unit))) r3)), (AV.c (Cap.d (Ty.st (Ty.pair (Ty.sl (Ty.int Go.IntKind.i64)) (Ty.pair (Ty.sl (Ty.int Go.IntKind.i64)) Ty.unit))) r4))] Ty.bool r5) ∧
            (∃ r6 : ((List Int) × ((List Int) × Unit)),
            (((r = true) → (r5 = true) →
              CallP Try.prog tT (24 : Nat) [(AV.c (Cap.d (Ty.st (Ty.pair (Ty.sl (Ty.int Go.IntKind.i64)) (Ty.pair (Ty.sl (Ty.int Go.IntKind.i64)) Ty.unit))) w)), (AV.c (Cap.d (Ty.int Go.IntKind.i64) (0 : Int)))] (Ty.st (Ty.pair (Ty.sl (Ty.int Go.IntKind.i64)) (Ty.pair (Ty.sl (Ty.int Go.IntKind.i64)) Ty.unit))) r6) ∧
            (∃ r7 : Bool,
            (((r = true) → (r5 = true) →
              CallP Try.prog tT (22 : Nat) [(AV.c (Cap.d (Ty.st (Ty.pair (Ty.sl (Ty.int Go.IntKind.i64)) (Ty.pair (Ty.sl (Ty.int Go.IntKind.i64)) Ty.unit))) r6)), (AV.c (Cap.d (Ty.st (Ty.pair (Ty.sl (Ty.int Go.IntKind.i64)) (Ty.pair (Ty.sl (Ty.int Go.IntKind.i64)) Ty.unit))) w))] Ty.bool r7) ∧
            (R (selB (selB r r5 false) r7 false)))))))))))))))))))))))))))))) : CallP Try.prog tT 6 [.d (.st (.pair (.sl (.int .i64)) (.pair (.sl (.int .i64)) .unit))) w, .d (.int .i64) n, .d (.int .i64) m] .bool r :=
  of6 w n m r fun R hR w0_ w1_ w2_ => have p := h R hR w0_ w1_ w2_
    (Exists.elim p fun r q1 => Exists.intro r ⟨q1.1, (Exists.elim q1.2 fun r1 q2 => Exists.intro r1 ⟨q2.1, ⟨(fun h14 => h14), ⟨(fun h25 => (bnot_t2 h25)), ⟨(fun h35 => h35), ⟨(fun h44 => (bnot_t2 h44)), ⟨(fun h52 => h52), ⟨(fun h59 => (bnot_t2 h59)), ⟨(fun h65 => h65), ⟨(fun h70 => (bnot_t2 h70)), ⟨(fun h135 => ⟨(fun h138 => h138), ⟨(fun h140 => h140), (Exists.elim (q2.2.1 (Or.imp (fun h => (Or.imp (fun h => (Or.imp (fun h => (Or.imp (fun h => (bnot_t h)) (fun h => (of_decide_eq_true h)) (selB_ot h))) (fun h => (of_decide_eq_true h)) (selB_ot h))) (fun h => (of_decide_eq_true h)) (selB_ot h))) (fun h => (of_decide_eq_true h)) (selB_ot h135))) fun r2 q141 => Exists.intro r2 ⟨(fun h147 => ⟨h147, (q141.1 ((and_at h147).1) (of_decide_eq_true (and_at h147).2))⟩), ⟨(fun h151 => ⟨h151, (fun h152 => (and_at2 h151 h152))⟩), ⟨(fun h154 => h154), (Exists.elim q141.2 fun r3 q155 => Exists.intro r3 ⟨(fun h161 => ⟨⟨h161, h161⟩, (q155.1 ((and_at h161).1) (Or.imp (fun h => (Int.not_le.1 (of_decide_eq_false h))) (fun h => h) (selB_af (bnot_t (and_at h161).2))))⟩), ⟨(fun h168 => h168), ⟨(fun h174 => h174), ⟨(fun h179 => h179), ⟨(fun h183 => ⟨h183, (fun h184 => (and_at2 h183 (bnot_t2 h184)))⟩), ⟨(fun h186 => h186), q155.2⟩⟩⟩⟩⟩⟩)⟩⟩⟩)⟩⟩), (fun h188 => (Exists.elim (q2.2.2 (bnot_f (selB_of (selB_of (selB_of (selB_of h188).1).1).1).1) (Int.not_lt.1 (of_decide_eq_false (selB_of (selB_of (selB_of (selB_of h188).1).1).1).2)) (Int.not_lt.1 (of_decide_eq_false (selB_of (selB_of (selB_of h188).1).1).2)) (Int.not_lt.1 (of_decide_eq_false (selB_of (selB_of h188).1).2)) (Int.not_lt.1 (of_decide_eq_false (selB_of h188).2))) fun r2 q189 => Exists.intro r2 ⟨q189.1, (Exists.elim q189.2 fun I q190 => Exists.intro I (Exists.elim q190 fun μ q191 => Exists.intro μ ⟨q191.1, (fun x => (fun h192 => (fun h193 => ⟨(fun h209 => (Exists.elim ((((q191.2 x) h192) h193).1 (of_decide_eq_true h209)) fun r3 q210 => Exists.intro r3 ⟨q210.1, ⟨q210.2.1, (Exists.elim q210.2.2 fun r4 q211 => Exists.intro r4 ⟨q211.1, ⟨(fun h217 => (q211.2.1 (of_decide_eq_false (bnot_t h217)))), (fun h219 => ⟨(q211.2.2 (of_decide_eq_true (bnot_f h219))).1, ⟨(q211.2.2 (of_decide_eq_true (bnot_f h219))).2.1, (q211.2.2 (of_decide_eq_true (bnot_f h219))).2.2⟩⟩)⟩⟩)⟩⟩)), (fun h221 => (Exists.elim ((((q191.2 x) h192) h193).2 (Int.not_lt.1 (of_decide_eq_false h221))) fun r3 q222 => Exists.intro r3 ⟨(fun h228 => ⟨⟨h228, h228⟩, (q222.1 h228)⟩), ⟨(fun h234 => ⟨⟨h234, h234⟩, (q222.2.1 h234)⟩), (Exists.elim q222.2.2 fun r4 q235 => Exists.intro r4 ⟨(fun h241 => ⟨⟨h241, h241⟩, (q235.1 h241)⟩), (Exists.elim q235.2 fun r5 q242 => Exists.intro r5 ⟨(fun h248 => ⟨⟨h248, h248⟩, (q242.1 h248)⟩), ⟨(fun h250 => h250), (Exists.elim q242.2 fun r6 q251 => Exists.intro r6 ⟨(fun h257 => ⟨h257, (q251.1 ((selB_at h257).1) ((selB_at h257).2))⟩), (Exists.elim q251.2 fun r7 q258 => Exists.intro r7 ⟨(fun h264 => ⟨⟨h264, h264⟩, (q258.1 ((selB_at h264).1) ((selB_at h264).2))⟩), ⟨(fun h266 => h266), q258.2⟩⟩)⟩)⟩⟩)⟩)⟩⟩))⟩)))⟩))⟩))⟩⟩⟩⟩⟩⟩⟩⟩⟩⟩)⟩)
/- foresight/foresightlaw02.WordPrefix -/
def cx7 : Cx := { T := tT, own := ownT, frz := [], loops := [(70009, 342, ⟨[.val 7 (.int .i64)], 0⟩)], cuts := [], inl := inlT }
set_option maxRecDepth 1000000 in
theorem of7 (w : (Ty.T (.st (.pair (.sl (.int .i64)) (.pair (.sl (.int .i64)) .unit))))) (n : (Ty.T (.int .i64))) (r : Ty.T .bool) (h : ∀ R : Ty.T .bool → Prop, (∀ x, R x ↔ x = r) → WF (.st (.pair (.sl (.int .i64)) (.pair (.sl (.int .i64)) .unit))) w → WF (.int .i64) n → 
    ∃ r : Bool,
    (CallP Try.prog tT (10 : Nat) [] Ty.bool r ∧
    ∃ r1 : (List Int),
    (CallP Try.prog tT (17 : Nat) [(AV.c (Cap.d (Ty.st (Ty.pair (Ty.sl (Ty.int Go.IntKind.i64)) (Ty.pair (Ty.sl (Ty.int Go.IntKind.i64)) Ty.unit))) w)), (AV.c (Cap.d (Ty.int Go.IntKind.i64) n))] (Ty.sl (Ty.int Go.IntKind.i64)) r1 ∧
    ∃ r2 : Bool,
    (CallP Try.prog tT (30 : Nat) [(AV.c (Cap.d (Ty.st (Ty.pair (Ty.sl (Ty.int Go.IntKind.i64)) (Ty.pair (Ty.sl (Ty.int Go.IntKind.i64)) Ty.unit))) w))] Ty.bool r2 ∧
    ((((!(!r2)) = true) →
      ((!(!r2)) = true)) ∧
    ((((!r2) = false) →
      ((!(!r2)) = true)) ∧
    ((((!(selB (!r2) true (decide (n < (0 : Int))))) = true) →
      ((!(selB (!r2) true (decide (n < (0 : Int))))) = true)) ∧
    ((((selB (!r2) true (decide (n < (0 : Int)))) = false) →
      ((!(selB (!r2) true (decide (n < (0 : Int))))) = true)) ∧
    ((((selB (selB (!r2) true (decide (n < (0 : Int)))) true (decide ((500 : Int) < n))) = true) →
      (((r = true) →
        (r = true)) ∧
      (((r = true) →
        (r = true)) ∧
      (((r = true) →
        (r = true)) ∧
      (R (selB r (decide ((((List.length r1) : Nat) : Int) = (0 : Int))) false)))))) ∧
    (((selB (selB (!r2) true (decide (n < (0 : Int)))) true (decide ((500 : Int) < n))) = false) →
      ((((!(decide ((((List.length r1) : Nat) : Int) = n))) = true) →
        (R false)) ∧
      (((!(decide ((((List.length r1) : Nat) : Int) = n))) = false) →
        ∃ I : ((Int × Unit) → Prop),
        ∃ μ : ((Int × Unit) → Nat),
        ((I ((0 : Int), ())) ∧
        ∀ x : (Int × Unit),
        ((WF (Ty.int Go.IntKind.i64) x.1 ∧
          True) →
          ((I x) →
            ((((decide (x.1 < n)) = true) →
              ((((0 : Int) ≤ x.1) ∧
              (x.1 < (((List.length r1) : Nat) : Int))) ∧
              ∃ r3 : Int,
              (CallP Try.prog tT (14 : Nat) [(AV.c (Cap.d (Ty.st (Ty.pair (Ty.sl (Ty.int Go.IntKind.i64)) (Ty.pair (Ty.sl (Ty.int Go.IntKind.i64)) Ty.unit))) w)), (AV.c (Cap.d (Ty.int Go.IntKind.i64) x.1))] (Ty.int Go.IntKind.i64) r3 ∧
              ((((!(decide ((List.getD r1 (Int.toNat x.1) (0 : Int)) = r3))) = true) →
                (R false)) ∧
              (((!(decide ((List.getD r1 (Int.toNat x.1) (0 : Int)) = r3))) = false) →
                (inK Go.IntKind.i64 (x.1 + (1 : Int)) ∧
                ((I ((x.1 + (1 : Int)), ())) ∧
                ((μ ((x.1 + (1 : Int)), ())) < (μ x))))))))) ∧
            (((decide (x.1 < n)) = false) →
              ∃ r3 : ((List Int) × ((List Int) × Unit)),
              (((r = true) →
                (((r = true) ∧
                (r = true)) ∧
                CallP Try.prog tT (24 : Nat) [(AV.c (Cap.d (Ty.st (Ty.pair (Ty.sl (Ty.int Go.IntKind.i64)) (Ty.pair (Ty.sl (Ty.int Go.IntKind.i64)) Ty.unit))) w)), (AV.c (Cap.d (Ty.int Go.IntKind.i64) n))] (Ty.st (Ty.pair (Ty.sl (Ty.int Go.IntKind.i64)) (Ty.pair (Ty.sl (Ty.int Go.IntKind.i64)) Ty.unit))) r3)) ∧
              ∃ r4 : ((List Int) × ((List Int) × Unit)),
              (((r = true) →
                (((r = true) ∧
                (r = true)) ∧
                CallP Try.prog tT (26 : Nat) [(AV.c (Cap.d (Ty.sl (Ty.int Go.IntKind.i64)) r1)), (AV.c (Cap.d (Ty.st (Ty.pair (Ty.sl (Ty.int Go.IntKind.i64)) (Ty.pair (Ty.sl (Ty.int Go.IntKind.i64)) Ty.unit))) r3))] (Ty.st (Ty.pair (Ty.sl (Ty.int Go.IntKind.i64)) (Ty.pair (Ty.sl (Ty.int Go.IntKind.i64)) Ty.unit))) r4)) ∧
              ∃ r5 : ((List Int) × ((List Int) × Unit)),
              (((r = true) →
                ((r = true) ∧
                CallP Try.prog tT (20 : Nat) [(AV.c (Cap.d (Ty.st (Ty.pair (Ty.sl (Ty.int Go.IntKind.i64)) (Ty.pair (Ty.sl (Ty.int Go.IntKind.i64)) Ty.unit))) w))] (Ty.st (Ty.pair (Ty.sl (Ty.int Go.IntKind.i64)) (Ty.pair (Ty.sl (Ty.int Go.IntKind.i64)) Ty.unit))) r5)) ∧
              ∃ r6 : Bool,
              (((r = true) →
                (((r = true) ∧
                (r = true)) ∧
                CallP Try.prog tT (19 : Nat) [(AV.c (Cap.d (Ty.st (Ty.pair (Ty.sl (Ty.int Go.IntKind.i64)) (Ty.pair (Ty.sl (Ty.int Go.IntKind.i64)) Ty.unit))) r4)), (AV.c (Cap.d (Ty.st (Ty.pair (Ty.sl (Ty.int Go.IntKind.i64)) (Ty.pair (Ty.sl (Ty.int Go.IntKind.i64)) Ty.unit))) r5))] Ty.bool r6)) ∧
              (((r = true) →
                (r = true)) ∧
              (R (selB r r6 false)))))))))))))))))))))))) : CallP Try.prog tT 7 [.d (.st (.pair (.sl (.int .i64)) (.pair (.sl (.int .i64)) .unit))) w, .d (.int .i64) n] .bool r :=
  callP_of (cx := cx7) (d := 6) mixed tab_ok inl_ok Try.func7 ⟨fun _ _ => by kernel_rfl⟩ rfl rfl fun wf => Eq.mpr (by kernel_rfl) (h (fun x => x = r) (fun _ => Iff.rfl) (wf.1 rfl) (wf.2.1 rfl))
set_option maxRecDepth 1000000 in
theorem sf7 (w : (Ty.T (.st (.pair (.sl (.int .i64)) (.pair (.sl (.int .i64)) .unit))))) (n : (Ty.T (.int .i64))) (r : Ty.T .bool) (h : ∀ R : Ty.T .bool → Prop, (∀ x, R x ↔ x = r) → WF (.st (.pair (.sl (.int .i64)) (.pair (.sl (.int .i64)) .unit))) w → WF (.int .i64) n → 
    (∃ r : Bool,
    (CallP Try.prog tT (10 : Nat) [] Ty.bool r ∧
    (∃ r1 : (List Int),
    (CallP Try.prog tT (17 : Nat) [(AV.c (Cap.d (Ty.st (Ty.pair (Ty.sl (Ty.int Go.IntKind.i64)) (Ty.pair (Ty.sl (Ty.int Go.IntKind.i64)) Ty.unit))) w)), (AV.c (Cap.d (Ty.int Go.IntKind.i64) n))] (Ty.sl (Ty.int Go.IntKind.i64)) r1 ∧
    (∃ r2 : Bool,
    (CallP Try.prog tT (30 : Nat) [(AV.c (Cap.d (Ty.st (Ty.pair (Ty.sl (Ty.int Go.IntKind.i64)) (Ty.pair (Ty.sl (Ty.int Go.IntKind.i64)) Ty.unit))) w))] Ty.bool r2 ∧
    (((((r2 = false) ∨ (n < (0 : Int))) ∨ ((500 : Int) < n)) →
      (R (selB r (decide ((((List.length r1) : Nat) : Int) = (0 : Int))) false))) ∧
    ((r2 = true) → ((0 : Int) ≤ n) → (n ≤ (500 : Int)) →
      (((¬ ((((List.length r1) : Nat) : Int) = n)) →
        (R false)) ∧
      (((((List.length r1) : Nat) : Int) = n) →
        (∃ I : ((Int × Unit) → Prop),
        (∃ μ : ((Int × Unit) → Nat),
        ((I ((0 : Int), ())) ∧
        (∀ x : (Int × Unit),
        ((WF (Ty.int Go.IntKind.i64) x.1 ∧
          True) →
          ((I x) →
            (((x.1 < n) →
              ((((0 : Int) ≤ x.1) ∧
              (x.1 < (((List.length r1) : Nat) : Int))) ∧
              (∃ r3 : Int,
              (CallP Try.prog tT (14 : Nat) [(AV.c (Cap.d (Ty.st (Ty.pair (Ty.sl (Ty.int Go.IntKind.i64)) (Ty.pair (Ty.sl (Ty.int Go.IntKind.i64)) Ty.unit))) w)), (AV.c (Cap.d (Ty.int Go.IntKind.i64) x.1))] (Ty.int Go.IntKind.i64) r3 ∧
              (((¬ ((List.getD r1 (Int.toNat x.1) (0 : Int)) = r3)) →
                (R false)) ∧
              (((List.getD r1 (Int.toNat x.1) (0 : Int)) = r3) →
                (inK Go.IntKind.i64 (x.1 + (1 : Int)) ∧
                ((I ((x.1 + (1 : Int)), ())) ∧
                ((μ ((x.1 + (1 : Int)), ())) < (μ x)))))))))) ∧
            ((n ≤ x.1) →
              (∃ r3 : ((List Int) × ((List Int) × Unit)),
              (((r = true) →
                CallP Try.prog tT (24 : Nat) [(AV.c (Cap.d (Ty.st (Ty.pair (Ty.sl (Ty.int Go.IntKind.i64)) (Ty.pair (Ty.sl (Ty.int Go.IntKind.i64)) Ty.unit))) w)), (AV.c (Cap.d (Ty.int Go.IntKind.i64) n))] (Ty.st (Ty.pair (Ty.sl (Ty.int Go.IntKind.i64)) (Ty.pair (Ty.sl (Ty.int Go.IntKind.i64)) Ty.unit))) r3) ∧
              (∃ r4 : ((List Int) × ((List Int) × Unit)),
              (((r = true) →
                CallP Try.prog tT (26 : Nat) [(AV.c (Cap.d (Ty.sl (Ty.int Go.IntKind.i64)) r1)), (AV.c (Cap.d (Ty.st (Ty.pair (Ty.sl (Ty.int Go.IntKind.i64)) (Ty.pair (Ty.sl (Ty.int Go.IntKind.i64)) Ty.unit))) r3))] (Ty.st (Ty.pair (Ty.sl (Ty.int Go.IntKind.i64)) (Ty.pair (Ty.sl (Ty.int Go.IntKind.i64)) Ty.unit))) r4) ∧
              (∃ r5 : ((List Int) × ((List Int) × Unit)),
              (((r = true) →
                CallP Try.prog tT (20 : Nat) [(AV.c (Cap.d (Ty.st (Ty.pair (Ty.sl (Ty.int Go.IntKind.i64)) (Ty.pair (Ty.sl (Ty.int Go.IntKind.i64)) Ty.unit))) w))] (Ty.st (Ty.pair (Ty.sl (Ty.int Go.IntKind.i64)) (Ty.pair (Ty.sl (Ty.int Go.IntKind.i64)) Ty.unit))) r5) ∧
              (∃ r6 : Bool,
              (((r = true) →
                CallP Try.prog tT (19 : Nat) [(AV.c (Cap.d (Ty.st (Ty.pair (Ty.sl (Ty.int Go.IntKind.i64)) (Ty.pair (Ty.sl (Ty.int Go.IntKind.i64)) Ty.unit))) r4)), (AV.c (Cap.d (Ty.st (Ty.pair (Ty.sl (Ty.int Go.IntKind.i64)) (Ty.pair (Ty.sl (Ty.int Go.IntKind.i64)) Ty.unit))) r5))] Ty.bool r6) ∧
              (R (selB r r6 false))))))))))))))))))))))))))))) : CallP Try.prog tT 7 [.d (.st (.pair (.sl (.int .i64)) (.pair (.sl (.int .i64)) .unit))) w, .d (.int .i64) n] .bool r :=
  of7 w n r fun R hR w0_ w1_ => have p := h R hR w0_ w1_
    (Exists.elim p fun r q1 => Exists.intro r ⟨q1.1, (Exists.elim q1.2 fun r1 q2 => Exists.intro r1 ⟨q2.1, (Exists.elim q2.2 fun r2 q3 => Exists.intro r2 ⟨q3.1, ⟨(fun h12 => h12), ⟨(fun h20 => (bnot_t2 h20)), ⟨(fun h27 => h27), ⟨(fun h33 => (bnot_t2 h33)), ⟨(fun h60 => ⟨(fun h64 => h64), ⟨(fun h67 => h67), ⟨(fun h69 => h69), (q3.2.1 (Or.imp (fun h => (Or.imp (fun h => (bnot_t h)) (fun h => (of_decide_eq_true h)) (selB_ot h))) (fun h => (of_decide_eq_true h)) (selB_ot h60)))⟩⟩⟩), (fun h72 => ⟨(fun h78 => ((q3.2.2 (bnot_f (selB_of (selB_of h72).1).1) (Int.not_lt.1 (of_decide_eq_false (selB_of (selB_of h72).1).2)) (Int.not_lt.1 (of_decide_eq_false (selB_of h72).2))).1 (of_decide_eq_false (bnot_t h78)))), (fun h80 => (Exists.elim ((q3.2.2 (bnot_f (selB_of (selB_of h72).1).1) (Int.not_lt.1 (of_decide_eq_false (selB_of (selB_of h72).1).2)) (Int.not_lt.1 (of_decide_eq_false (selB_of h72).2))).2 (of_decide_eq_true (bnot_f h80))) fun I q81 => Exists.intro I (Exists.elim q81 fun μ q82 => Exists.intro μ ⟨q82.1, (fun x => (fun h83 => (fun h84 => ⟨(fun h99 => ⟨⟨((((q82.2 x) h83) h84).1 (of_decide_eq_true h99)).1.1, ((((q82.2 x) h83) h84).1 (of_decide_eq_true h99)).1.2⟩, (Exists.elim ((((q82.2 x) h83) h84).1 (of_decide_eq_true h99)).2 fun r3 q100 => Exists.intro r3 ⟨q100.1, ⟨(fun h106 => (q100.2.1 (of_decide_eq_false (bnot_t h106)))), (fun h108 => ⟨(q100.2.2 (of_decide_eq_true (bnot_f h108))).1, ⟨(q100.2.2 (of_decide_eq_true (bnot_f h108))).2.1, (q100.2.2 (of_decide_eq_true (bnot_f h108))).2.2⟩⟩)⟩⟩)⟩), (fun h110 => (Exists.elim ((((q82.2 x) h83) h84).2 (Int.not_lt.1 (of_decide_eq_false h110))) fun r3 q111 => Exists.intro r3 ⟨(fun h117 => ⟨⟨h117, h117⟩, (q111.1 h117)⟩), (Exists.elim q111.2 fun r4 q118 => Exists.intro r4 ⟨(fun h124 => ⟨⟨h124, h124⟩, (q118.1 h124)⟩), (Exists.elim q118.2 fun r5 q125 => Exists.intro r5 ⟨(fun h131 => ⟨h131, (q125.1 h131)⟩), (Exists.elim q125.2 fun r6 q132 => Exists.intro r6 ⟨(fun h138 => ⟨⟨h138, h138⟩, (q132.1 h138)⟩), ⟨(fun h140 => h140), q132.2⟩⟩)⟩)⟩)⟩))⟩)))⟩)))⟩)⟩⟩⟩⟩⟩⟩)⟩)⟩)
/- foresight/foresightlaw02.WordPush -/
def cx8 : Cx := { T := tT, own := ownT, frz := [], loops := [], cuts := [], inl := inlT }
set_option maxRecDepth 1000000 in
theorem of8 (a : (Ty.T (.sl (.int .i64)))) (b : (Ty.T (.sl (.int .i64)))) (w : (Ty.T (.st (.pair (.sl (.int .i64)) (.pair (.sl (.int .i64)) .unit))))) (r : Ty.T .bool) (h : ∀ R : Ty.T .bool → Prop, (∀ x, R x ↔ x = r) → WF (.sl (.int .i64)) a → WF (.sl (.int .i64)) b → WF (.st (.pair (.sl (.int .i64)) (.pair (.sl (.int .i64)) .unit))) w → 
    ∃ r : Bool,
    (CallP Try.prog tT (10 : Nat) [] Ty.bool r ∧
    ((((!(decide ((80 : Int) < (((List.length a) : Nat) : Int)))) = true) →
      ((!(decide ((80 : Int) < (((List.length a) : Nat) : Int)))) = true)) ∧
    ((((!(decide ((80 : Int) < (((List.length a) : Nat) : Int)))) = true) →
      ((!(decide ((80 : Int) < (((List.length a) : Nat) : Int)))) = true)) ∧
    ((((decide ((80 : Int) < (((List.length a) : Nat) : Int))) = false) →
      ((!(decide ((80 : Int) < (((List.length a) : Nat) : Int)))) = true)) ∧
    ∃ r1 : Bool,
    ((((!(selB (decide ((80 : Int) < (((List.length a) : Nat) : Int))) true (decide ((80 : Int) < (((List.length b) : Nat) : Int))))) = true) →
      (((!(selB (decide ((80 : Int) < (((List.length a) : Nat) : Int))) true (decide ((80 : Int) < (((List.length b) : Nat) : Int))))) = true) ∧
      CallP Try.prog tT (11 : Nat) [(AV.c (Cap.d (Ty.st (Ty.pair (Ty.sl (Ty.int Go.IntKind.i64)) (Ty.pair (Ty.sl (Ty.int Go.IntKind.i64)) Ty.unit))) w))] Ty.bool r1)) ∧
    ((((!(selB (decide ((80 : Int) < (((List.length a) : Nat) : Int))) true (decide ((80 : Int) < (((List.length b) : Nat) : Int))))) = true) →
      ((!(selB (decide ((80 : Int) < (((List.length a) : Nat) : Int))) true (decide ((80 : Int) < (((List.length b) : Nat) : Int))))) = true)) ∧
    ((((selB (decide ((80 : Int) < (((List.length a) : Nat) : Int))) true (decide ((80 : Int) < (((List.length b) : Nat) : Int)))) = false) →
      ((!(selB (decide ((80 : Int) < (((List.length a) : Nat) : Int))) true (decide ((80 : Int) < (((List.length b) : Nat) : Int))))) = true)) ∧
    ((((selB (selB (decide ((80 : Int) < (((List.length a) : Nat) : Int))) true (decide ((80 : Int) < (((List.length b) : Nat) : Int)))) true (!r1)) = true) →
      (R r)) ∧
    (((selB (selB (decide ((80 : Int) < (((List.length a) : Nat) : Int))) true (decide ((80 : Int) < (((List.length b) : Nat) : Int)))) true (!r1)) = false) →
      ∃ r2 : ((List Int) × ((List Int) × Unit)),
      (CallP Try.prog tT (26 : Nat) [(AV.c (Cap.d (Ty.sl (Ty.int Go.IntKind.i64)) a)), (AV.c (Cap.d (Ty.st (Ty.pair (Ty.sl (Ty.int Go.IntKind.i64)) (Ty.pair (Ty.sl (Ty.int Go.IntKind.i64)) Ty.unit))) w))] (Ty.st (Ty.pair (Ty.sl (Ty.int Go.IntKind.i64)) (Ty.pair (Ty.sl (Ty.int Go.IntKind.i64)) Ty.unit))) r2 ∧
      ((((decide ((0 : Int) < (((List.length r2.2.1) : Nat) : Int))) = true) →
        ((decide ((0 : Int) < (((List.length r2.2.1) : Nat) : Int))) = true)) ∧
      ∃ r3 : (List Int),
      ((((decide ((0 : Int) < (((List.length r2.2.1) : Nat) : Int))) = true) →
        ((((decide ((0 : Int) < (((List.length r2.2.1) : Nat) : Int))) = true) ∧
        ((decide ((0 : Int) < (((List.length r2.2.1) : Nat) : Int))) = true)) ∧
        CallP Try.prog tT (17 : Nat) [(AV.c (Cap.d (Ty.st (Ty.pair (Ty.sl (Ty.int Go.IntKind.i64)) (Ty.pair (Ty.sl (Ty.int Go.IntKind.i64)) Ty.unit))) (r2.1, (r2.2.1, ())))), (AV.c (Cap.d (Ty.int Go.IntKind.i64) (((List.length a) : Nat) : Int)))] (Ty.sl (Ty.int Go.IntKind.i64)) r3)) ∧
      ∃ r4 : Bool,
      ((((decide ((0 : Int) < (((List.length r2.2.1) : Nat) : Int))) = true) →
        ((((decide ((0 : Int) < (((List.length r2.2.1) : Nat) : Int))) = true) ∧
        ((decide ((0 : Int) < (((List.length r2.2.1) : Nat) : Int))) = true)) ∧
        CallP Try.prog tT (16 : Nat) [(AV.c (Cap.d (Ty.sl (Ty.int Go.IntKind.i64)) r3)), (AV.c (Cap.d (Ty.sl (Ty.int Go.IntKind.i64)) a))] Ty.bool r4)) ∧
      ((((decide ((0 : Int) < (((List.length r2.2.1) : Nat) : Int))) = true) →
        ((decide ((0 : Int) < (((List.length r2.2.1) : Nat) : Int))) = true)) ∧
      ((((decide ((0 : Int) < (((List.length r2.2.1) : Nat) : Int))) = true) →
        ((decide ((0 : Int) < (((List.length r2.2.1) : Nat) : Int))) = true)) ∧
      (((((decide ((0 : Int) < (((List.length r2.2.1) : Nat) : Int))) && (!(!r4))) = true) →
        (((decide ((0 : Int) < (((List.length r2.2.1) : Nat) : Int))) && (!(!r4))) = true)) ∧
      ∃ r5 : ((List Int) × ((List Int) × Unit)),
      (((((decide ((0 : Int) < (((List.length r2.2.1) : Nat) : Int))) && (!(!r4))) = true) →
        (((((decide ((0 : Int) < (((List.length r2.2.1) : Nat) : Int))) && (!(!r4))) = true) ∧
        (((decide ((0 : Int) < (((List.length r2.2.1) : Nat) : Int))) && (!(!r4))) = true)) ∧
        CallP Try.prog tT (24 : Nat) [(AV.c (Cap.d (Ty.st (Ty.pair (Ty.sl (Ty.int Go.IntKind.i64)) (Ty.pair (Ty.sl (Ty.int Go.IntKind.i64)) Ty.unit))) (r2.1, (r2.2.1, ())))), (AV.c (Cap.d (Ty.int Go.IntKind.i64) (((List.length a) : Nat) : Int)))] (Ty.st (Ty.pair (Ty.sl (Ty.int Go.IntKind.i64)) (Ty.pair (Ty.sl (Ty.int Go.IntKind.i64)) Ty.unit))) r5)) ∧
      ∃ r6 : Bool,
      (((((decide ((0 : Int) < (((List.length r2.2.1) : Nat) : Int))) && (!(!r4))) = true) →
        (((((decide ((0 : Int) < (((List.length r2.2.1) : Nat) : Int))) && (!(!r4))) = true) ∧
        (((decide ((0 : Int) < (((List.length r2.2.1) : Nat) : Int))) && (!(!r4))) = true)) ∧
        CallP Try.prog tT (22 : Nat) [(AV.c (Cap.d (Ty.st (Ty.pair (Ty.sl (Ty.int Go.IntKind.i64)) (Ty.pair (Ty.sl (Ty.int Go.IntKind.i64)) Ty.unit))) r5)), (AV.c (Cap.d (Ty.st (Ty.pair (Ty.sl (Ty.int Go.IntKind.i64)) (Ty.pair (Ty.sl (Ty.int Go.IntKind.i64)) Ty.unit))) w))] Ty.bool r6)) ∧
      (((((decide ((0 : Int) < (((List.length r2.2.1) : Nat) : Int))) && (!(!r4))) = true) →
        (((decide ((0 : Int) < (((List.length r2.2.1) : Nat) : Int))) && (!(!r4))) = true)) ∧
      ((((decide ((0 : Int) < (((List.length r2.2.1) : Nat) : Int))) = true) →
        (((decide ((0 : Int) < (((List.length r2.2.1) : Nat) : Int))) = true) ∧
        (((!r4) = false) →
          (((decide ((0 : Int) < (((List.length r2.2.1) : Nat) : Int))) && (!(!r4))) = true)))) ∧
      ((((decide ((0 : Int) < (((List.length r2.2.1) : Nat) : Int))) = true) →
        ((decide ((0 : Int) < (((List.length r2.2.1) : Nat) : Int))) = true)) ∧
      ((((selB (decide ((0 : Int) < (((List.length r2.2.1) : Nat) : Int))) (selB (!r4) true (!r6)) false) = true) →
        (R false)) ∧
      (((selB (decide ((0 : Int) < (((List.length r2.2.1) : Nat) : Int))) (selB (!r4) true (!r6)) false) = false) →
        ∃ r7 : ((List Int) × ((List Int) × Unit)),
        (CallP Try.prog tT (26 : Nat) [(AV.c (Cap.d (Ty.sl (Ty.int Go.IntKind.i64)) b)), (AV.c (Cap.d (Ty.st (Ty.pair (Ty.sl (Ty.int Go.IntKind.i64)) (Ty.pair (Ty.sl (Ty.int Go.IntKind.i64)) Ty.unit))) w))] (Ty.st (Ty.pair (Ty.sl (Ty.int Go.IntKind.i64)) (Ty.pair (Ty.sl (Ty.int Go.IntKind.i64)) Ty.unit))) r7 ∧
        (((((((List.length ([] : List Int)) + (List.length a)) : Nat) : Int) * (((8 : Nat) : Nat) : Int)) ≤ (140737488355328 : Int)) ∧
        (((((((List.length (([] : List Int) ++ a)) + (List.length b)) : Nat) : Int) * (((8 : Nat) : Nat) : Int)) ≤ (140737488355328 : Int)) ∧
        ∃ r8 : ((List Int) × ((List Int) × Unit)),
        (CallP Try.prog tT (26 : Nat) [(AV.c (Cap.d (Ty.sl (Ty.int Go.IntKind.i64)) ((([] : List Int) ++ a) ++ b))), (AV.c (Cap.d (Ty.st (Ty.pair (Ty.sl (Ty.int Go.IntKind.i64)) (Ty.pair (Ty.sl (Ty.int Go.IntKind.i64)) Ty.unit))) w))] (Ty.st (Ty.pair (Ty.sl (Ty.int Go.IntKind.i64)) (Ty.pair (Ty.sl (Ty.int Go.IntKind.i64)) Ty.unit))) r8 ∧
        (((r = true) →
          (r = true)) ∧
        (((r = true) →
          (r = true)) ∧
        (((r = true) →
          (r = true)) ∧
        (((r = true) →
          (r = true)) ∧
        ∃ r9 : ((List Int) × ((List Int) × Unit)),
        ((((r && (!(decide ((((List.length r7.2.1) : Nat) : Int) = (0 : Int))))) = true) →
          ((((r && (!(decide ((((List.length r7.2.1) : Nat) : Int) = (0 : Int))))) = true) ∧
          ((r && (!(decide ((((List.length r7.2.1) : Nat) : Int) = (0 : Int))))) = true)) ∧
          CallP Try.prog tT (26 : Nat) [(AV.c (Cap.d (Ty.sl (Ty.int Go.IntKind.i64)) a)), (AV.c (Cap.d (Ty.st (Ty.pair (Ty.sl (Ty.int Go.IntKind.i64)) (Ty.pair (Ty.sl (Ty.int Go.IntKind.i64)) Ty.unit))) (r7.1, (r7.2.1, ()))))] (Ty.st (Ty.pair (Ty.sl (Ty.int Go.IntKind.i64)) (Ty.pair (Ty.sl (Ty.int Go.IntKind.i64)) Ty.unit))) r9)) ∧
        ∃ r10 : Bool,
        ((((r && (!(decide ((((List.length r7.2.1) : Nat) : Int) = (0 : Int))))) = true) →
          ((((r && (!(decide ((((List.length r7.2.1) : Nat) : Int) = (0 : Int))))) = true) ∧
          ((r && (!(decide ((((List.length r7.2.1) : Nat) : Int) = (0 : Int))))) = true)) ∧
          CallP Try.prog tT (19 : Nat) [(AV.c (Cap.d (Ty.st (Ty.pair (Ty.sl (Ty.int Go.IntKind.i64)) (Ty.pair (Ty.sl (Ty.int Go.IntKind.i64)) Ty.unit))) r9)), (AV.c (Cap.d (Ty.st (Ty.pair (Ty.sl (Ty.int Go.IntKind.i64)) (Ty.pair (Ty.sl (Ty.int Go.IntKind.i64)) Ty.unit))) (r8.1, (r8.2.1, ()))))] Ty.bool r10)) ∧
        (((r = true) →
          ((r = true) ∧
          (((decide ((((List.length r7.2.1) : Nat) : Int) = (0 : Int))) = false) →
            ((r && (!(decide ((((List.length r7.2.1) : Nat) : Int) = (0 : Int))))) = true)))) ∧
        (((r = true) →
          (r = true)) ∧
        ((((selB r (selB (decide ((((List.length r7.2.1) : Nat) : Int) = (0 : Int))) true r10) false) = true) →
          ((selB r (selB (decide ((((List.length r7.2.1) : Nat) : Int) = (0 : Int))) true r10) false) = true)) ∧
        ((((selB r (selB (decide ((((List.length r7.2.1) : Nat) : Int) = (0 : Int))) true r10) false) = true) →
          ((selB r (selB (decide ((((List.length r7.2.1) : Nat) : Int) = (0 : Int))) true r10) false) = true)) ∧
        ((((selB r (selB (decide ((((List.length r7.2.1) : Nat) : Int) = (0 : Int))) true r10) false) = true) →
          ((selB r (selB (decide ((((List.length r7.2.1) : Nat) : Int) = (0 : Int))) true r10) false) = true)) ∧
        ((((selB r (selB (decide ((((List.length r7.2.1) : Nat) : Int) = (0 : Int))) true r10) false) = true) →
          ((selB r (selB (decide ((((List.length r7.2.1) : Nat) : Int) = (0 : Int))) true r10) false) = true)) ∧
        (((((selB r (selB (decide ((((List.length r7.2.1) : Nat) : Int) = (0 : Int))) true r10) false) && (!(decide ((((List.length r8.2.1) : Nat) : Int) = (0 : Int))))) = true) →
          (((selB r (selB (decide ((((List.length r7.2.1) : Nat) : Int) = (0 : Int))) true r10) false) && (!(decide ((((List.length r8.2.1) : Nat) : Int) = (0 : Int))))) = true)) ∧
        (((((selB r (selB (decide ((((List.length r7.2.1) : Nat) : Int) = (0 : Int))) true r10) false) && (!(decide ((((List.length r8.2.1) : Nat) : Int) = (0 : Int))))) = true) →
          (((selB r (selB (decide ((((List.length r7.2.1) : Nat) : Int) = (0 : Int))) true r10) false) && (!(decide ((((List.length r8.2.1) : Nat) : Int) = (0 : Int))))) = true)) ∧
        (((((selB r (selB (decide ((((List.length r7.2.1) : Nat) : Int) = (0 : Int))) true r10) false) && (!(decide ((((List.length r8.2.1) : Nat) : Int) = (0 : Int))))) = true) →
          (((selB r (selB (decide ((((List.length r7.2.1) : Nat) : Int) = (0 : Int))) true r10) false) && (!(decide ((((List.length r8.2.1) : Nat) : Int) = (0 : Int))))) = true)) ∧
        ((((selB r (selB (decide ((((List.length r7.2.1) : Nat) : Int) = (0 : Int))) true r10) false) = true) →
          (((selB r (selB (decide ((((List.length r7.2.1) : Nat) : Int) = (0 : Int))) true r10) false) = true) ∧
          (((decide ((((List.length r8.2.1) : Nat) : Int) = (0 : Int))) = false) →
            (((selB r (selB (decide ((((List.length r7.2.1) : Nat) : Int) = (0 : Int))) true r10) false) && (!(decide ((((List.length r8.2.1) : Nat) : Int) = (0 : Int))))) = true)))) ∧
        ((((selB r (selB (decide ((((List.length r7.2.1) : Nat) : Int) = (0 : Int))) true r10) false) = true) →
          ((selB r (selB (decide ((((List.length r7.2.1) : Nat) : Int) = (0 : Int))) true r10) false) = true)) ∧
        (R (selB (selB r (selB (decide ((((List.length r7.2.1) : Nat) : Int) = (0 : Int))) true r10) false) (selB (decide ((((List.length r8.2.1) : Nat) : Int) = (0 : Int))) true (decide ((0 : Int) < (((List.length r7.2.1) : Nat) : Int)))) false))))))))))))))))))))))))))))))))))))))))))))))) : CallP Try.prog tT 8 [.d (.sl (.int .i64)) a, .d (.sl (.int .i64)) b, .d (.st (.pair (.sl (.int .i64)) (.pair (.sl (.int .i64)) .unit))) w] .bool r :=
  callP_of (cx := cx8) (d := 6) mixed tab_ok inl_ok Try.func8 ⟨fun _ _ => by kernel_rfl⟩ rfl rfl fun wf => Eq.mpr (by kernel_rfl) (h (fun x => x = r) (fun _ => Iff.rfl) (wf.1 rfl) (wf.2.1 rfl) (wf.2.2.1 rfl))
set_option maxRecDepth 1000000 in
theorem sf8 (a : (Ty.T (.sl (.int .i64)))) (b : (Ty.T (.sl (.int .i64)))) (w : (Ty.T (.st (.pair (.sl (.int .i64)) (.pair (.sl (.int .i64)) .unit))))) (r : Ty.T .bool) (h : ∀ R : Ty.T .bool → Prop, (∀ x, R x ↔ x = r) → WF (.sl (.int .i64)) a → WF (.sl (.int .i64)) b → WF (.st (.pair (.sl (.int .i64)) (.pair (.sl (.int .i64)) .unit))) w → 
    (∃ r : Bool,
    (CallP Try.prog tT (10 : Nat) [] Ty.bool r ∧
    (∃ r1 : Bool,
    ((((((List.length a) : Nat) : Int) ≤ (80 : Int)) → ((((List.length b) : Nat) : Int) ≤ (80 : Int)) →
      CallP Try.prog tT (11 : Nat) [(AV.c (Cap.d (Ty.st (Ty.pair (Ty.sl (Ty.int Go.IntKind.i64)) (Ty.pair (Ty.sl (Ty.int Go.IntKind.i64)) Ty.unit))) w))] Ty.bool r1) ∧
    ((((((80 : Int) < (((List.length a) : Nat) : Int)) ∨ ((80 : Int) < (((List.length b) : Nat) : Int))) ∨ (r1 = false)) →
      (R r)) ∧
    (((((List.length a) : Nat) : Int) ≤ (80 : Int)) → ((((List.length b) : Nat) : Int) ≤ (80 : Int)) → (r1 = true) →
      (∃ r2 : ((List Int) × ((List Int) × Unit)),
      (CallP Try.prog tT (26 : Nat) [(AV.c (Cap.d (Ty.sl (Ty.int Go.IntKind.i64)) a)), (AV.c (Cap.d (Ty.st (Ty.pair (Ty.sl (Ty.int Go.IntKind.i64)) (Ty.pair (Ty.sl (Ty.int Go.IntKind.i64)) Ty.unit))) w))] (Ty.st (Ty.pair (Ty.sl (Ty.int Go.IntKind.i64)) (Ty.pair (Ty.sl (Ty.int Go.IntKind.i64)) Ty.unit))) r2 ∧
      (∃ r3 : (List Int),
      ((((0 : Int) < (((List.length r2.2.1) : Nat) : Int)) →
        CallP Try.prog tT (17 : Nat) [(AV.c (Cap.d (Ty.st (Ty.pair (Ty.sl (Ty.int Go.IntKind.i64)) (Ty.pair (Ty.sl (Ty.int Go.IntKind.i64)) Ty.unit))) (r2.1, (r2.2.1, ())))), (AV.c (Cap.d (Ty.int Go.IntKind.i64) (((List.length a) : Nat) : Int)))] (Ty.sl (Ty.int Go.IntKind.i64)) r3) ∧
      (∃ r4 : Bool,
      ((((0 : Int) < (((List.length r2.2.1) : Nat) : Int)) →
        CallP Try.prog tT (16 : Nat) [(AV.c (Cap.d (Ty.sl (Ty.int Go.IntKind.i64)) r3)), (AV.c (Cap.d (Ty.sl (Ty.int Go.IntKind.i64)) a))] Ty.bool r4) ∧
      (∃ r5 : ((List Int) × ((List Int) × Unit)),
      ((((0 : Int) < (((List.length r2.2.1) : Nat) : Int)) → (r4 = true) →
        CallP Try.prog tT (24 : Nat) [(AV.c (Cap.d (Ty.st (Ty.pair (Ty.sl (Ty.int Go.IntKind.i64)) (Ty.pair (Ty.sl (Ty.int Go.IntKind.i64)) Ty.unit))) (r2.1, (r2.2.1, ())))), (AV.c (Cap.d (Ty.int Go.IntKind.i64) (((List.length a) : Nat) : Int)))] (Ty.st (Ty.pair (Ty.sl (Ty.int Go.IntKind.i64)) (Ty.pair (Ty.sl (Ty.int Go.IntKind.i64)) Ty.unit))) r5) ∧
      (∃ r6 : Bool,
      ((((0 : Int) < (((List.length r2.2.1) : Nat) : Int)) → (r4 = true) →
        CallP Try.prog tT (22 : Nat) [(AV.c (Cap.d (Ty.st (Ty.pair (Ty.sl (Ty.int Go.IntKind.i64)) (Ty.pair (Ty.sl (Ty.int Go.IntKind.i64)) Ty.unit))) r5)), (AV.c (Cap.d (Ty.st (Ty.pair (Ty.sl (Ty.int Go.IntKind.i64)) (Ty.pair (Ty.sl (Ty.int Go.IntKind.i64)) Ty.unit))) w))] Ty.bool r6) ∧
      ((((0 : Int) < (((List.length r2.2.1) : Nat) : Int)) → ((r4 = false) ∨ (r6 = false)) →
        (R false)) ∧
      ((((((List.length r2.2.1) : Nat) : Int) ≤ (0 : Int)) ∨ ((r4 = true) ∧ (r6 = true))) →
        (∃ r7 : ((List Int) × ((List Int) × Unit)),
        (CallP Try.prog tT (26 : Nat) [(AV.c (Cap.d (Ty.sl (Ty.int Go.IntKind.i64)) b)), (AV.c (Cap.d (Ty.st (Ty.pair (Ty.sl (Ty.int Go.IntKind.i64)) (Ty.pair (Ty.sl (Ty.int Go.IntKind.i64)) Ty.unit))) w))] (Ty.st (Ty.pair (Ty.sl (Ty.int Go.IntKind.i64)) (Ty.pair (Ty.sl (Ty.int Go.IntKind.i64)) Ty.unit))) r7 ∧
        (((((((List.length ([] : List Int)) + (List.length a)) : Nat) : Int) * (((8 : Nat) : Nat) : Int)) ≤ (140737488355328 : Int)) ∧
        (((((((List.length (([] : List Int) ++ a)) + (List.length b)) : Nat) : Int) * (((8 : Nat) : Nat) : Int)) ≤ (140737488355328 : Int)) ∧
        (∃ r8 : ((List Int) × ((List Int) × Unit)),
        (CallP Try.prog tT (26 : Nat) [(AV.c (Cap.d (Ty.sl (Ty.int Go.IntKind.i64)) ((([] : List Int) ++ a) ++ b))), (AV.c (Cap.d (Ty.st (Ty.pair (Ty.sl (Ty.int Go.IntKind.i64)) (Ty.pair (Ty.sl (Ty.int Go.IntKind.i64)) Ty.unit))) w))] (Ty.st (Ty.pair (Ty.sl (Ty.int Go.IntKind.i64)) (Ty.pair (Ty.sl (Ty.int Go.IntKind.i64)) Ty.unit))) r8 ∧
        (∃ r9 : ((List Int) × ((List Int) × Unit)),
        (((r = true) → (¬ ((((List.length r7.2.1) : Nat) : Int) = (0 : Int))) →
          CallP Try.prog tT (26 : Nat) [(AV.c (Cap.d (Ty.sl (Ty.int Go.IntKind.i64)) a)), (AV.c (Cap.d (Ty.st (Ty.pair (Ty.sl (Ty.int Go.IntKind.i64)) (Ty.pair (Ty.sl (Ty.int Go.IntKind.i64)) Ty.unit))) (r7.1, (r7.2.1, ()))))] (Ty.st (Ty.pair (Ty.sl (Ty.int Go.IntKind.i64)) (Ty.pair (Ty.sl (Ty.int Go.IntKind.i64)) Ty.unit))) r9) ∧
        (∃ r10 : Bool,
        (((r = true) → (¬ ((((List.length r7.2.1) : Nat) : Int) = (0 : Int))) →
          CallP Try.prog tT (19 : Nat) [(AV.c (Cap.d (Ty.st (Ty.pair (Ty.sl (Ty.int Go.IntKind.i64)) (Ty.pair (Ty.sl (Ty.int Go.IntKind.i64)) Ty.unit))) r9)), (AV.c (Cap.d (Ty.st (Ty.pair (Ty.sl (Ty.int Go.IntKind.i64)) (Ty.pair (Ty.sl (Ty.int Go.IntKind.i64)) Ty.unit))) (r8.1, (r8.2.1, ()))))] Ty.bool r10) ∧
        (R (selB (selB r (selB (decide ((((List.length r7.2.1) : Nat) : Int) = (0 : Int))) true r10) false) (selB (decide ((((List.length r8.2.1) : Nat) : Int) = (0 : Int))) true (decide ((0 : Int) < (((List.length r7.2.1) : Nat) : Int)))) false))))))))))))))))))))))))))))))) : CallP Try.prog tT 8 [.d (.sl (.int .i64)) a, .d (.sl (.int .i64)) b, .d (.st (.pair (.sl (.int .i64)) (.pair (.sl (.int .i64)) .unit))) w] .bool r :=
  of8 a b w r fun R hR w0_ w1_ w2_ => have p := h R hR w0_ w1_ w2_
    (Exists.elim p fun r q1 => Exists.intro r ⟨q1.1, ⟨(fun h5 => h5), ⟨(fun h8 => h8), ⟨(fun h10 => (bnot_t2 h10)), (Exists.elim q1.2 fun r1 q11 => Exists.intro r1 ⟨(fun h17 => ⟨h17, (q11.1 (Int.not_lt.1 (of_decide_eq_false (selB_of (bnot_t h17)).1)) (Int.not_lt.1 (of_decide_eq_false (selB_of (bnot_t h17)).2)))⟩), ⟨(fun h21 => h21), ⟨(fun h24 => (bnot_t2 h24)), ⟨(fun h30 => (q11.2.1 (Or.imp (fun h => (Or.imp (fun h => (of_decide_eq_true h)) (fun h => (of_decide_eq_true h)) (selB_ot h))) (fun h => (bnot_t h)) (selB_ot h30)))), (fun h32 => (Exists.elim (q11.2.2 (Int.not_lt.1 (of_decide_eq_false (selB_of (selB_of h32).1).1)) (Int.not_lt.1 (of_decide_eq_false (selB_of (selB_of h32).1).2)) (bnot_f (selB_of h32).2)) fun r2 q33 => Exists.intro r2 ⟨q33.1, ⟨(fun h35 => h35), (Exists.elim q33.2 fun r3 q36 => Exists.intro r3 ⟨(fun h42 => ⟨⟨h42, h42⟩, (q36.1 (of_decide_eq_true h42))⟩), (Exists.elim q36.2 fun r4 q43 => Exists.intro r4 ⟨(fun h49 => ⟨⟨h49, h49⟩, (q43.1 (of_decide_eq_true h49))⟩), ⟨(fun h53 => h53), ⟨(fun h56 => h56), ⟨(fun h58 => h58), (Exists.elim q43.2 fun r5 q59 => Exists.intro r5 ⟨(fun h65 => ⟨⟨h65, h65⟩, (q59.1 (of_decide_eq_true (and_at h65).1) (bnot_f (bnot_t (and_at h65).2)))⟩), (Exists.elim q59.2 fun r6 q66 => Exists.intro r6 ⟨(fun h72 => ⟨⟨h72, h72⟩, (q66.1 (of_decide_eq_true (and_at h72).1) (bnot_f (bnot_t (and_at h72).2)))⟩), ⟨(fun h78 => h78), ⟨(fun h83 => ⟨h83, (fun h84 => (and_at2 h83 (bnot_t2 h84)))⟩), ⟨(fun h87 => h87), ⟨(fun h93 => (q66.2.1 (of_decide_eq_true (selB_at h93).1) (Or.imp (fun h => (bnot_t h)) (fun h => (bnot_t h)) (selB_ot (selB_at h93).2)))), (fun h95 => (Exists.elim (q66.2.2 (Or.imp (fun h => (Int.not_lt.1 (of_decide_eq_false h))) (fun h => ⟨(bnot_f (selB_of h).1), (bnot_f (selB_of h).2)⟩) (selB_af h95))) fun r7 q96 => Exists.intro r7 ⟨q96.1, ⟨q96.2.1, ⟨q96.2.2.1, (Exists.elim q96.2.2.2 fun r8 q97 => Exists.intro r8 ⟨q97.1, ⟨(fun h102 => h102), ⟨(fun h106 => h106), ⟨(fun h109 => h109), ⟨(fun h111 => h111), (Exists.elim q97.2 fun r9 q112 => Exists.intro r9 ⟨(fun h118 => ⟨⟨h118, h118⟩, (q112.1 ((and_at h118).1) (of_decide_eq_false (bnot_t (and_at h118).2)))⟩), (Exists.elim q112.2 fun r10 q119 => Exists.intro r10 ⟨(fun h125 => ⟨⟨h125, h125⟩, (q119.1 ((and_at h125).1) (of_decide_eq_false (bnot_t (and_at h125).2)))⟩), ⟨(fun h139 => ⟨h139, (fun h140 => (and_at2 h139 (bnot_t2 h140)))⟩), ⟨(fun h152 => h152), ⟨(fun h163 => h163), ⟨(fun h173 => h173), ⟨(fun h182 => h182), ⟨(fun h190 => h190), ⟨(fun h197 => h197), ⟨(fun h203 => h203), ⟨(fun h208 => h208), ⟨(fun h212 => ⟨h212, (fun h213 => (and_at2 h212 (bnot_t2 h213)))⟩), ⟨(fun h215 => h215), q119.2⟩⟩⟩⟩⟩⟩⟩⟩⟩⟩⟩⟩)⟩)⟩⟩⟩⟩⟩)⟩⟩⟩))⟩⟩⟩⟩⟩)⟩)⟩⟩⟩⟩)⟩)⟩⟩))⟩⟩⟩⟩)⟩⟩⟩⟩)
/- foresight/foresightlaw02.WordZip -/
def cx9 : Cx := { T := tT, own := ownT, frz := [], loops := [(90011, 756, ⟨[.val 11 (.int .i64)], 0⟩)], cuts := [], inl := inlT }
set_option maxRecDepth 1000000 in
theorem of9 (a : (Ty.T (.st (.pair (.sl (.int .i64)) (.pair (.sl (.int .i64)) .unit))))) (b : (Ty.T (.st (.pair (.sl (.int .i64)) (.pair (.sl (.int .i64)) .unit))))) (table : (Ty.T (.sl (.sl (.int .i64))))) (n : (Ty.T (.int .u8))) (r : Ty.T .bool) (h : ∀ R : Ty.T .bool → Prop, (∀ x, R x ↔ x = r) → WF (.st (.pair (.sl (.int .i64)) (.pair (.sl (.int .i64)) .unit))) a → WF (.st (.pair (.sl (.int .i64)) (.pair (.sl (.int .i64)) .unit))) b → WF (.sl (.sl (.int .i64))) table → WF (.int .u8) n → 
    ∃ r : Bool,
    (CallP Try.prog tT (10 : Nat) [] Ty.bool r ∧
    ∃ r1 : Bool,
    (CallP Try.prog tT (30 : Nat) [(AV.c (Cap.d (Ty.st (Ty.pair (Ty.sl (Ty.int Go.IntKind.i64)) (Ty.pair (Ty.sl (Ty.int Go.IntKind.i64)) Ty.unit))) a))] Ty.bool r1 ∧
    ∃ r2 : Bool,
    ((((!(!r1)) = true) →
      (((!(!r1)) = true) ∧
      CallP Try.prog tT (30 : Nat) [(AV.c (Cap.d (Ty.st (Ty.pair (Ty.sl (Ty.int Go.IntKind.i64)) (Ty.pair (Ty.sl (Ty.int Go.IntKind.i64)) Ty.unit))) b))] Ty.bool r2)) ∧
    ((((!(!r1)) = true) →
      ((!(!r1)) = true)) ∧
    ((((!r1) = false) →
      ((!(!r1)) = true)) ∧
    ((((!(selB (!r1) true (!r2))) = true) →
      ((!(selB (!r1) true (!r2))) = true)) ∧
    ((((!(selB (!r1) true (!r2))) = true) →
      ((!(selB (!r1) true (!r2))) = true)) ∧
    ((((selB (!r1) true (!r2)) = false) →
      ((!(selB (!r1) true (!r2))) = true)) ∧
    ((((selB (selB (!r1) true (!r2)) true (decide ((64 : Int) < (((List.length table) : Nat) : Int)))) = true) →
      (R r)) ∧
    (((selB (selB (!r1) true (!r2)) true (decide ((64 : Int) < (((List.length table) : Nat) : Int)))) = false) →
      ∃ r3 : (List (List Int)),
      (CallP Try.prog tT (32 : Nat) [] (Ty.sl (Ty.sl (Ty.int Go.IntKind.i64))) r3 ∧
      ∃ r4 : ((List Int) × ((List Int) × Unit)),
      (CallP Try.prog tT (28 : Nat) [(AV.c (Cap.d (Ty.st (Ty.pair (Ty.sl (Ty.int Go.IntKind.i64)) (Ty.pair (Ty.sl (Ty.int Go.IntKind.i64)) Ty.unit))) a)), (AV.c (Cap.d (Ty.st (Ty.pair (Ty.sl (Ty.int Go.IntKind.i64)) (Ty.pair (Ty.sl (Ty.int Go.IntKind.i64)) Ty.unit))) b)), (AV.c (Cap.d (Ty.sl (Ty.sl (Ty.int Go.IntKind.i64))) r3))] (Ty.st (Ty.pair (Ty.sl (Ty.int Go.IntKind.i64)) (Ty.pair (Ty.sl (Ty.int Go.IntKind.i64)) Ty.unit))) r4 ∧
      ∃ r5 : Bool,
      (CallP Try.prog tT (22 : Nat) [(AV.c (Cap.d (Ty.st (Ty.pair (Ty.sl (Ty.int Go.IntKind.i64)) (Ty.pair (Ty.sl (Ty.int Go.IntKind.i64)) Ty.unit))) r4)), (AV.c (Cap.d (Ty.st (Ty.pair (Ty.sl (Ty.int Go.IntKind.i64)) (Ty.pair (Ty.sl (Ty.int Go.IntKind.i64)) Ty.unit))) a))] Ty.bool r5 ∧
      ((((!r5) = true) →
        (R false)) ∧
      (((!r5) = false) →
        ∃ r6 : ((List Int) × ((List Int) × Unit)),
        (CallP Try.prog tT (28 : Nat) [(AV.c (Cap.d (Ty.st (Ty.pair (Ty.sl (Ty.int Go.IntKind.i64)) (Ty.pair (Ty.sl (Ty.int Go.IntKind.i64)) Ty.unit))) a)), (AV.c (Cap.d (Ty.st (Ty.pair (Ty.sl (Ty.int Go.IntKind.i64)) (Ty.pair (Ty.sl (Ty.int Go.IntKind.i64)) Ty.unit))) b)), (AV.c (Cap.d (Ty.sl (Ty.sl (Ty.int Go.IntKind.i64))) table))] (Ty.st (Ty.pair (Ty.sl (Ty.int Go.IntKind.i64)) (Ty.pair (Ty.sl (Ty.int Go.IntKind.i64)) Ty.unit))) r6 ∧
        ((((decide ((((List.length r6.2.1) : Nat) : Int) = (0 : Int))) = true) →
          (R r)) ∧
        (((decide ((((List.length r6.2.1) : Nat) : Int) = (0 : Int))) = false) →
          ∃ I : ((Int × Unit) → Prop),
          ∃ μ : ((Int × Unit) → Nat),
          ((I ((0 : Int), ())) ∧
          ∀ x : (Int × Unit),
          ((WF (Ty.int Go.IntKind.i64) x.1 ∧
            True) →
            ((I x) →
              ((((decide (x.1 < (200 : Int))) = true) →
                ∃ r7 : Int,
                (CallP Try.prog tT (14 : Nat) [(AV.c (Cap.d (Ty.st (Ty.pair (Ty.sl (Ty.int Go.IntKind.i64)) (Ty.pair (Ty.sl (Ty.int Go.IntKind.i64)) Ty.unit))) a)), (AV.c (Cap.d (Ty.int Go.IntKind.i64) x.1))] (Ty.int Go.IntKind.i64) r7 ∧
                ∃ r8 : Int,
                (CallP Try.prog tT (14 : Nat) [(AV.c (Cap.d (Ty.st (Ty.pair (Ty.sl (Ty.int Go.IntKind.i64)) (Ty.pair (Ty.sl (Ty.int Go.IntKind.i64)) Ty.unit))) b)), (AV.c (Cap.d (Ty.int Go.IntKind.i64) x.1))] (Ty.int Go.IntKind.i64) r8 ∧
                ((((!(decide (r7 < (0 : Int)))) = true) →
                  ((!(decide (r7 < (0 : Int)))) = true)) ∧
                ((((!(decide (r7 < (0 : Int)))) = true) →
                  (((!(decide (r7 < (0 : Int)))) = true) ∧
                  ((!(decide (r7 < (0 : Int)))) = true))) ∧
                ((((decide (r7 < (0 : Int))) = false) →
                  ((!(decide (r7 < (0 : Int)))) = true)) ∧
                ((((!(selB (decide (r7 < (0 : Int))) true (decide ((((List.length table) : Nat) : Int) ≤ r7)))) = true) →
                  ((!(selB (decide (r7 < (0 : Int))) true (decide ((((List.length table) : Nat) : Int) ≤ r7)))) = true)) ∧
                ((((selB (decide (r7 < (0 : Int))) true (decide ((((List.length table) : Nat) : Int) ≤ r7))) = false) →
                  ((!(selB (decide (r7 < (0 : Int))) true (decide ((((List.length table) : Nat) : Int) ≤ r7)))) = true)) ∧
                ((((!(selB (selB (decide (r7 < (0 : Int))) true (decide ((((List.length table) : Nat) : Int) ≤ r7))) true (decide (r8 < (0 : Int))))) = true) →
                  ((((!(selB (selB (decide (r7 < (0 : Int))) true (decide ((((List.length table) : Nat) : Int) ≤ r7))) true (decide (r8 < (0 : Int))))) = true) ∧
                  ((!(selB (selB (decide (r7 < (0 : Int))) true (decide ((((List.length table) : Nat) : Int) ≤ r7))) true (decide (r8 < (0 : Int))))) = true)) ∧
                  (((0 : Int) ≤ r7) ∧
                  (r7 < (((List.length table) : Nat) : Int))))) ∧
                ((((!(selB (selB (decide (r7 < (0 : Int))) true (decide ((((List.length table) : Nat) : Int) ≤ r7))) true (decide (r8 < (0 : Int))))) = true) →
                  ((!(selB (selB (decide (r7 < (0 : Int))) true (decide ((((List.length table) : Nat) : Int) ≤ r7))) true (decide (r8 < (0 : Int))))) = true)) ∧
                ((((!(selB (selB (decide (r7 < (0 : Int))) true (decide ((((List.length table) : Nat) : Int) ≤ r7))) true (decide (r8 < (0 : Int))))) = true) →
                  ((!(selB (selB (decide (r7 < (0 : Int))) true (decide ((((List.length table) : Nat) : Int) ≤ r7))) true (decide (r8 < (0 : Int))))) = true)) ∧
                ((((!(selB (selB (decide (r7 < (0 : Int))) true (decide ((((List.length table) : Nat) : Int) ≤ r7))) true (decide (r8 < (0 : Int))))) = true) →
                  (((!(selB (selB (decide (r7 < (0 : Int))) true (decide ((((List.length table) : Nat) : Int) ≤ r7))) true (decide (r8 < (0 : Int))))) = true) ∧
                  ((!(selB (selB (decide (r7 < (0 : Int))) true (decide ((((List.length table) : Nat) : Int) ≤ r7))) true (decide (r8 < (0 : Int))))) = true))) ∧
                ((((selB (selB (decide (r7 < (0 : Int))) true (decide ((((List.length table) : Nat) : Int) ≤ r7))) true (decide (r8 < (0 : Int)))) = false) →
                  ((!(selB (selB (decide (r7 < (0 : Int))) true (decide ((((List.length table) : Nat) : Int) ≤ r7))) true (decide (r8 < (0 : Int))))) = true)) ∧
                ∃ r9 : Int,
                ((((!(selB (selB (selB (decide (r7 < (0 : Int))) true (decide ((((List.length table) : Nat) : Int) ≤ r7))) true (decide (r8 < (0 : Int)))) true (decide ((((List.length (List.getD table (Int.toNat r7) ([] : List Int))) : Nat) : Int) ≤ r8)))) = true) →
                  ((((!(selB (selB (selB (decide (r7 < (0 : Int))) true (decide ((((List.length table) : Nat) : Int) ≤ r7))) true (decide (r8 < (0 : Int)))) true (decide ((((List.length (List.getD table (Int.toNat r7) ([] : List Int))) : Nat) : Int) ≤ r8)))) = true) ∧
                  ((!(selB (selB (selB (decide (r7 < (0 : Int))) true (decide ((((List.length table) : Nat) : Int) ≤ r7))) true (decide (r8 < (0 : Int)))) true (decide ((((List.length (List.getD table (Int.toNat r7) ([] : List Int))) : Nat) : Int) ≤ r8)))) = true)) ∧
                  CallP Try.prog tT (14 : Nat) [(AV.c (Cap.d (Ty.st (Ty.pair (Ty.sl (Ty.int Go.IntKind.i64)) (Ty.pair (Ty.sl (Ty.int Go.IntKind.i64)) Ty.unit))) (r6.1, (r6.2.1, ())))), (AV.c (Cap.d (Ty.int Go.IntKind.i64) x.1))] (Ty.int Go.IntKind.i64) r9)) ∧
                ((((!(selB (selB (selB (decide (r7 < (0 : Int))) true (decide ((((List.length table) : Nat) : Int) ≤ r7))) true (decide (r8 < (0 : Int)))) true (decide ((((List.length (List.getD table (Int.toNat r7) ([] : List Int))) : Nat) : Int) ≤ r8)))) = true) →
                  ((((!(selB (selB (selB (decide (r7 < (0 : Int))) true (decide ((((List.length table) : Nat) : Int) ≤ r7))) true (decide (r8 < (0 : Int)))) true (decide ((((List.length (List.getD table (Int.toNat r7) ([] : List Int))) : Nat) : Int) ≤ r8)))) = true) ∧
                  ((!(selB (selB (selB (decide (r7 < (0 : Int))) true (decide ((((List.length table) : Nat) : Int) ≤ r7))) true (decide (r8 < (0 : Int)))) true (decide ((((List.length (List.getD table (Int.toNat r7) ([] : List Int))) : Nat) : Int) ≤ r8)))) = true)) ∧
                  (((0 : Int) ≤ r7) ∧
                  (r7 < (((List.length table) : Nat) : Int))))) ∧
                ((((!(selB (selB (selB (decide (r7 < (0 : Int))) true (decide ((((List.length table) : Nat) : Int) ≤ r7))) true (decide (r8 < (0 : Int)))) true (decide ((((List.length (List.getD table (Int.toNat r7) ([] : List Int))) : Nat) : Int) ≤ r8)))) = true) →
                  ((!(selB (selB (selB (decide (r7 < (0 : Int))) true (decide ((((List.length table) : Nat) : Int) ≤ r7))) true (decide (r8 < (0 : Int)))) true (decide ((((List.length (List.getD table (Int.toNat r7) ([] : List Int))) : Nat) : Int) ≤ r8)))) = true)) ∧
                ((((!(selB (selB (selB (decide (r7 < (0 : Int))) true (decide ((((List.length table) : Nat) : Int) ≤ r7))) true (decide (r8 < (0 : Int)))) true (decide ((((List.length (List.getD table (Int.toNat r7) ([] : List Int))) : Nat) : Int) ≤ r8)))) = true) →
                  ((((!(selB (selB (selB (decide (r7 < (0 : Int))) true (decide ((((List.length table) : Nat) : Int) ≤ r7))) true (decide (r8 < (0 : Int)))) true (decide ((((List.length (List.getD table (Int.toNat r7) ([] : List Int))) : Nat) : Int) ≤ r8)))) = true) ∧
                  ((!(selB (selB (selB (decide (r7 < (0 : Int))) true (decide ((((List.length table) : Nat) : Int) ≤ r7))) true (decide (r8 < (0 : Int)))) true (decide ((((List.length (List.getD table (Int.toNat r7) ([] : List Int))) : Nat) : Int) ≤ r8)))) = true)) ∧
                  (((0 : Int) ≤ r8) ∧
                  (r8 < (((List.length (List.getD table (Int.toNat r7) ([] : List Int))) : Nat) : Int))))) ∧
                ((((!(selB (selB (selB (decide (r7 < (0 : Int))) true (decide ((((List.length table) : Nat) : Int) ≤ r7))) true (decide (r8 < (0 : Int)))) true (decide ((((List.length (List.getD table (Int.toNat r7) ([] : List Int))) : Nat) : Int) ≤ r8)))) = true) →
                  ((!(selB (selB (selB (decide (r7 < (0 : Int))) true (decide ((((List.length table) : Nat) : Int) ≤ r7))) true (decide (r8 < (0 : Int)))) true (decide ((((List.length (List.getD table (Int.toNat r7) ([] : List Int))) : Nat) : Int) ≤ r8)))) = true)) ∧
                ((((!(selB (selB (selB (decide (r7 < (0 : Int))) true (decide ((((List.length table) : Nat) : Int) ≤ r7))) true (decide (r8 < (0 : Int)))) true (decide ((((List.length (List.getD table (Int.toNat r7) ([] : List Int))) : Nat) : Int) ≤ r8)))) = true) →
                  (((!(selB (selB (selB (decide (r7 < (0 : Int))) true (decide ((((List.length table) : Nat) : Int) ≤ r7))) true (decide (r8 < (0 : Int)))) true (decide ((((List.length (List.getD table (Int.toNat r7) ([] : List Int))) : Nat) : Int) ≤ r8)))) = true) ∧
                  ((!(selB (selB (selB (decide (r7 < (0 : Int))) true (decide ((((List.length table) : Nat) : Int) ≤ r7))) true (decide (r8 < (0 : Int)))) true (decide ((((List.length (List.getD table (Int.toNat r7) ([] : List Int))) : Nat) : Int) ≤ r8)))) = true))) ∧
                ((((selB (selB (selB (decide (r7 < (0 : Int))) true (decide ((((List.length table) : Nat) : Int) ≤ r7))) true (decide (r8 < (0 : Int)))) true (decide ((((List.length (List.getD table (Int.toNat r7) ([] : List Int))) : Nat) : Int) ≤ r8))) = false) →
                  ((!(selB (selB (selB (decide (r7 < (0 : Int))) true (decide ((((List.length table) : Nat) : Int) ≤ r7))) true (decide (r8 < (0 : Int)))) true (decide ((((List.length (List.getD table (Int.toNat r7) ([] : List Int))) : Nat) : Int) ≤ r8)))) = true)) ∧
                ((((selB (selB (selB (selB (decide (r7 < (0 : Int))) true (decide ((((List.length table) : Nat) : Int) ≤ r7))) true (decide (r8 < (0 : Int)))) true (decide ((((List.length (List.getD table (Int.toNat r7) ([] : List Int))) : Nat) : Int) ≤ r8))) true (!(decide (r9 = (List.getD (List.getD table (Int.toNat r7) ([] : List Int)) (Int.toNat r8) (0 : Int)))))) = true) →
                  (R false)) ∧
                (((selB (selB (selB (selB (decide (r7 < (0 : Int))) true (decide ((((List.length table) : Nat) : Int) ≤ r7))) true (decide (r8 < (0 : Int)))) true (decide ((((List.length (List.getD table (Int.toNat r7) ([] : List Int))) : Nat) : Int) ≤ r8))) true (!(decide (r9 = (List.getD (List.getD table (Int.toNat r7) ([] : List Int)) (Int.toNat r8) (0 : Int)))))) = false) →
                  (inK Go.IntKind.i64 (x.1 + (1 : Int)) ∧
                  ((I ((x.1 + (1 : Int)), ())) ∧
                  ((μ ((x.1 + (1 : Int)), ())) < (μ x)))))))))))))))))))))))))) ∧
              (((decide (x.1 < (200 : Int))) = false) →
                (inK Go.IntKind.i64 n ∧
                ((((0 : Int) ≤ n) ∧
                ((0 : Int) < (200 : Int))) ∧
                ∃ r7 : ((List Int) × ((List Int) × Unit)),
                (((r = true) →
                  (((r = true) ∧
                  (r = true)) ∧
                  CallP Try.prog tT (24 : Nat) [(AV.c (Cap.d (Ty.st (Ty.pair (Ty.sl (Ty.int Go.IntKind.i64)) (Ty.pair (Ty.sl (Ty.int Go.IntKind.i64)) Ty.unit))) (r6.1, (r6.2.1, ())))), (AV.c (Cap.d (Ty.int Go.IntKind.i64) (n % (200 : Int))))] (Ty.st (Ty.pair (Ty.sl (Ty.int Go.IntKind.i64)) (Ty.pair (Ty.sl (Ty.int Go.IntKind.i64)) Ty.unit))) r7)) ∧
                ∃ r8 : ((List Int) × ((List Int) × Unit)),
                (((r = true) →
                  (((r = true) ∧
                  (r = true)) ∧
                  CallP Try.prog tT (24 : Nat) [(AV.c (Cap.d (Ty.st (Ty.pair (Ty.sl (Ty.int Go.IntKind.i64)) (Ty.pair (Ty.sl (Ty.int Go.IntKind.i64)) Ty.unit))) a)), (AV.c (Cap.d (Ty.int Go.IntKind.i64) (n % (200 : Int))))] (Ty.st (Ty.pair (Ty.sl (Ty.int Go.IntKind.i64)) (Ty.pair (Ty.sl (Ty.int Go.IntKind.i64)) Ty.unit))) r8)) ∧
                ∃ r9 : ((List Int) × ((List Int) × Unit)),
                (((r = true) →
                  (((r = true) ∧
                  (r = true)) ∧
                  CallP Try.prog tT (24 : Nat) [(AV.c (Cap.d (Ty.st (Ty.pair (Ty.sl (Ty.int Go.IntKind.i64)) (Ty.pair (Ty.sl (Ty.int Go.IntKind.i64)) Ty.unit))) b)), (AV.c (Cap.d (Ty.int Go.IntKind.i64) (n % (200 : Int))))] (Ty.st (Ty.pair (Ty.sl (Ty.int Go.IntKind.i64)) (Ty.pair (Ty.sl (Ty.int Go.IntKind.i64)) Ty.unit))) r9)) ∧
                ∃ r10 : ((List Int) × ((List Int) × Unit)),
                (((r = true) →
                  (((r = true) ∧
                  ((r = true) ∧
                  (r = true))) ∧
                  CallP Try.prog tT (28 : Nat) [(AV.c (Cap.d (Ty.st (Ty.pair (Ty.sl (Ty.int Go.IntKind.i64)) (Ty.pair (Ty.sl (Ty.int Go.IntKind.i64)) Ty.unit))) r8)), (AV.c (Cap.d (Ty.st (Ty.pair (Ty.sl (Ty.int Go.IntKind.i64)) (Ty.pair (Ty.sl (Ty.int Go.IntKind.i64)) Ty.unit))) r9)), (AV.c (Cap.d (Ty.sl (Ty.sl (Ty.int Go.IntKind.i64))) table))] (Ty.st (Ty.pair (Ty.sl (Ty.int Go.IntKind.i64)) (Ty.pair (Ty.sl (Ty.int Go.IntKind.i64)) Ty.unit))) r10)) ∧
                ∃ r11 : Bool,
                (((r = true) →
                  (((r = true) ∧
                  (r = true)) ∧
                  CallP Try.prog tT (19 : Nat) [(AV.c (Cap.d (Ty.st (Ty.pair (Ty.sl (Ty.int Go.IntKind.i64)) (Ty.pair (Ty.sl (Ty.int Go.IntKind.i64)) Ty.unit))) r7)), (AV.c (Cap.d (Ty.st (Ty.pair (Ty.sl (Ty.int Go.IntKind.i64)) (Ty.pair (Ty.sl (Ty.int Go.IntKind.i64)) Ty.unit))) r10))] Ty.bool r11)) ∧
                (((r = true) →
                  (r = true)) ∧
                (R (selB r r11 false)))))))))))))))))))))))))))))))))) : CallP Try.prog tT 9 [.d (.st (.pair (.sl (.int .i64)) (.pair (.sl (.int .i64)) .unit))) a, .d (.st (.pair (.sl (.int .i64)) (.pair (.sl (.int .i64)) .unit))) b, .d (.sl (.sl (.int .i64))) table, .d (.int .u8) n] .bool r :=
  callP_of (cx := cx9) (d := 6) mixed tab_ok inl_ok Try.func9 ⟨fun _ _ => by kernel_rfl⟩ rfl rfl fun wf => Eq.mpr (by kernel_rfl) (h (fun x => x = r) (fun _ => Iff.rfl) (wf.1 rfl) (wf.2.1 rfl) (wf.2.2.1 rfl) (wf.2.2.2.1 rfl))
set_option maxRecDepth 1000000 in
theorem sf9 (a : (Ty.T (.st (.pair (.sl (.int .i64)) (.pair (.sl (.int .i64)) .unit))))) (b : (Ty.T (.st (.pair (.sl (.int .i64)) (.pair (.sl (.int .i64)) .unit))))) (table : (Ty.T (.sl (.sl (.int .i64))))) (n : (Ty.T (.int .u8))) (r : Ty.T .bool) (h : ∀ R : Ty.T .bool → Prop, (∀ x, R x ↔ x = r) → WF (.st (.pair (.sl (.int .i64)) (.pair (.sl (.int .i64)) .unit))) a → WF (.st (.pair (.sl (.int .i64)) (.pair (.sl (.int .i64)) .unit))) b → WF (.sl (.sl (.int .i64))) table → WF (.int .u8) n → 
    (∃ r : Bool,
    (CallP Try.prog tT (10 : Nat) [] Ty.bool r ∧
    (∃ r1 : Bool,
    (CallP Try.prog tT (30 : Nat) [(AV.c (Cap.d (Ty.st (Ty.pair (Ty.sl (Ty.int Go.IntKind.i64)) (Ty.pair (Ty.sl (Ty.int Go.IntKind.i64)) Ty.unit))) a))] Ty.bool r1 ∧
    (∃ r2 : Bool,
    (((r1 = true) →
      CallP Try.prog tT (30 : Nat) [(AV.c (Cap.d (Ty.st (Ty.pair (Ty.sl (Ty.int Go.IntKind.i64)) (Ty.pair (Ty.sl (Ty.int Go.IntKind.i64)) Ty.unit))) b))] Ty.bool r2) ∧
    (((((r1 = false) ∨ (r2 = false)) ∨ ((64 : Int) < (((List.length table) : Nat) : Int))) →
      (R r)) ∧
    ((r1 = true) → (r2 = true) → ((((List.length table) : Nat) : Int) ≤ (64 : Int)) →
      (∃ r3 : (List (List Int)),
      (CallP Try.prog tT (32 : Nat) [] (Ty.sl (Ty.sl (Ty.int Go.IntKind.i64))) r3 ∧
      (∃ r4 : ((List Int) × ((List Int) × Unit)),
      (CallP Try.prog tT (28 : Nat) [(AV.c (Cap.d (Ty.st (Ty.pair (Ty.sl (Ty.int Go.IntKind.i64)) (Ty.pair (Ty.sl (Ty.int Go.IntKind.i64)) Ty.unit))) a)), (AV.c (Cap.d (Ty.st (Ty.pair (Ty.sl (Ty.int Go.IntKind.i64)) (Ty.pair (Ty.sl (Ty.int Go.IntKind.i64)) Ty.unit))) b)), (AV.c (Cap.d (Ty.sl (Ty.sl (Ty.int Go.IntKind.i64))) r3))] (Ty.st (Ty.pair (Ty.sl (Ty.int Go.IntKind.i64)) (Ty.pair (Ty.sl (Ty.int Go.IntKind.i64)) Ty.unit))) r4 ∧
      (∃ r5 : Bool,
      (CallP Try.prog tT (22 : Nat) [(AV.c (Cap.d (Ty.st (Ty.pair (Ty.sl (Ty.int Go.IntKind.i64)) (Ty.pair (Ty.sl (Ty.int Go.IntKind.i64)) Ty.unit))) r4)), (AV.c (Cap.d (Ty.st (Ty.pair (Ty.sl (Ty.int Go.IntKind.i64)) (Ty.pair (Ty.sl (Ty.int Go.IntKind.i64)) Ty.unit))) a))] Ty.bool r5 ∧
      (((r5 = false) →
        (R false)) ∧
      ((r5 = true) →
        (∃ r6 : ((List Int) × ((List Int) × Unit)),
        (CallP Try.prog tT (28 : Nat) [(AV.c (Cap.d (Ty.st (Ty.pair (Ty.sl (Ty.int Go.IntKind.i64)) (Ty.pair (Ty.sl (Ty.int Go.IntKind.i64)) Ty.unit))) a)), (AV.c (Cap.d (Ty.st (Ty.pair (Ty.sl (Ty.int Go.IntKind.i64)) (Ty.pair (Ty.sl (Ty.int Go.IntKind.i64)) Ty.unit))) b)), (AV.c (Cap.d (Ty.sl (Ty.sl (Ty.int Go.IntKind.i64))) table))] (Ty.st (Ty.pair (Ty.sl (Ty.int Go.IntKind.i64)) (Ty.pair (Ty.sl (Ty.int Go.IntKind.i64)) Ty.unit))) r6 ∧
        ((((((List.length r6.2.1) : Nat) : Int) = (0 : Int)) →
          (R r)) ∧
        ((¬ ((((List.length r6.2.1) : Nat) : Int) = (0 : Int))) →
          (∃ I : ((Int × Unit) → Prop),
          (∃ μ : ((Int × Unit) → Nat),
          ((I ((0 : Int), ())) ∧
          (∀ x : (Int × Unit),
          ((WF (Ty.int Go.IntKind.i64) x.1 ∧
            True) →
            ((I x) →
              (((x.1 < (200 : Int)) →
                (∃ r7 : Int,
                (CallP Try.prog tT (14 : Nat) [(AV.c (Cap.d (Ty.st (Ty.pair (Ty.sl (Ty.int Go.IntKind.i64)) (Ty.pair (Ty.sl (Ty.int Go.IntKind.i64)) Ty.unit))) a)), (AV.c (Cap.d (Ty.int Go.IntKind.i64) x.1))] (Ty.int Go.IntKind.i64) r7 ∧
                (∃ r8 : Int,
                (CallP Try.prog tT (14 : Nat) [(AV.c (Cap.d (Ty.st (Ty.pair (Ty.sl (Ty.int Go.IntKind.i64)) (Ty.pair (Ty.sl (Ty.int Go.IntKind.i64)) Ty.unit))) b)), (AV.c (Cap.d (Ty.int Go.IntKind.i64) x.1))] (Ty.int Go.IntKind.i64) r8 ∧
                (∃ r9 : Int,
                ((((0 : Int) ≤ r7) → (r7 < (((List.length table) : Nat) : Int)) → ((0 : Int) ≤ r8) → (r8 < (((List.length (List.getD table (Int.toNat r7) ([] : List Int))) : Nat) : Int)) →
                  CallP Try.prog tT (14 : Nat) [(AV.c (Cap.d (Ty.st (Ty.pair (Ty.sl (Ty.int Go.IntKind.i64)) (Ty.pair (Ty.sl (Ty.int Go.IntKind.i64)) Ty.unit))) (r6.1, (r6.2.1, ())))), (AV.c (Cap.d (Ty.int Go.IntKind.i64) x.1))] (Ty.int Go.IntKind.i64) r9) ∧
                (((((((r7 < (0 : Int)) ∨ ((((List.length table) : Nat) : Int) ≤ r7)) ∨ (r8 < (0 : Int))) ∨ ((((List.length (List.getD table (Int.toNat r7) ([] : List Int))) : Nat) : Int) ≤ r8)) ∨ (¬ (r9 = (List.getD (List.getD table (Int.toNat r7) ([] : List Int)) (Int.toNat r8) (0 : Int))))) →
                  (R false)) ∧
                (((0 : Int) ≤ r7) → (r7 < (((List.length table) : Nat) : Int)) → ((0 : Int) ≤ r8) → (r8 < (((List.length (List.getD table (Int.toNat r7) ([] : List Int))) : Nat) : Int)) → (r9 = (List.getD (List.getD table (Int.toNat r7) ([] : List Int)) (Int.toNat r8) (0 : Int))) →
                  (inK Go.IntKind.i64 (x.1 + (1 : Int)) ∧
                  ((I ((x.1 + (1 : Int)), ())) ∧
                  ((μ ((x.1 + (1 : Int)), ())) < (μ x))))))))))))) ∧
              (((200 : Int) ≤ x.1) →
                (inK Go.IntKind.i64 n ∧
                ((((0 : Int) ≤ n) ∧
                ((0 : Int) < (200 : Int))) ∧
                (∃ r7 : ((List Int) × ((List Int) × Unit)),
                (((r = true) →
                  CallP Try.prog tT (24 : Nat) [(AV.c (Cap.d (Ty.st (Ty.pair (Ty.sl (Ty.int Go.IntKind.i64)) (Ty.pair (Ty.sl (Ty.int Go.IntKind.i64)) Ty.unit))) (r6.1, (r6.2.1, ())))), (AV.c (Cap.d (Ty.int Go.IntKind.i64) (n % (200 : Int))))] (Ty.st (Ty.pair (Ty.sl (Ty.int Go.IntKind.i64)) (Ty.pair (Ty.sl (Ty.int Go.IntKind.i64)) Ty.unit))) r7) ∧
                (∃ r8 : ((List Int) × ((List Int) × Unit)),
                (((r = true) →
                  CallP Try.prog tT (24 : Nat) [(AV.c (Cap.d (Ty.st (Ty.pair (Ty.sl (Ty.int Go.IntKind.i64)) (Ty.pair (Ty.sl (Ty.int Go.IntKind.i64)) Ty.unit))) a)), (AV.c (Cap.d (Ty.int Go.IntKind.i64) (n % (200 : Int))))] (Ty.st (Ty.pair (Ty.sl (Ty.int Go.IntKind.i64)) (Ty.pair (Ty.sl (Ty.int Go.IntKind.i64)) Ty.unit))) r8) ∧
                (∃ r9 : ((List Int) × ((List Int) × Unit)),
                (((r = true) →
                  CallP Try.prog tT (24 : Nat) [(AV.c (Cap.d (Ty.st (Ty.pair (Ty.sl (Ty.int Go.IntKind.i64)) (Ty.pair (Ty.sl (Ty.int Go.IntKind.i64)) Ty.unit))) b)), (AV.c (Cap.d (Ty.int Go.IntKind.i64) (n % (200 : Int))))] (Ty.st (Ty.pair (Ty.sl (Ty.int Go.IntKind.i64)) (Ty.pair (Ty.sl (Ty.int Go.IntKind.i64)) Ty.unit))) r9) ∧
                (∃ r10 : ((List Int) × ((List Int) × Unit)),
                (((r = true) →
                  CallP Try.prog tT (28 : Nat) [(AV.c (Cap.d (Ty.st (Ty.pair (Ty.sl (Ty.int Go.IntKind.i64)) (Ty.pair (Ty.sl (Ty.int Go.IntKind.i64)) Ty.unit))) r8)), (AV.c (Cap.d (Ty.st (Ty.pair (Ty.sl (Ty.int Go.IntKind.i64)) (Ty.pair (Ty.sl (Ty.int Go.IntKind.i64)) Ty.unit))) r9)), (AV.c (Cap.d (Ty.sl (Ty.sl (Ty.int Go.IntKind.i64))) table))] (Ty.st (Ty.pair (Ty.sl (Ty.int Go.IntKind.i64)) (Ty.pair (Ty.sl (Ty.int Go.IntKind.i64)) Ty.unit))) r10) ∧
                (∃ r11 : Bool,
                (((r = true) →
                  CallP Try.prog tT (19 : Nat) [(AV.c (Cap.d (Ty.st (Ty.pair (Ty.sl (Ty.int Go.IntKind.i64)) (Ty.pair (Ty.sl (Ty.int Go.IntKind.i64)) Ty.unit))) r7)), (AV.c (Cap.d (Ty.st (Ty.pair (Ty.sl (Ty.int Go.IntKind.i64)) (Ty.pair (Ty.sl (Ty.int Go.IntKind.i64)) Ty.unit))) r10))] Ty.bool r11) ∧
                (R (selB r r11 false))))))))))))))))))))))))))))))))))))))))))) : CallP Try.prog tT 9 [.d (.st (.pair (.sl (.int .i64)) (.pair (.sl (.int .i64)) .unit))) a, .d (.st (.pair (.sl (.int .i64)) (.pair (.sl (.int .i64)) .unit))) b, .d (.sl (.sl (.int .i64))) table, .d (.int .u8) n] .bool r :=
  of9 a b table n r fun R hR w0_ w1_ w2_ w3_ => have p := h R hR w0_ w1_ w2_ w3_
    (Exists.elim p fun r q1 => Exists.intro r ⟨q1.1, (Exists.elim q1.2 fun r1 q2 => Exists.intro r1 ⟨q2.1, (Exists.elim q2.2 fun r2 q3 => Exists.intro r2 ⟨(fun h9 => ⟨h9, (q3.1 (bnot_f (bnot_t h9)))⟩), ⟨(fun h16 => h16), ⟨(fun h22 => (bnot_t2 h22)), ⟨(fun h27 => h27), ⟨(fun h31 => h31), ⟨(fun h34 => (bnot_t2 h34)), ⟨(fun h40 => (q3.2.1 (Or.imp (fun h => (Or.imp (fun h => (bnot_t h)) (fun h => (bnot_t h)) (selB_ot h))) (fun h => (of_decide_eq_true h)) (selB_ot h40)))), (fun h42 => (Exists.elim (q3.2.2 (bnot_f (selB_of (selB_of h42).1).1) (bnot_f (selB_of (selB_of h42).1).2) (Int.not_lt.1 (of_decide_eq_false (selB_of h42).2))) fun r3 q43 => Exists.intro r3 ⟨q43.1, (Exists.elim q43.2 fun r4 q44 => Exists.intro r4 ⟨q44.1, (Exists.elim q44.2 fun r5 q45 => Exists.intro r5 ⟨q45.1, ⟨(fun h51 => (q45.2.1 (bnot_t h51))), (fun h53 => (Exists.elim (q45.2.2 (bnot_f h53)) fun r6 q54 => Exists.intro r6 ⟨q54.1, ⟨(fun h60 => (q54.2.1 (of_decide_eq_true h60))), (fun h62 => (Exists.elim (q54.2.2 (of_decide_eq_false h62)) fun I q63 => Exists.intro I (Exists.elim q63 fun μ q64 => Exists.intro μ ⟨q64.1, (fun x => (fun h65 => (fun h66 => ⟨(fun h187 => (Exists.elim ((((q64.2 x) h65) h66).1 (of_decide_eq_true h187)) fun r7 q188 => Exists.intro r7 ⟨q188.1, (Exists.elim q188.2 fun r8 q189 => Exists.intro r8 ⟨q189.1, ⟨(fun h200 => h200), ⟨(fun h210 => ⟨h210, h210⟩), ⟨(fun h219 => (bnot_t2 h219)), ⟨(fun h227 => h227), ⟨(fun h234 => (bnot_t2 h234)), ⟨(fun h240 => ⟨⟨h240, h240⟩, ⟨(Int.not_lt.1 (of_decide_eq_false (selB_of (selB_of (bnot_t h240)).1).1)), (Int.not_le.1 (of_decide_eq_false (selB_of (selB_of (bnot_t h240)).1).2))⟩⟩), ⟨(fun h245 => h245), ⟨(fun h249 => h249), ⟨(fun h252 => ⟨h252, h252⟩), ⟨(fun h254 => (bnot_t2 h254)), (Exists.elim q189.2 fun r9 q255 => Exists.intro r9 ⟨(fun h261 => ⟨⟨h261, h261⟩, (q255.1 (Int.not_lt.1 (of_decide_eq_false (selB_of (selB_of (selB_of (bnot_t h261)).1).1).1)) (Int.not_le.1 (of_decide_eq_false (selB_of (selB_of (selB_of (bnot_t h261)).1).1).2)) (Int.not_lt.1 (of_decide_eq_false (selB_of (selB_of (bnot_t h261)).1).2)) (Int.not_le.1 (of_decide_eq_false (selB_of (bnot_t h261)).2)))⟩), ⟨(fun h269 => ⟨⟨h269, h269⟩, ⟨(Int.not_lt.1 (of_decide_eq_false (selB_of (selB_of (selB_of (bnot_t h269)).1).1).1)), (Int.not_le.1 (of_decide_eq_false (selB_of (selB_of (selB_of (bnot_t h269)).1).1).2))⟩⟩), ⟨(fun h276 => h276), ⟨(fun h282 => ⟨⟨h282, h282⟩, ⟨(Int.not_lt.1 (of_decide_eq_false (selB_of (selB_of (bnot_t h282)).1).2)), (Int.not_le.1 (of_decide_eq_false (selB_of (bnot_t h282)).2))⟩⟩), ⟨(fun h287 => h287), ⟨(fun h291 => ⟨h291, h291⟩), ⟨(fun h294 => (bnot_t2 h294)), ⟨(fun h300 => (q255.2.1 (Or.imp (fun h => (Or.imp (fun h => (Or.imp (fun h => (Or.imp (fun h => (of_decide_eq_true h)) (fun h => (of_decide_eq_true h)) (selB_ot h))) (fun h => (of_decide_eq_true h)) (selB_ot h))) (fun h => (of_decide_eq_true h)) (selB_ot h))) (fun h => (of_decide_eq_false (bnot_t h))) (selB_ot h300)))), (fun h302 => ⟨(q255.2.2 (Int.not_lt.1 (of_decide_eq_false (selB_of (selB_of (selB_of (selB_of h302).1).1).1).1)) (Int.not_le.1 (of_decide_eq_false (selB_of (selB_of (selB_of (selB_of h302).1).1).1).2)) (Int.not_lt.1 (of_decide_eq_false (selB_of (selB_of (selB_of h302).1).1).2)) (Int.not_le.1 (of_decide_eq_false (selB_of (selB_of h302).1).2)) (of_decide_eq_true (bnot_f (selB_of h302).2))).1, ⟨(q255.2.2 (Int.not_lt.1 (of_decide_eq_false (selB_of (selB_of (selB_of (selB_of h302).1).1).1).1)) (Int.not_le.1 (of_decide_eq_false (selB_of (selB_of (selB_of (selB_of h302).1).1).1).2)) (Int.not_lt.1 (of_decide_eq_false (selB_of (selB_of (selB_of h302).1).1).2)) (Int.not_le.1 (of_decide_eq_false (selB_of (selB_of h302).1).2)) (of_decide_eq_true (bnot_f (selB_of h302).2))).2.1, (q255.2.2 (Int.not_lt.1 (of_decide_eq_false (selB_of (selB_of (selB_of (selB_of h302).1).1).1).1)) (Int.not_le.1 (of_decide_eq_false (selB_of (selB_of (selB_of (selB_of h302).1).1).1).2)) (Int.not_lt.1 (of_decide_eq_false (selB_of (selB_of (selB_of h302).1).1).2)) (Int.not_le.1 (of_decide_eq_false (selB_of (selB_of h302).1).2)) (of_decide_eq_true (bnot_f (selB_of h302).2))).2.2⟩⟩)⟩⟩⟩⟩⟩⟩⟩⟩)⟩⟩⟩⟩⟩⟩⟩⟩⟩⟩⟩)⟩)), (fun h304 => ⟨((((q64.2 x) h65) h66).2 (Int.not_lt.1 (of_decide_eq_false h304))).1, ⟨⟨((((q64.2 x) h65) h66).2 (Int.not_lt.1 (of_decide_eq_false h304))).2.1.1, ((((q64.2 x) h65) h66).2 (Int.not_lt.1 (of_decide_eq_false h304))).2.1.2⟩, (Exists.elim ((((q64.2 x) h65) h66).2 (Int.not_lt.1 (of_decide_eq_false h304))).2.2 fun r7 q305 => Exists.intro r7 ⟨(fun h311 => ⟨⟨h311, h311⟩, (q305.1 h311)⟩), (Exists.elim q305.2 fun r8 q312 => Exists.intro r8 ⟨(fun h318 => ⟨⟨h318, h318⟩, (q312.1 h318)⟩), (Exists.elim q312.2 fun r9 q319 => Exists.intro r9 ⟨(fun h325 => ⟨⟨h325, h325⟩, (q319.1 h325)⟩), (Exists.elim q319.2 fun r10 q326 => Exists.intro r10 ⟨(fun h332 => ⟨⟨h332, ⟨h332, h332⟩⟩, (q326.1 h332)⟩), (Exists.elim q326.2 fun r11 q333 => Exists.intro r11 ⟨(fun h339 => ⟨⟨h339, h339⟩, (q333.1 h339)⟩), ⟨(fun h341 => h341), q333.2⟩⟩)⟩)⟩)⟩)⟩)⟩⟩)⟩)))⟩)))⟩⟩))⟩⟩)⟩)⟩))⟩⟩⟩⟩⟩⟩⟩)⟩)⟩)
/- foresight/foresightlaw02.head -/
def cx10 : Cx := { T := tT, own := ownT, frz := [], loops := [], cuts := [], inl := inlT }
set_option maxRecDepth 1000000 in
theorem of10  (r : Ty.T .bool) (h : ∀ R : Ty.T .bool → Prop, (∀ x, R x ↔ x = r) → 
    ∃ r : ((List Int) × ((List Int) × Unit)),
    (CallP Try.prog tT (33 : Nat) [(AV.c (Cap.d (Ty.sl (Ty.int Go.IntKind.i64)) [(1 : Int)])), (AV.c (Cap.d (Ty.sl (Ty.int Go.IntKind.i64)) [(2 : Int), (3 : Int)]))] (Ty.st (Ty.pair (Ty.sl (Ty.int Go.IntKind.i64)) (Ty.pair (Ty.sl (Ty.int Go.IntKind.i64)) Ty.unit))) r ∧
    ∃ r1 : ((List Int) × ((List Int) × Unit)),
    (CallP Try.prog tT (33 : Nat) [(AV.c (Cap.d (Ty.sl (Ty.int Go.IntKind.i64)) [(1 : Int), (2 : Int)])), (AV.c (Cap.d (Ty.sl (Ty.int Go.IntKind.i64)) [(3 : Int), (2 : Int), (3 : Int), (2 : Int)]))] (Ty.st (Ty.pair (Ty.sl (Ty.int Go.IntKind.i64)) (Ty.pair (Ty.sl (Ty.int Go.IntKind.i64)) Ty.unit))) r1 ∧
    ∃ r2 : ((List Int) × ((List Int) × Unit)),
    (CallP Try.prog tT (20 : Nat) [(AV.c (Cap.d (Ty.st (Ty.pair (Ty.sl (Ty.int Go.IntKind.i64)) (Ty.pair (Ty.sl (Ty.int Go.IntKind.i64)) Ty.unit))) r1))] (Ty.st (Ty.pair (Ty.sl (Ty.int Go.IntKind.i64)) (Ty.pair (Ty.sl (Ty.int Go.IntKind.i64)) Ty.unit))) r2 ∧
    ∃ r3 : Bool,
    (CallP Try.prog tT (19 : Nat) [(AV.c (Cap.d (Ty.st (Ty.pair (Ty.sl (Ty.int Go.IntKind.i64)) (Ty.pair (Ty.sl (Ty.int Go.IntKind.i64)) Ty.unit))) r2)), (AV.c (Cap.d (Ty.st (Ty.pair (Ty.sl (Ty.int Go.IntKind.i64)) (Ty.pair (Ty.sl (Ty.int Go.IntKind.i64)) Ty.unit))) (r.1, (r.2.1, ()))))] Ty.bool r3 ∧
    ∃ r4 : ((List Int) × ((List Int) × Unit)),
    (((r3 = true) →
      ((r3 = true) ∧
      CallP Try.prog tT (24 : Nat) [(AV.c (Cap.d (Ty.st (Ty.pair (Ty.sl (Ty.int Go.IntKind.i64)) (Ty.pair (Ty.sl (Ty.int Go.IntKind.i64)) Ty.unit))) (r.1, (r.2.1, ())))), (AV.c (Cap.d (Ty.int Go.IntKind.i64) (2 : Int)))] (Ty.st (Ty.pair (Ty.sl (Ty.int Go.IntKind.i64)) (Ty.pair (Ty.sl (Ty.int Go.IntKind.i64)) Ty.unit))) r4)) ∧
    ∃ r5 : ((List Int) × ((List Int) × Unit)),
    (((r3 = true) →
      ((r3 = true) ∧
      CallP Try.prog tT (33 : Nat) [(AV.c (Cap.d (Ty.sl (Ty.int Go.IntKind.i64)) ([] : List Int))), (AV.c (Cap.d (Ty.sl (Ty.int Go.IntKind.i64)) [(3 : Int), (2 : Int)]))] (Ty.st (Ty.pair (Ty.sl (Ty.int Go.IntKind.i64)) (Ty.pair (Ty.sl (Ty.int Go.IntKind.i64)) Ty.unit))) r5)) ∧
    ∃ r6 : Bool,
    (((r3 = true) →
      (((r3 = true) ∧
      (r3 = true)) ∧
      CallP Try.prog tT (19 : Nat) [(AV.c (Cap.d (Ty.st (Ty.pair (Ty.sl (Ty.int Go.IntKind.i64)) (Ty.pair (Ty.sl (Ty.int Go.IntKind.i64)) Ty.unit))) r4)), (AV.c (Cap.d (Ty.st (Ty.pair (Ty.sl (Ty.int Go.IntKind.i64)) (Ty.pair (Ty.sl (Ty.int Go.IntKind.i64)) Ty.unit))) r5))] Ty.bool r6)) ∧
    (((r3 = true) →
      (r3 = true)) ∧
    ∃ r7 : ((List Int) × ((List Int) × Unit)),
    ((((selB r3 r6 false) = true) →
      (((selB r3 r6 false) = true) ∧
      CallP Try.prog tT (33 : Nat) [(AV.c (Cap.d (Ty.sl (Ty.int Go.IntKind.i64)) ([] : List Int))), (AV.c (Cap.d (Ty.sl (Ty.int Go.IntKind.i64)) [(2 : Int), (3 : Int)]))] (Ty.st (Ty.pair (Ty.sl (Ty.int Go.IntKind.i64)) (Ty.pair (Ty.sl (Ty.int Go.IntKind.i64)) Ty.unit))) r7)) ∧
    ∃ r8 : ((List Int) × ((List Int) × Unit)),
    ((((selB r3 r6 false) = true) →
      ((((selB r3 r6 false) = true) ∧
      ((selB r3 r6 false) = true)) ∧
      CallP Try.prog tT (26 : Nat) [(AV.c (Cap.d (Ty.sl (Ty.int Go.IntKind.i64)) [(2 : Int), (3 : Int)])), (AV.c (Cap.d (Ty.st (Ty.pair (Ty.sl (Ty.int Go.IntKind.i64)) (Ty.pair (Ty.sl (Ty.int Go.IntKind.i64)) Ty.unit))) r7))] (Ty.st (Ty.pair (Ty.sl (Ty.int Go.IntKind.i64)) (Ty.pair (Ty.sl (Ty.int Go.IntKind.i64)) Ty.unit))) r8)) ∧
    ∃ r9 : ((List Int) × ((List Int) × Unit)),
    ((((selB r3 r6 false) = true) →
      (((selB r3 r6 false) = true) ∧
      CallP Try.prog tT (33 : Nat) [(AV.c (Cap.d (Ty.sl (Ty.int Go.IntKind.i64)) ([] : List Int))), (AV.c (Cap.d (Ty.sl (Ty.int Go.IntKind.i64)) [(2 : Int), (3 : Int)]))] (Ty.st (Ty.pair (Ty.sl (Ty.int Go.IntKind.i64)) (Ty.pair (Ty.sl (Ty.int Go.IntKind.i64)) Ty.unit))) r9)) ∧
    ∃ r10 : Bool,
    ((((selB r3 r6 false) = true) →
      ((((selB r3 r6 false) = true) ∧
      ((selB r3 r6 false) = true)) ∧
      CallP Try.prog tT (19 : Nat) [(AV.c (Cap.d (Ty.st (Ty.pair (Ty.sl (Ty.int Go.IntKind.i64)) (Ty.pair (Ty.sl (Ty.int Go.IntKind.i64)) Ty.unit))) r8)), (AV.c (Cap.d (Ty.st (Ty.pair (Ty.sl (Ty.int Go.IntKind.i64)) (Ty.pair (Ty.sl (Ty.int Go.IntKind.i64)) Ty.unit))) r9))] Ty.bool r10)) ∧
    ((((selB r3 r6 false) = true) →
      ((selB r3 r6 false) = true)) ∧
    ∃ r11 : Int,
    ((((selB (selB r3 r6 false) r10 false) = true) →
      (((selB (selB r3 r6 false) r10 false) = true) ∧
      CallP Try.prog tT (14 : Nat) [(AV.c (Cap.d (Ty.st (Ty.pair (Ty.sl (Ty.int Go.IntKind.i64)) (Ty.pair (Ty.sl (Ty.int Go.IntKind.i64)) Ty.unit))) (r.1, (r.2.1, ())))), (AV.c (Cap.d (Ty.int Go.IntKind.i64) (4 : Int)))] (Ty.int Go.IntKind.i64) r11)) ∧
    ((((selB (selB r3 r6 false) r10 false) = true) →
      ((selB (selB r3 r6 false) r10 false) = true)) ∧
    ((((selB (selB r3 r6 false) r10 false) = true) →
      ((selB (selB r3 r6 false) r10 false) = true)) ∧
    ∃ r12 : Int,
    ((((selB (selB (selB r3 r6 false) r10 false) (decide (r11 = (3 : Int))) false) = true) →
      (((selB (selB (selB r3 r6 false) r10 false) (decide (r11 = (3 : Int))) false) = true) ∧
      CallP Try.prog tT (14 : Nat) [(AV.c (Cap.d (Ty.st (Ty.pair (Ty.sl (Ty.int Go.IntKind.i64)) (Ty.pair (Ty.sl (Ty.int Go.IntKind.i64)) Ty.unit))) (r.1, (r.2.1, ())))), (AV.c (Cap.d (Ty.int Go.IntKind.i64) (-(1 : Int))))] (Ty.int Go.IntKind.i64) r12)) ∧
    ((((selB (selB (selB r3 r6 false) r10 false) (decide (r11 = (3 : Int))) false) = true) →
      ((selB (selB (selB r3 r6 false) r10 false) (decide (r11 = (3 : Int))) false) = true)) ∧
    ((((selB (selB (selB r3 r6 false) r10 false) (decide (r11 = (3 : Int))) false) = true) →
      ((selB (selB (selB r3 r6 false) r10 false) (decide (r11 = (3 : Int))) false) = true)) ∧
    ∃ r13 : ((List Int) × ((List Int) × Unit)),
    (CallP Try.prog tT (33 : Nat) [(AV.c (Cap.d (Ty.sl (Ty.int Go.IntKind.i64)) ([] : List Int))), (AV.c (Cap.d (Ty.sl (Ty.int Go.IntKind.i64)) [(0 : Int), (1 : Int)]))] (Ty.st (Ty.pair (Ty.sl (Ty.int Go.IntKind.i64)) (Ty.pair (Ty.sl (Ty.int Go.IntKind.i64)) Ty.unit))) r13 ∧
    ∃ r14 : ((List Int) × ((List Int) × Unit)),
    (CallP Try.prog tT (33 : Nat) [(AV.c (Cap.d (Ty.sl (Ty.int Go.IntKind.i64)) ([] : List Int))), (AV.c (Cap.d (Ty.sl (Ty.int Go.IntKind.i64)) [(0 : Int), (0 : Int), (1 : Int)]))] (Ty.st (Ty.pair (Ty.sl (Ty.int Go.IntKind.i64)) (Ty.pair (Ty.sl (Ty.int Go.IntKind.i64)) Ty.unit))) r14 ∧
    ∃ r15 : ((List Int) × ((List Int) × Unit)),
    (CallP Try.prog tT (28 : Nat) [(AV.c (Cap.d (Ty.st (Ty.pair (Ty.sl (Ty.int Go.IntKind.i64)) (Ty.pair (Ty.sl (Ty.int Go.IntKind.i64)) Ty.unit))) r13)), (AV.c (Cap.d (Ty.st (Ty.pair (Ty.sl (Ty.int Go.IntKind.i64)) (Ty.pair (Ty.sl (Ty.int Go.IntKind.i64)) Ty.unit))) r14)), (AV.c (Cap.d (Ty.sl (Ty.sl (Ty.int Go.IntKind.i64))) [[(0 : Int), (1 : Int)], [(1 : Int), (0 : Int)]]))] (Ty.st (Ty.pair (Ty.sl (Ty.int Go.IntKind.i64)) (Ty.pair (Ty.sl (Ty.int Go.IntKind.i64)) Ty.unit))) r15 ∧
    ∃ r16 : ((List Int) × ((List Int) × Unit)),
    (CallP Try.prog tT (33 : Nat) [(AV.c (Cap.d (Ty.sl (Ty.int Go.IntKind.i64)) ([] : List Int))), (AV.c (Cap.d (Ty.sl (Ty.int Go.IntKind.i64)) [(0 : Int), (1 : Int), (1 : Int), (1 : Int), (0 : Int), (0 : Int)]))] (Ty.st (Ty.pair (Ty.sl (Ty.int Go.IntKind.i64)) (Ty.pair (Ty.sl (Ty.int Go.IntKind.i64)) Ty.unit))) r16 ∧
    ∃ r17 : Bool,
    (CallP Try.prog tT (19 : Nat) [(AV.c (Cap.d (Ty.st (Ty.pair (Ty.sl (Ty.int Go.IntKind.i64)) (Ty.pair (Ty.sl (Ty.int Go.IntKind.i64)) Ty.unit))) (r15.1, (r15.2.1, ())))), (AV.c (Cap.d (Ty.st (Ty.pair (Ty.sl (Ty.int Go.IntKind.i64)) (Ty.pair (Ty.sl (Ty.int Go.IntKind.i64)) Ty.unit))) r16))] Ty.bool r17 ∧
    ∃ r18 : ((List Int) × ((List Int) × Unit)),
    (((r17 = true) →
      ((r17 = true) ∧
      CallP Try.prog tT (33 : Nat) [(AV.c (Cap.d (Ty.sl (Ty.int Go.IntKind.i64)) ([] : List Int))), (AV.c (Cap.d (Ty.sl (Ty.int Go.IntKind.i64)) [(0 : Int)]))] (Ty.st (Ty.pair (Ty.sl (Ty.int Go.IntKind.i64)) (Ty.pair (Ty.sl (Ty.int Go.IntKind.i64)) Ty.unit))) r18)) ∧
    ∃ r19 : ((List Int) × ((List Int) × Unit)),
    (((r17 = true) →
      ((r17 = true) ∧
      CallP Try.prog tT (33 : Nat) [(AV.c (Cap.d (Ty.sl (Ty.int Go.IntKind.i64)) ([] : List Int))), (AV.c (Cap.d (Ty.sl (Ty.int Go.IntKind.i64)) [(1 : Int)]))] (Ty.st (Ty.pair (Ty.sl (Ty.int Go.IntKind.i64)) (Ty.pair (Ty.sl (Ty.int Go.IntKind.i64)) Ty.unit))) r19)) ∧
    (((r17 = true) →
      (r17 = true)) ∧
    ∃ r20 : ((List Int) × ((List Int) × Unit)),
    (((r17 = true) →
      (((r17 = true) ∧
      ((r17 = true) ∧
      (r17 = true))) ∧
      CallP Try.prog tT (28 : Nat) [(AV.c (Cap.d (Ty.st (Ty.pair (Ty.sl (Ty.int Go.IntKind.i64)) (Ty.pair (Ty.sl (Ty.int Go.IntKind.i64)) Ty.unit))) r18)), (AV.c (Cap.d (Ty.st (Ty.pair (Ty.sl (Ty.int Go.IntKind.i64)) (Ty.pair (Ty.sl (Ty.int Go.IntKind.i64)) Ty.unit))) r19)), (AV.c (Cap.d (Ty.sl (Ty.sl (Ty.int Go.IntKind.i64))) [[(0 : Int)]]))] (Ty.st (Ty.pair (Ty.sl (Ty.int Go.IntKind.i64)) (Ty.pair (Ty.sl (Ty.int Go.IntKind.i64)) Ty.unit))) r20)) ∧
    (((r17 = true) →
      (r17 = true)) ∧
    (((r17 = true) →
      (r17 = true)) ∧
    (((r17 = true) →
      (r17 = true)) ∧
    (((r17 = true) →
      (r17 = true)) ∧
    ∃ r21 : ((List Int) × ((List Int) × Unit)),
    ((((selB r17 (decide ((((List.length r20.2.1) : Nat) : Int) = (0 : Int))) false) = true) →
      ((((selB r17 (decide ((((List.length r20.2.1) : Nat) : Int) = (0 : Int))) false) = true) ∧
      ((selB r17 (decide ((((List.length r20.2.1) : Nat) : Int) = (0 : Int))) false) = true)) ∧
      CallP Try.prog tT (33 : Nat) [(AV.c (Cap.d (Ty.sl (Ty.int Go.IntKind.i64)) [(1 : Int), (2 : Int), (3 : Int)])), (AV.c (Cap.d (Ty.sl (Ty.int Go.IntKind.i64)) [(2 : Int), (3 : Int)]))] (Ty.st (Ty.pair (Ty.sl (Ty.int Go.IntKind.i64)) (Ty.pair (Ty.sl (Ty.int Go.IntKind.i64)) Ty.unit))) r21)) ∧
    ∃ r22 : Bool,
    ((((selB r17 (decide ((((List.length r20.2.1) : Nat) : Int) = (0 : Int))) false) = true) →
      ((((selB r17 (decide ((((List.length r20.2.1) : Nat) : Int) = (0 : Int))) false) = true) ∧
      ((selB r17 (decide ((((List.length r20.2.1) : Nat) : Int) = (0 : Int))) false) = true)) ∧
      CallP Try.prog tT (22 : Nat) [(AV.c (Cap.d (Ty.st (Ty.pair (Ty.sl (Ty.int Go.IntKind.i64)) (Ty.pair (Ty.sl (Ty.int Go.IntKind.i64)) Ty.unit))) (r.1, (r.2.1, ())))), (AV.c (Cap.d (Ty.st (Ty.pair (Ty.sl (Ty.int Go.IntKind.i64)) (Ty.pair (Ty.sl (Ty.int Go.IntKind.i64)) Ty.unit))) r21))] Ty.bool r22)) ∧
    ((((selB r17 (decide ((((List.length r20.2.1) : Nat) : Int) = (0 : Int))) false) = true) →
      ((selB r17 (decide ((((List.length r20.2.1) : Nat) : Int) = (0 : Int))) false) = true)) ∧
    ∃ r23 : ((List Int) × ((List Int) × Unit)),
    ((((selB (selB r17 (decide ((((List.length r20.2.1) : Nat) : Int) = (0 : Int))) false) r22 false) = true) →
      (((selB (selB r17 (decide ((((List.length r20.2.1) : Nat) : Int) = (0 : Int))) false) r22 false) = true) ∧
      CallP Try.prog tT (33 : Nat) [(AV.c (Cap.d (Ty.sl (Ty.int Go.IntKind.i64)) ([] : List Int))), (AV.c (Cap.d (Ty.sl (Ty.int Go.IntKind.i64)) [(2 : Int), (3 : Int)]))] (Ty.st (Ty.pair (Ty.sl (Ty.int Go.IntKind.i64)) (Ty.pair (Ty.sl (Ty.int Go.IntKind.i64)) Ty.unit))) r23)) ∧
    ∃ r24 : Bool,
    ((((selB (selB r17 (decide ((((List.length r20.2.1) : Nat) : Int) = (0 : Int))) false) r22 false) = true) →
      ((((selB (selB r17 (decide ((((List.length r20.2.1) : Nat) : Int) = (0 : Int))) false) r22 false) = true) ∧
      ((selB (selB r17 (decide ((((List.length r20.2.1) : Nat) : Int) = (0 : Int))) false) r22 false) = true)) ∧
      CallP Try.prog tT (22 : Nat) [(AV.c (Cap.d (Ty.st (Ty.pair (Ty.sl (Ty.int Go.IntKind.i64)) (Ty.pair (Ty.sl (Ty.int Go.IntKind.i64)) Ty.unit))) (r.1, (r.2.1, ())))), (AV.c (Cap.d (Ty.st (Ty.pair (Ty.sl (Ty.int Go.IntKind.i64)) (Ty.pair (Ty.sl (Ty.int Go.IntKind.i64)) Ty.unit))) r23))] Ty.bool r24)) ∧
    ((((selB (selB r17 (decide ((((List.length r20.2.1) : Nat) : Int) = (0 : Int))) false) r22 false) = true) →
      ((selB (selB r17 (decide ((((List.length r20.2.1) : Nat) : Int) = (0 : Int))) false) r22 false) = true)) ∧
    ((((selB (selB r17 (decide ((((List.length r20.2.1) : Nat) : Int) = (0 : Int))) false) r22 false) = true) →
      ((selB (selB r17 (decide ((((List.length r20.2.1) : Nat) : Int) = (0 : Int))) false) r22 false) = true)) ∧
    ∃ r25 : Bool,
    ((((selB (selB (selB r17 (decide ((((List.length r20.2.1) : Nat) : Int) = (0 : Int))) false) r22 false) (!r24) false) = true) →
      ((((selB (selB (selB r17 (decide ((((List.length r20.2.1) : Nat) : Int) = (0 : Int))) false) r22 false) (!r24) false) = true) ∧
      ((selB (selB (selB r17 (decide ((((List.length r20.2.1) : Nat) : Int) = (0 : Int))) false) r22 false) (!r24) false) = true)) ∧
      CallP Try.prog tT (22 : Nat) [(AV.c (Cap.d (Ty.st (Ty.pair (Ty.sl (Ty.int Go.IntKind.i64)) (Ty.pair (Ty.sl (Ty.int Go.IntKind.i64)) Ty.unit))) (([] : List Int), (([] : List Int), ())))), (AV.c (Cap.d (Ty.st (Ty.pair (Ty.sl (Ty.int Go.IntKind.i64)) (Ty.pair (Ty.sl (Ty.int Go.IntKind.i64)) Ty.unit))) (([] : List Int), (([] : List Int), ()))))] Ty.bool r25)) ∧
    ((((selB (selB (selB r17 (decide ((((List.length r20.2.1) : Nat) : Int) = (0 : Int))) false) r22 false) (!r24) false) = true) →
      ((selB (selB (selB r17 (decide ((((List.length r20.2.1) : Nat) : Int) = (0 : Int))) false) r22 false) (!r24) false) = true)) ∧
    ((((selB (selB (selB r17 (decide ((((List.length r20.2.1) : Nat) : Int) = (0 : Int))) false) r22 false) (!r24) false) = true) →
      ((selB (selB (selB r17 (decide ((((List.length r20.2.1) : Nat) : Int) = (0 : Int))) false) r22 false) (!r24) false) = true)) ∧
    ((((selB (selB (selB (selB r3 r6 false) r10 false) (decide (r11 = (3 : Int))) false) (decide (r12 = (-(1 : Int)))) false) = true) →
      ((selB (selB (selB (selB r3 r6 false) r10 false) (decide (r11 = (3 : Int))) false) (decide (r12 = (-(1 : Int)))) false) = true)) ∧
    ∃ r26 : Bool,
    ((((selB (selB (selB (selB (selB r3 r6 false) r10 false) (decide (r11 = (3 : Int))) false) (decide (r12 = (-(1 : Int)))) false) (selB (selB (selB (selB r17 (decide ((((List.length r20.2.1) : Nat) : Int) = (0 : Int))) false) r22 false) (!r24) false) (!r25) false) false) = true) →
      (((selB (selB (selB (selB (selB r3 r6 false) r10 false) (decide (r11 = (3 : Int))) false) (decide (r12 = (-(1 : Int)))) false) (selB (selB (selB (selB r17 (decide ((((List.length r20.2.1) : Nat) : Int) = (0 : Int))) false) r22 false) (!r24) false) (!r25) false) false) = true) ∧
      CallP Try.prog tT (12 : Nat) [(AV.c (Cap.d (Ty.int Go.IntKind.i64) (4 : Int))), (AV.c (Cap.d (Ty.st (Ty.pair (Ty.sl (Ty.int Go.IntKind.i64)) (Ty.pair (Ty.sl (Ty.int Go.IntKind.i64)) Ty.unit))) (r.1, (r.2.1, ()))))] Ty.bool r26)) ∧
    ((((selB (selB (selB (selB (selB r3 r6 false) r10 false) (decide (r11 = (3 : Int))) false) (decide (r12 = (-(1 : Int)))) false) (selB (selB (selB (selB r17 (decide ((((List.length r20.2.1) : Nat) : Int) = (0 : Int))) false) r22 false) (!r24) false) (!r25) false) false) = true) →
      ((selB (selB (selB (selB (selB r3 r6 false) r10 false) (decide (r11 = (3 : Int))) false) (decide (r12 = (-(1 : Int)))) false) (selB (selB (selB (selB r17 (decide ((((List.length r20.2.1) : Nat) : Int) = (0 : Int))) false) r22 false) (!r24) false) (!r25) false) false) = true)) ∧
    ∃ r27 : Bool,
    ((((selB (selB (selB (selB (selB (selB r3 r6 false) r10 false) (decide (r11 = (3 : Int))) false) (decide (r12 = (-(1 : Int)))) false) (selB (selB (selB (selB r17 (decide ((((List.length r20.2.1) : Nat) : Int) = (0 : Int))) false) r22 false) (!r24) false) (!r25) false) false) r26 false) = true) →
      (((selB (selB (selB (selB (selB (selB r3 r6 false) r10 false) (decide (r11 = (3 : Int))) false) (decide (r12 = (-(1 : Int)))) false) (selB (selB (selB (selB r17 (decide ((((List.length r20.2.1) : Nat) : Int) = (0 : Int))) false) r22 false) (!r24) false) (!r25) false) false) r26 false) = true) ∧
      CallP Try.prog tT (12 : Nat) [(AV.c (Cap.d (Ty.int Go.IntKind.i64) (3 : Int))), (AV.c (Cap.d (Ty.st (Ty.pair (Ty.sl (Ty.int Go.IntKind.i64)) (Ty.pair (Ty.sl (Ty.int Go.IntKind.i64)) Ty.unit))) (r.1, (r.2.1, ()))))] Ty.bool r27)) ∧
    ((((selB (selB (selB (selB (selB (selB r3 r6 false) r10 false) (decide (r11 = (3 : Int))) false) (decide (r12 = (-(1 : Int)))) false) (selB (selB (selB (selB r17 (decide ((((List.length r20.2.1) : Nat) : Int) = (0 : Int))) false) r22 false) (!r24) false) (!r25) false) false) r26 false) = true) →
      ((selB (selB (selB (selB (selB (selB r3 r6 false) r10 false) (decide (r11 = (3 : Int))) false) (decide (r12 = (-(1 : Int)))) false) (selB (selB (selB (selB r17 (decide ((((List.length r20.2.1) : Nat) : Int) = (0 : Int))) false) r22 false) (!r24) false) (!r25) false) false) r26 false) = true)) ∧
    ((((selB (selB (selB (selB (selB (selB r3 r6 false) r10 false) (decide (r11 = (3 : Int))) false) (decide (r12 = (-(1 : Int)))) false) (selB (selB (selB (selB r17 (decide ((((List.length r20.2.1) : Nat) : Int) = (0 : Int))) false) r22 false) (!r24) false) (!r25) false) false) r26 false) = true) →
      ((selB (selB (selB (selB (selB (selB r3 r6 false) r10 false) (decide (r11 = (3 : Int))) false) (decide (r12 = (-(1 : Int)))) false) (selB (selB (selB (selB r17 (decide ((((List.length r20.2.1) : Nat) : Int) = (0 : Int))) false) r22 false) (!r24) false) (!r25) false) false) r26 false) = true)) ∧
    ∃ r28 : ((List Int) × ((List Int) × Unit)),
    ((((selB (selB (selB (selB (selB (selB (selB r3 r6 false) r10 false) (decide (r11 = (3 : Int))) false) (decide (r12 = (-(1 : Int)))) false) (selB (selB (selB (selB r17 (decide ((((List.length r20.2.1) : Nat) : Int) = (0 : Int))) false) r22 false) (!r24) false) (!r25) false) false) r26 false) (!r27) false) = true) →
      (((selB (selB (selB (selB (selB (selB (selB r3 r6 false) r10 false) (decide (r11 = (3 : Int))) false) (decide (r12 = (-(1 : Int)))) false) (selB (selB (selB (selB r17 (decide ((((List.length r20.2.1) : Nat) : Int) = (0 : Int))) false) r22 false) (!r24) false) (!r25) false) false) r26 false) (!r27) false) = true) ∧
      CallP Try.prog tT (33 : Nat) [(AV.c (Cap.d (Ty.sl (Ty.int Go.IntKind.i64)) [(1 : Int)])), (AV.c (Cap.d (Ty.sl (Ty.int Go.IntKind.i64)) ([] : List Int)))] (Ty.st (Ty.pair (Ty.sl (Ty.int Go.IntKind.i64)) (Ty.pair (Ty.sl (Ty.int Go.IntKind.i64)) Ty.unit))) r28)) ∧
    ∃ r29 : Bool,
    ((((selB (selB (selB (selB (selB (selB (selB r3 r6 false) r10 false) (decide (r11 = (3 : Int))) false) (decide (r12 = (-(1 : Int)))) false) (selB (selB (selB (selB r17 (decide ((((List.length r20.2.1) : Nat) : Int) = (0 : Int))) false) r22 false) (!r24) false) (!r25) false) false) r26 false) (!r27) false) = true) →
      (((selB (selB (selB (selB (selB (selB (selB r3 r6 false) r10 false) (decide (r11 = (3 : Int))) false) (decide (r12 = (-(1 : Int)))) false) (selB (selB (selB (selB r17 (decide ((((List.length r20.2.1) : Nat) : Int) = (0 : Int))) false) r22 false) (!r24) false) (!r25) false) false) r26 false) (!r27) false) = true) ∧
      CallP Try.prog tT (12 : Nat) [(AV.c (Cap.d (Ty.int Go.IntKind.i64) (4 : Int))), (AV.c (Cap.d (Ty.st (Ty.pair (Ty.sl (Ty.int Go.IntKind.i64)) (Ty.pair (Ty.sl (Ty.int Go.IntKind.i64)) Ty.unit))) r28))] Ty.bool r29)) ∧
    ((((selB (selB (selB (selB (selB (selB (selB r3 r6 false) r10 false) (decide (r11 = (3 : Int))) false) (decide (r12 = (-(1 : Int)))) false) (selB (selB (selB (selB r17 (decide ((((List.length r20.2.1) : Nat) : Int) = (0 : Int))) false) r22 false) (!r24) false) (!r25) false) false) r26 false) (!r27) false) = true) →
      ((selB (selB (selB (selB (selB (selB (selB r3 r6 false) r10 false) (decide (r11 = (3 : Int))) false) (decide (r12 = (-(1 : Int)))) false) (selB (selB (selB (selB r17 (decide ((((List.length r20.2.1) : Nat) : Int) = (0 : Int))) false) r22 false) (!r24) false) (!r25) false) false) r26 false) (!r27) false) = true)) ∧
    ((((selB (selB (selB (selB (selB (selB (selB r3 r6 false) r10 false) (decide (r11 = (3 : Int))) false) (decide (r12 = (-(1 : Int)))) false) (selB (selB (selB (selB r17 (decide ((((List.length r20.2.1) : Nat) : Int) = (0 : Int))) false) r22 false) (!r24) false) (!r25) false) false) r26 false) (!r27) false) = true) →
      ((selB (selB (selB (selB (selB (selB (selB r3 r6 false) r10 false) (decide (r11 = (3 : Int))) false) (decide (r12 = (-(1 : Int)))) false) (selB (selB (selB (selB r17 (decide ((((List.length r20.2.1) : Nat) : Int) = (0 : Int))) false) r22 false) (!r24) false) (!r25) false) false) r26 false) (!r27) false) = true)) ∧
    ∃ r30 : (List Int),
    ((((selB (selB (selB (selB (selB (selB (selB (selB r3 r6 false) r10 false) (decide (r11 = (3 : Int))) false) (decide (r12 = (-(1 : Int)))) false) (selB (selB (selB (selB r17 (decide ((((List.length r20.2.1) : Nat) : Int) = (0 : Int))) false) r22 false) (!r24) false) (!r25) false) false) r26 false) (!r27) false) (!r29) false) = true) →
      (((selB (selB (selB (selB (selB (selB (selB (selB r3 r6 false) r10 false) (decide (r11 = (3 : Int))) false) (decide (r12 = (-(1 : Int)))) false) (selB (selB (selB (selB r17 (decide ((((List.length r20.2.1) : Nat) : Int) = (0 : Int))) false) r22 false) (!r24) false) (!r25) false) false) r26 false) (!r27) false) (!r29) false) = true) ∧
      CallP Try.prog tT (17 : Nat) [(AV.c (Cap.d (Ty.st (Ty.pair (Ty.sl (Ty.int Go.IntKind.i64)) (Ty.pair (Ty.sl (Ty.int Go.IntKind.i64)) Ty.unit))) (r.1, (r.2.1, ())))), (AV.c (Cap.d (Ty.int Go.IntKind.i64) (4 : Int)))] (Ty.sl (Ty.int Go.IntKind.i64)) r30)) ∧
    ∃ r31 : Bool,
    ((((selB (selB (selB (selB (selB (selB (selB (selB r3 r6 false) r10 false) (decide (r11 = (3 : Int))) false) (decide (r12 = (-(1 : Int)))) false) (selB (selB (selB (selB r17 (decide ((((List.length r20.2.1) : Nat) : Int) = (0 : Int))) false) r22 false) (!r24) false) (!r25) false) false) r26 false) (!r27) false) (!r29) false) = true) →
      ((((selB (selB (selB (selB (selB (selB (selB (selB r3 r6 false) r10 false) (decide (r11 = (3 : Int))) false) (decide (r12 = (-(1 : Int)))) false) (selB (selB (selB (selB r17 (decide ((((List.length r20.2.1) : Nat) : Int) = (0 : Int))) false) r22 false) (!r24) false) (!r25) false) false) r26 false) (!r27) false) (!r29) false) = true) ∧
      ((selB (selB (selB (selB (selB (selB (selB (selB r3 r6 false) r10 false) (decide (r11 = (3 : Int))) false) (decide (r12 = (-(1 : Int)))) false) (selB (selB (selB (selB r17 (decide ((((List.length r20.2.1) : Nat) : Int) = (0 : Int))) false) r22 false) (!r24) false) (!r25) false) false) r26 false) (!r27) false) (!r29) false) = true)) ∧
      CallP Try.prog tT (16 : Nat) [(AV.c (Cap.d (Ty.sl (Ty.int Go.IntKind.i64)) r30)), (AV.c (Cap.d (Ty.sl (Ty.int Go.IntKind.i64)) [(1 : Int), (2 : Int), (3 : Int), (2 : Int)]))] Ty.bool r31)) ∧
    ((((selB (selB (selB (selB (selB (selB (selB (selB r3 r6 false) r10 false) (decide (r11 = (3 : Int))) false) (decide (r12 = (-(1 : Int)))) false) (selB (selB (selB (selB r17 (decide ((((List.length r20.2.1) : Nat) : Int) = (0 : Int))) false) r22 false) (!r24) false) (!r25) false) false) r26 false) (!r27) false) (!r29) false) = true) →
      ((selB (selB (selB (selB (selB (selB (selB (selB r3 r6 false) r10 false) (decide (r11 = (3 : Int))) false) (decide (r12 = (-(1 : Int)))) false) (selB (selB (selB (selB r17 (decide ((((List.length r20.2.1) : Nat) : Int) = (0 : Int))) false) r22 false) (!r24) false) (!r25) false) false) r26 false) (!r27) false) (!r29) false) = true)) ∧
    ∃ r32 : (List Int),
    ((((selB (selB (selB (selB (selB (selB (selB (selB (selB r3 r6 false) r10 false) (decide (r11 = (3 : Int))) false) (decide (r12 = (-(1 : Int)))) false) (selB (selB (selB (selB r17 (decide ((((List.length r20.2.1) : Nat) : Int) = (0 : Int))) false) r22 false) (!r24) false) (!r25) false) false) r26 false) (!r27) false) (!r29) false) r31 false) = true) →
      (((selB (selB (selB (selB (selB (selB (selB (selB (selB r3 r6 false) r10 false) (decide (r11 = (3 : Int))) false) (decide (r12 = (-(1 : Int)))) false) (selB (selB (selB (selB r17 (decide ((((List.length r20.2.1) : Nat) : Int) = (0 : Int))) false) r22 false) (!r24) false) (!r25) false) false) r26 false) (!r27) false) (!r29) false) r31 false) = true) ∧
      CallP Try.prog tT (17 : Nat) [(AV.c (Cap.d (Ty.st (Ty.pair (Ty.sl (Ty.int Go.IntKind.i64)) (Ty.pair (Ty.sl (Ty.int Go.IntKind.i64)) Ty.unit))) (r.1, (r.2.1, ())))), (AV.c (Cap.d (Ty.int Go.IntKind.i64) (501 : Int)))] (Ty.sl (Ty.int Go.IntKind.i64)) r32)) ∧
    ((((selB (selB (selB (selB (selB (selB (selB (selB (selB r3 r6 false) r10 false) (decide (r11 = (3 : Int))) false) (decide (r12 = (-(1 : Int)))) false) (selB (selB (selB (selB r17 (decide ((((List.length r20.2.1) : Nat) : Int) = (0 : Int))) false) r22 false) (!r24) false) (!r25) false) false) r26 false) (!r27) false) (!r29) false) r31 false) = true) →
      ((selB (selB (selB (selB (selB (selB (selB (selB (selB r3 r6 false) r10 false) (decide (r11 = (3 : Int))) false) (decide (r12 = (-(1 : Int)))) false) (selB (selB (selB (selB r17 (decide ((((List.length r20.2.1) : Nat) : Int) = (0 : Int))) false) r22 false) (!r24) false) (!r25) false) false) r26 false) (!r27) false) (!r29) false) r31 false) = true)) ∧
    ((((selB (selB (selB (selB (selB (selB (selB (selB (selB r3 r6 false) r10 false) (decide (r11 = (3 : Int))) false) (decide (r12 = (-(1 : Int)))) false) (selB (selB (selB (selB r17 (decide ((((List.length r20.2.1) : Nat) : Int) = (0 : Int))) false) r22 false) (!r24) false) (!r25) false) false) r26 false) (!r27) false) (!r29) false) r31 false) = true) →
      ((selB (selB (selB (selB (selB (selB (selB (selB (selB r3 r6 false) r10 false) (decide (r11 = (3 : Int))) false) (decide (r12 = (-(1 : Int)))) false) (selB (selB (selB (selB r17 (decide ((((List.length r20.2.1) : Nat) : Int) = (0 : Int))) false) r22 false) (!r24) false) (!r25) false) false) r26 false) (!r27) false) (!r29) false) r31 false) = true)) ∧
    ((((selB (selB (selB (selB (selB (selB (selB (selB (selB r3 r6 false) r10 false) (decide (r11 = (3 : Int))) false) (decide (r12 = (-(1 : Int)))) false) (selB (selB (selB (selB r17 (decide ((((List.length r20.2.1) : Nat) : Int) = (0 : Int))) false) r22 false) (!r24) false) (!r25) false) false) r26 false) (!r27) false) (!r29) false) r31 false) = true) →
      ((selB (selB (selB (selB (selB (selB (selB (selB (selB r3 r6 false) r10 false) (decide (r11 = (3 : Int))) false) (decide (r12 = (-(1 : Int)))) false) (selB (selB (selB (selB r17 (decide ((((List.length r20.2.1) : Nat) : Int) = (0 : Int))) false) r22 false) (!r24) false) (!r25) false) false) r26 false) (!r27) false) (!r29) false) r31 false) = true)) ∧
    (R (selB (selB (selB (selB (selB (selB (selB (selB (selB (selB r3 r6 false) r10 false) (decide (r11 = (3 : Int))) false) (decide (r12 = (-(1 : Int)))) false) (selB (selB (selB (selB r17 (decide ((((List.length r20.2.1) : Nat) : Int) = (0 : Int))) false) r22 false) (!r24) false) (!r25) false) false) r26 false) (!r27) false) (!r29) false) r31 false) (decide ((((List.length r32) : Nat) : Int) = (0 : Int))) false)))))))))))))))))))))))))))))))))))))))))))))))))))))))))))))) : CallP Try.prog tT 10 [] .bool r :=
  callP_of (cx := cx10) (d := 6) mixed tab_ok inl_ok Try.func10 ⟨fun _ _ => by kernel_rfl⟩ rfl rfl fun wf => Eq.mpr (by kernel_rfl) (h (fun x => x = r) (fun _ => Iff.rfl) )
set_option maxRecDepth 1000000 in
theorem sf10  (r : Ty.T .bool) (h : ∀ R : Ty.T .bool → Prop, (∀ x, R x ↔ x = r) → 
    (∃ r : ((List Int) × ((List Int) × Unit)),
    (CallP Try.prog tT (33 : Nat) [(AV.c (Cap.d (Ty.sl (Ty.int Go.IntKind.i64)) [(1 : Int)])), (AV.c (Cap.d (Ty.sl (Ty.int Go.IntKind.i64)) [(2 : Int), (3 : Int)]))] (Ty.st (Ty.pair (Ty.sl (Ty.int Go.IntKind.i64)) (Ty.pair (Ty.sl (Ty.int Go.IntKind.i64)) Ty.unit))) r ∧
    (∃ r1 : ((List Int) × ((List Int) × Unit)),
    (CallP Try.prog tT (33 : Nat) [(AV.c (Cap.d (Ty.sl (Ty.int Go.IntKind.i64)) [(1 : Int), (2 : Int)])), (AV.c (Cap.d (Ty.sl (Ty.int Go.IntKind.i64)) [(3 : Int), (2 : Int), (3 : Int), (2 : Int)]))] (Ty.st (Ty.pair (Ty.sl (Ty.int Go.IntKind.i64)) (Ty.pair (Ty.sl (Ty.int Go.IntKind.i64)) Ty.unit))) r1 ∧
    (∃ r2 : ((List Int) × ((List Int) × Unit)),
    (CallP Try.prog tT (20 : Nat) [(AV.c (Cap.d (Ty.st (Ty.pair (Ty.sl (Ty.int Go.IntKind.i64)) (Ty.pair (Ty.sl (Ty.int Go.IntKind.i64)) Ty.unit))) r1))] (Ty.st (Ty.pair (Ty.sl (Ty.int Go.IntKind.i64)) (Ty.pair (Ty.sl (Ty.int Go.IntKind.i64)) Ty.unit))) r2 ∧
    (∃ r3 : Bool,
    (CallP Try.prog tT (19 : Nat) [(AV.c (Cap.d (Ty.st (Ty.pair (Ty.sl (Ty.int Go.IntKind.i64)) (Ty.pair (Ty.sl (Ty.int Go.IntKind.i64)) Ty.unit))) r2)), (AV.c (Cap.d (Ty.st (Ty.pair (Ty.sl (Ty.int Go.IntKind.i64)) (Ty.pair (Ty.sl (Ty.int Go.IntKind.i64)) Ty.unit))) (r.1, (r.2.1, ()))))] Ty.bool r3 ∧
    (∃ r4 : ((List Int) × ((List Int) × Unit)),
    (((r3 = true) →
      CallP Try.prog tT (24 : Nat) [(AV.c (Cap.d (Ty.st (Ty.pair (Ty.sl (Ty.int Go.IntKind.i64)) (Ty.pair (Ty.sl (Ty.int Go.IntKind.i64)) Ty.unit))) (r.1, (r.2.1, ())))), (AV.c (Cap.d (Ty.int Go.IntKind.i64) (2 : Int)))] (Ty.st (Ty.pair (Ty.sl (Ty.int Go.IntKind.i64)) (Ty.pair (Ty.sl (Ty.int Go.IntKind.i64)) Ty.unit))) r4) ∧
    (∃ r5 : ((List Int) × ((List Int) × Unit)),
    (((r3 = true) →
      CallP Try.prog tT (33 : Nat) [(AV.c (Cap.d (Ty.sl (Ty.int Go.IntKind.i64)) ([] : List Int))), (AV.c (Cap.d (Ty.sl (Ty.int Go.IntKind.i64)) [(3 : Int), (2 : Int)]))] (Ty.st (Ty.pair (Ty.sl (Ty.int Go.IntKind.i64)) (Ty.pair (Ty.sl (Ty.int Go.IntKind.i64)) Ty.unit))) r5) ∧
    (∃ r6 : Bool,
    (((r3 = true) →
      CallP Try.prog tT (19 : Nat) [(AV.c (Cap.d (Ty.st (Ty.pair (Ty.sl (Ty.int Go.IntKind.i64)) (Ty.pair (Ty.sl (Ty.int Go.IntKind.i64)) Ty.unit))) r4)), (AV.c (Cap.d (Ty.st (Ty.pair (Ty.sl (Ty.int Go.IntKind.i64)) (Ty.pair (Ty.sl (Ty.int Go.IntKind.i64)) Ty.unit))) r5))] Ty.bool r6) ∧
    (∃ r7 : ((List Int) × ((List Int) × Unit)),
    (((r3 = true) → (r6 = true) →
      CallP Try.prog tT (33 : Nat) [(AV.c (Cap.d (Ty.sl (Ty.int Go.IntKind.i64)) ([] : List Int))), (AV.c (Cap.d (Ty.sl (Ty.int Go.IntKind.i64)) [(2 : Int), (3 : Int)]))] (Ty.st (Ty.pair (Ty.sl (Ty.int Go.IntKind.i64)) (Ty.pair (Ty.sl (Ty.int Go.IntKind.i64)) Ty.unit))) r7) ∧
    (∃ r8 : ((List Int) × ((List Int) × Unit)),
    (((r3 = true) → (r6 = true) →
      CallP Try.prog tT (26 : Nat) [(AV.c (Cap.d (Ty.sl (Ty.int Go.IntKind.i64)) [(2 : Int), (3 : Int)])), (AV.c (Cap.d (Ty.st (Ty.pair (Ty.sl (Ty.int Go.IntKind.i64)) (Ty.pair (Ty.sl (Ty.int Go.IntKind.i64)) Ty.unit))) r7))] (Ty.st (Ty.pair (Ty.sl (Ty.int Go.IntKind.i64)) (Ty.pair (Ty.sl (Ty.int Go.IntKind.i64)) Ty.unit))) r8) ∧
    (∃ r9 : ((List Int) × ((List Int) × Unit)),
    (((r3 = true) → (r6 = true) →
      CallP Try.prog tT (33 : Nat) [(AV.c (Cap.d (Ty.sl (Ty.int Go.IntKind.i64)) ([] : List Int))), (AV.c (Cap.d (Ty.sl (Ty.int Go.IntKind.i64)) [(2 : Int), (3 : Int)]))] (Ty.st (Ty.pair (Ty.sl (Ty.int Go.IntKind.i64)) (Ty.pair (Ty.sl (Ty.int Go.IntKind.i64)) Ty.unit))) r9) ∧
    (∃ r10 : Bool,
    (((r3 = true) → (r6 = true) →
      CallP Try.prog tT (19 : Nat) [(AV.c (Cap.d (Ty.st (Ty.pair (Ty.sl (Ty.int Go.IntKind.i64)) (Ty.pair (Ty.sl (Ty.int Go.IntKind.i64)) Ty.unit))) r8)), (AV.c (Cap.d (Ty.st (Ty.pair (Ty.sl (Ty.int Go.IntKind.i64)) (Ty.pair (Ty.sl (Ty.int Go.IntKind.i64)) Ty.unit))) r9))] Ty.bool r10) ∧
    (∃ r11 : Int,
    (((r3 = true) → (r6 = true) → (r10 = true) →
      CallP Try.prog tT (14 : Nat) [(AV.c (Cap.d (Ty.st (Ty.pair (Ty.sl (Ty.int Go.IntKind.i64)) (Ty.pair (Ty.sl (Ty.int Go.IntKind.i64)) Ty.unit))) (r.1, (r.2.1, ())))), (AV.c (Cap.d (Ty.int Go.IntKind.i64) (4 : Int)))] (Ty.int Go.IntKind.i64) r11) ∧
    (∃ r12 : Int,
    (((r3 = true) → (r6 = true) → (r10 = true) → (r11 = (3 : Int)) →
      CallP Try.prog tT (14 : Nat) [(AV.c (Cap.d (Ty.st (Ty.pair (Ty.sl (Ty.int Go.IntKind.i64)) (Ty.pair (Ty.sl (Ty.int Go.IntKind.i64)) Ty.unit))) (r.1, (r.2.1, ())))), (AV.c (Cap.d (Ty.int Go.IntKind.i64) (-(1 : Int))))] (Ty.int Go.IntKind.i64) r12) ∧
    (∃ r13 : ((List Int) × ((List Int) × Unit)),
    (CallP Try.prog tT (33 : Nat) [(AV.c (Cap.d (Ty.sl (Ty.int Go.IntKind.i64)) ([] : List Int))), (AV.c (Cap.d (Ty.sl (Ty.int Go.IntKind.i64)) [(0 : Int), (1 : Int)]))] (Ty.st (Ty.pair (Ty.sl (Ty.int Go.IntKind.i64)) (Ty.pair (Ty.sl (Ty.int Go.IntKind.i64)) Ty.unit))) r13 ∧
    (∃ r14 : ((List Int) × ((List Int) × Unit)),
    (CallP Try.prog tT (33 : Nat) [(AV.c (Cap.d (Ty.sl (Ty.int Go.IntKind.i64)) ([] : List Int))), (AV.c (Cap.d (Ty.sl (Ty.int Go.IntKind.i64)) [(0 : Int), (0 : Int), (1 : Int)]))] (Ty.st (Ty.pair (Ty.sl (Ty.int Go.IntKind.i64)) (Ty.pair (Ty.sl (Ty.int Go.IntKind.i64)) Ty.unit))) r14 ∧
    (∃ r15 : ((List Int) × ((List Int) × Unit)),
    (CallP Try.prog tT (28 : Nat) [(AV.c (Cap.d (Ty.st (Ty.pair (Ty.sl (Ty.int Go.IntKind.i64)) (Ty.pair (Ty.sl (Ty.int Go.IntKind.i64)) Ty.unit))) r13)), (AV.c (Cap.d (Ty.st (Ty.pair (Ty.sl (Ty.int Go.IntKind.i64)) (Ty.pair (Ty.sl (Ty.int Go.IntKind.i64)) Ty.unit))) r14)), (AV.c (Cap.d (Ty.sl (Ty.sl (Ty.int Go.IntKind.i64))) [[(0 : Int), (1 : Int)], [(1 : Int), (0 : Int)]]))] (Ty.st (Ty.pair (Ty.sl (Ty.int Go.IntKind.i64)) (Ty.pair (Ty.sl (Ty.int Go.IntKind.i64)) Ty.unit))) r15 ∧
    (∃ r16 : ((List Int) × ((List Int) × Unit)),
    (CallP Try.prog tT (33 : Nat) [(AV.c (Cap.d (Ty.sl (Ty.int Go.IntKind.i64)) ([] : List Int))), (AV.c (Cap.d (Ty.sl (Ty.int Go.IntKind.i64)) [(0 : Int), (1 : Int), (1 : Int), (1 : Int), (0 : Int), (0 : Int)]))] (Ty.st (Ty.pair (Ty.sl (Ty.int Go.IntKind.i64)) (Ty.pair (Ty.sl (Ty.int Go.IntKind.i64)) Ty.unit))) r16 ∧
    (∃ r17 : Bool,
    (CallP Try.prog tT (19 : Nat) [(AV.c (Cap.d (Ty.st (Ty.pair (Ty.sl (Ty.int Go.IntKind.i64)) (Ty.pair (Ty.sl (Ty.int Go.IntKind.i64)) Ty.unit))) (r15.1, (r15.2.1, ())))), (AV.c (Cap.d (Ty.st (Ty.pair (Ty.sl (Ty.int Go.IntKind.i64)) (Ty.pair (Ty.sl (Ty.int Go.IntKind.i64)) Ty.unit))) r16))] Ty.bool r17 ∧
    (∃ r18 : ((List Int) × ((List Int) × Unit)),
    (((r17 = true) →
      CallP Try.prog tT (33 : Nat) [(AV.c (Cap.d (Ty.sl (Ty.int Go.IntKind.i64)) ([] : List Int))), (AV.c (Cap.d (Ty.sl (Ty.int Go.IntKind.i64)) [(0 : Int)]))] (Ty.st (Ty.pair (Ty.sl (Ty.int Go.IntKind.i64)) (Ty.pair (Ty.sl (Ty.int Go.IntKind.i64)) Ty.unit))) r18) ∧
    (∃ r19 : ((List Int) × ((List Int) × Unit)),
    (((r17 = true) →
      CallP Try.prog tT (33 : Nat) [(AV.c (Cap.d (Ty.sl (Ty.int Go.IntKind.i64)) ([] : List Int))), (AV.c (Cap.d (Ty.sl (Ty.int Go.IntKind.i64)) [(1 : Int)]))] (Ty.st (Ty.pair (Ty.sl (Ty.int Go.IntKind.i64)) (Ty.pair (Ty.sl (Ty.int Go.IntKind.i64)) Ty.unit))) r19) ∧
    (∃ r20 : ((List Int) × ((List Int) × Unit)),
    (((r17 = true) →
      CallP Try.prog tT (28 : Nat) [(AV.c (Cap.d (Ty.st (Ty.pair (Ty.sl (Ty.int Go.IntKind.i64)) (Ty.pair (Ty.sl (Ty.int Go.IntKind.i64)) Ty.unit))) r18)), (AV.c (Cap.d (Ty.st (Ty.pair (Ty.sl (Ty.int Go.IntKind.i64)) (Ty.pair (Ty.sl (Ty.int Go.IntKind.i64)) Ty.unit))) r19)), (AV.c (Cap.d (Ty.sl (Ty.sl (Ty.int Go.IntKind.i64))) [[(0 : Int)]]))] (Ty.st (Ty.pair (Ty.sl (Ty.int Go.IntKind.i64)) (Ty.pair (Ty.sl (Ty.int Go.IntKind.i64)) Ty.unit))) r20) ∧
    (∃ r21 : ((List Int) × ((List Int) × Unit)),
    (((r17 = true) → ((((List.length r20.2.1) : Nat) : Int) = (0 : Int)) →
      CallP Try.prog tT (33 : Nat) [(AV.c (Cap.d (Ty.sl (Ty.int Go.IntKind.i64)) [(1 : Int), (2 : Int), (3 : Int)])), (AV.c (Cap.d (Ty.sl (Ty.int Go.IntKind.i64)) [(2 : Int), (3 : Int)]))] (Ty.st (Ty.pair (Ty.sl (Ty.int Go.IntKind.i64)) (Ty.pair (Ty.sl (Ty.int Go.IntKind.i64)) Ty.unit))) r21) ∧
    (∃ r22 : Bool,
    (((r17 = true) → ((((List.length r20.2.1) : Nat) : Int) = (0 : Int)) →
      CallP Try.prog tT (22 : Nat) [(AV.c (Cap.d (Ty.st (Ty.pair (Ty.sl (Ty.int Go.IntKind.i64)) (Ty.pair (Ty.sl (Ty.int Go.IntKind.i64)) Ty.unit))) (r.1, (r.2.1, ())))), (AV.c (Cap.d (Ty.st (Ty.pair (Ty.sl (Ty.int Go.IntKind.i64)) (Ty.pair (Ty.sl (Ty.int Go.IntKind.i64)) Ty.unit))) r21))] Ty.bool r22) ∧
    (∃ r23 : ((List Int) × ((List Int) × Unit)),
    (((r17 = true) → ((((List.length r20.2.1) : Nat) : Int) = (0 : Int)) → (r22 = true) →
      CallP Try.prog tT (33 : Nat) [(AV.c (Cap.d (Ty.sl (Ty.int Go.IntKind.i64)) ([] : List Int))), (AV.c (Cap.d (Ty.sl (Ty.int Go.IntKind.i64)) [(2 : Int), (3 : Int)]))] (Ty.st (Ty.pair (Ty.sl (Ty.int Go.IntKind.i64)) (Ty.pair (Ty.sl (Ty.int Go.IntKind.i64)) Ty.unit))) r23) ∧
    (∃ r24 : Bool,
    (((r17 = true) → ((((List.length r20.2.1) : Nat) : Int) = (0 : Int)) → (r22 = true) →
      CallP Try.prog tT (22 : Nat) [(AV.c (Cap.d (Ty.st (Ty.pair (Ty.sl (Ty.int Go.IntKind.i64)) (Ty.pair (Ty.sl (Ty.int Go.IntKind.i64)) Ty.unit))) (r.1, (r.2.1, ())))), (AV.c (Cap.d (Ty.st (Ty.pair (Ty.sl (Ty.int Go.IntKind.i64)) (Ty.pair (Ty.sl (Ty.int Go.IntKind.i64)) Ty.unit))) r23))] Ty.bool r24) ∧
    (∃ r25 : Bool,
    (((r17 = true) → ((((List.length r20.2.1) : Nat) : Int) = (0 : Int)) → (r22 = true) → (r24 = false) →
      CallP Try.prog tT (22 : Nat) [(AV.c (Cap.d (Ty.st (Ty.pair (Ty.sl (Ty.int Go.IntKind.i64)) (Ty.pair (Ty.sl (Ty.int Go.IntKind.i64)) Ty.unit))) (([] : List Int), (([] : List Int), ())))), (AV.c (Cap.d (Ty.st (Ty.pair (Ty.sl (Ty.int Go.IntKind.i64)) (Ty.pair (Ty.sl (Ty.int Go.IntKind.i64)) Ty.unit))) (([] : List Int), (([] : List Int), ()))))] Ty.bool r25) ∧
    (∃ r26 : Bool,
    (((r3 = true) → (r6 = true) → (r10 = true) → (r11 = (3 : Int)) → (r12 = (-(1 : Int))) → (r17 = true) → ((((List.length r20.2.1) : Nat) : Int) = (0 : Int)) → (r22 = true) → (r24 = false) → (r25 = false) →
      CallP Try.prog tT (12 : Nat) [(AV.c (Cap.d (Ty.int Go.IntKind.i64) (4 : Int))), (AV.c (Cap.d (Ty.st (Ty.pair (Ty.sl (Ty.int Go.IntKind.i64)) (Ty.pair (Ty.sl (Ty.int Go.IntKind.i64)) Ty.unit))) (r.1, (r.2.1, ()))))] Ty.bool r26) ∧
    (∃ r27 : Bool,
    (((r3 = true) → (r6 = true) → (r10 = true) → (r11 = (3 : Int)) → (r12 = (-(1 : Int))) → (r17 = true) → ((((List.length r20.2.1) : Nat) : Int) = (0 : Int)) → (r22 = true) → (r24 = false) → (r25 = false) → (r26 = true) →
      CallP Try.prog tT (12 : Nat) [(AV.c (Cap.d (Ty.int Go.IntKind.i64) (3 : Int))), (AV.c (Cap.d (Ty.st (Ty.pair (Ty.sl (Ty.int Go.IntKind.i64)) (Ty.pair (Ty.sl (Ty.int Go.IntKind.i64)) Ty.unit))) (r.1, (r.2.1, ()))))] Ty.bool r27) ∧
    (∃ r28 : ((List Int) × ((List Int) × Unit)),
    (((r3 = true) → (r6 = true) → (r10 = true) → (r11 = (3 : Int)) → (r12 = (-(1 : Int))) → (r17 = true) → ((((List.length r20.2.1) : Nat) : Int) = (0 : Int)) → (r22 = true) → (r24 = false) → (r25 = false) → (r26 = true) → (r27 = false) →
      CallP Try.prog tT (33 : Nat) [(AV.c (Cap.d (Ty.sl (Ty.int Go.IntKind.i64)) [(1 : Int)])), (AV.c (Cap.d (Ty.sl (Ty.int Go.IntKind.i64)) ([] : List Int)))] (Ty.st (Ty.pair (Ty.sl (Ty.int Go.IntKind.i64)) (Ty.pair (Ty.sl (Ty.int Go.IntKind.i64)) Ty.unit))) r28) ∧
    (∃ r29 : Bool,
    (((r3 = true) → (r6 = true) → (r10 = true) → (r11 = (3 : Int)) → (r12 = (-(1 : Int))) → (r17 = true) → ((((List.length r20.2.1) : Nat) : Int) = (0 : Int)) → (r22 = true) → (r24 = false) → (r25 = false) → (r26 = true) → (r27 = false) →
      CallP Try.prog tT (12 : Nat) [(AV.c (Cap.d (Ty.int Go.IntKind.i64) (4 : Int))), (AV.c (Cap.d (Ty.st (Ty.pair (Ty.sl (Ty.int Go.IntKind.i64)) (Ty.pair (Ty.sl (Ty.int Go.IntKind.i64)) Ty.unit))) r28))] Ty.bool r29) ∧
    (∃ r30 : (List Int),
    (((r3 = true) → (r6 = true) → (r10 = true) → (r11 = (3 : Int)) → (r12 = (-(1 : Int))) → (r17 = true) → ((((List.length r20.2.1) : Nat) : Int) = (0 : Int)) → (r22 = true) → (r24 = false) → (r25 = false) → (r26 = true) → (r27 = false) → (r29 = false) →
      CallP Try.prog tT (17 : Nat) [(AV.c (Cap.d (Ty.st (Ty.pair (Ty.sl (Ty.int Go.IntKind.i64)) (Ty.pair (Ty.sl (Ty.int Go.IntKind.i64)) Ty.unit))) (r.1, (r.2.1, ())))), (AV.c (Cap.d (Ty.int Go.IntKind.i64) (4 : Int)))] (Ty.sl (Ty.int Go.IntKind.i64)) r30) ∧
    (∃ r31 : Bool,
    (((r3 = true) → (r6 = true) → (r10 = true) → (r11 = (3 : Int)) → (r12 = (-(1 : Int))) → (r17 = true) → ((((List.length r20.2.1) : Nat) : Int) = (0 : Int)) → (r22 = true) → (r24 = false) → (r25 = false) → (r26 = true) → (r27 = false) → (r29 = false) →
      CallP Try.prog tT (16 : Nat) [(AV.c (Cap.d (Ty.sl (Ty.int Go.IntKind.i64)) r30)), (AV.c (Cap.d (Ty.sl (Ty.int Go.IntKind.i64)) [(1 : Int), (2 : Int), (3 : Int), (2 : Int)]))] Ty.bool r31) ∧
    (∃ r32 : (List Int),
    (((r3 = true) → (r6 = true) → (r10 = true) → (r11 = (3 : Int)) → (r12 = (-(1 : Int))) → (r17 = true) → ((((List.length r20.2.1) : Nat) : Int) = (0 : Int)) → (r22 = true) → (r24 = false) → (r25 = false) → (r26 = true) → (r27 = false) → (r29 = false) → (r31 = true) →
      CallP Try.prog tT (17 : Nat) [(AV.c (Cap.d (Ty.st (Ty.pair (Ty.sl (Ty.int Go.IntKind.i64)) (Ty.pair (Ty.sl (Ty.int Go.IntKind.i64)) Ty.unit))) (r.1, (r.2.1, ())))), (AV.c (Cap.d (Ty.int Go.IntKind.i64) (501 : Int)))] (Ty.sl (Ty.int Go.IntKind.i64)) r32) ∧
    (R (selB (selB (selB (selB (selB (selB (selB (selB (selB (selB r3 r6 false) r10 false) (decide (r11 = (3 : Int))) false) (decide (r12 = (-(1 : Int)))) false) (selB (selB (selB (selB r17 (decide ((((List.length r20.2.1) : Nat) : Int) = (0 : Int))) false) r22 false) (!r24) false) (!r25) false) false) r26 false) (!r27) false) (!r29) false) r31 false) (decide ((((List.length r32) : Nat) : Int) = (0 : Int))) false))))))))))))))))))))))))))))))))))))))))))))))))))))))))))))))))))))) : CallP Try.prog tT 10 [] .bool r :=
  of10  r fun R hR  => have p := h R hR 
    (Exists.elim p fun r q1 => Exists.intro r ⟨q1.1, (Exists.elim q1.2 fun r1 q2 => Exists.intro r1 ⟨q2.1, (Exists.elim q2.2 fun r2 q3 => Exists.intro r2 ⟨q3.1, (Exists.elim q3.2 fun r3 q4 => Exists.intro r3 ⟨q4.1, (Exists.elim q4.2 fun r4 q5 => Exists.intro r4 ⟨(fun h11 => ⟨h11, (q5.1 h11)⟩), (Exists.elim q5.2 fun r5 q12 => Exists.intro r5 ⟨(fun h18 => ⟨h18, (q12.1 h18)⟩), (Exists.elim q12.2 fun r6 q19 => Exists.intro r6 ⟨(fun h25 => ⟨⟨h25, h25⟩, (q19.1 h25)⟩), ⟨(fun h27 => h27), (Exists.elim q19.2 fun r7 q28 => Exists.intro r7 ⟨(fun h34 => ⟨h34, (q28.1 ((selB_at h34).1) ((selB_at h34).2))⟩), (Exists.elim q28.2 fun r8 q35 => Exists.intro r8 ⟨(fun h41 => ⟨⟨h41, h41⟩, (q35.1 ((selB_at h41).1) ((selB_at h41).2))⟩), (Exists.elim q35.2 fun r9 q42 => Exists.intro r9 ⟨(fun h48 => ⟨h48, (q42.1 ((selB_at h48).1) ((selB_at h48).2))⟩), (Exists.elim q42.2 fun r10 q49 => Exists.intro r10 ⟨(fun h55 => ⟨⟨h55, h55⟩, (q49.1 ((selB_at h55).1) ((selB_at h55).2))⟩), ⟨(fun h57 => h57), (Exists.elim q49.2 fun r11 q58 => Exists.intro r11 ⟨(fun h64 => ⟨h64, (q58.1 ((selB_at (selB_at h64).1).1) ((selB_at (selB_at h64).1).2) ((selB_at h64).2))⟩), ⟨(fun h67 => h67), ⟨(fun h69 => h69), (Exists.elim q58.2 fun r12 q70 => Exists.intro r12 ⟨(fun h76 => ⟨h76, (q70.1 ((selB_at (selB_at (selB_at h76).1).1).1) ((selB_at (selB_at (selB_at h76).1).1).2) ((selB_at (selB_at h76).1).2) (of_decide_eq_true (selB_at h76).2))⟩), ⟨(fun h79 => h79), ⟨(fun h81 => h81), (Exists.elim q70.2 fun r13 q82 => Exists.intro r13 ⟨q82.1, (Exists.elim q82.2 fun r14 q83 => Exists.intro r14 ⟨q83.1, (Exists.elim q83.2 fun r15 q84 => Exists.intro r15 ⟨q84.1, (Exists.elim q84.2 fun r16 q85 => Exists.intro r16 ⟨q85.1, (Exists.elim q85.2 fun r17 q86 => Exists.intro r17 ⟨q86.1, (Exists.elim q86.2 fun r18 q87 => Exists.intro r18 ⟨(fun h93 => ⟨h93, (q87.1 h93)⟩), (Exists.elim q87.2 fun r19 q94 => Exists.intro r19 ⟨(fun h100 => ⟨h100, (q94.1 h100)⟩), ⟨(fun h102 => h102), (Exists.elim q94.2 fun r20 q103 => Exists.intro r20 ⟨(fun h109 => ⟨⟨h109, ⟨h109, h109⟩⟩, (q103.1 h109)⟩), ⟨(fun h114 => h114), ⟨(fun h118 => h118), ⟨(fun h121 => h121), ⟨(fun h123 => h123), (Exists.elim q103.2 fun r21 q124 => Exists.intro r21 ⟨(fun h130 => ⟨⟨h130, h130⟩, (q124.1 ((selB_at h130).1) (of_decide_eq_true (selB_at h130).2))⟩), (Exists.elim q124.2 fun r22 q131 => Exists.intro r22 ⟨(fun h137 => ⟨⟨h137, h137⟩, (q131.1 ((selB_at h137).1) (of_decide_eq_true (selB_at h137).2))⟩), ⟨(fun h139 => h139), (Exists.elim q131.2 fun r23 q140 => Exists.intro r23 ⟨(fun h146 => ⟨h146, (q140.1 ((selB_at (selB_at h146).1).1) (of_decide_eq_true (selB_at (selB_at h146).1).2) ((selB_at h146).2))⟩), (Exists.elim q140.2 fun r24 q147 => Exists.intro r24 ⟨(fun h153 => ⟨⟨h153, h153⟩, (q147.1 ((selB_at (selB_at h153).1).1) (of_decide_eq_true (selB_at (selB_at h153).1).2) ((selB_at h153).2))⟩), ⟨(fun h156 => h156), ⟨(fun h158 => h158), (Exists.elim q147.2 fun r25 q159 => Exists.intro r25 ⟨(fun h165 => ⟨⟨h165, h165⟩, (q159.1 ((selB_at (selB_at (selB_at h165).1).1).1) (of_decide_eq_true (selB_at (selB_at (selB_at h165).1).1).2) ((selB_at (selB_at h165).1).2) (bnot_t (selB_at h165).2))⟩), ⟨(fun h169 => h169), ⟨(fun h172 => h172), ⟨(fun h174 => h174), (Exists.elim q159.2 fun r26 q175 => Exists.intro r26 ⟨(fun h181 => ⟨h181, (q175.1 ((selB_at (selB_at (selB_at (selB_at (selB_at h181).1).1).1).1).1) ((selB_at (selB_at (selB_at (selB_at (selB_at h181).1).1).1).1).2) ((selB_at (selB_at (selB_at (selB_at h181).1).1).1).2) (of_decide_eq_true (selB_at (selB_at (selB_at h181).1).1).2) (of_decide_eq_true (selB_at (selB_at h181).1).2) ((selB_at (selB_at (selB_at (selB_at (selB_at h181).2).1).1).1).1) (of_decide_eq_true (selB_at (selB_at (selB_at (selB_at (selB_at h181).2).1).1).1).2) ((selB_at (selB_at (selB_at (selB_at h181).2).1).1).2) (bnot_t (selB_at (selB_at (selB_at h181).2).1).2) (bnot_t (selB_at (selB_at h181).2).2))⟩), ⟨(fun h183 => h183), (Exists.elim q175.2 fun r27 q184 => Exists.intro r27 ⟨(fun h190 => ⟨h190, (q184.1 ((selB_at (selB_at (selB_at (selB_at (selB_at (selB_at h190).1).1).1).1).1).1) ((selB_at (selB_at (selB_at (selB_at (selB_at (selB_at h190).1).1).1).1).1).2) ((selB_at (selB_at (selB_at (selB_at (selB_at h190).1).1).1).1).2) (of_decide_eq_true (selB_at (selB_at (selB_at (selB_at h190).1).1).1).2) (of_decide_eq_true (selB_at (selB_at (selB_at h190).1).1).2) ((selB_at (selB_at (selB_at (selB_at (selB_at (selB_at h190).1).2).1).1).1).1) (of_decide_eq_true (selB_at (selB_at (selB_at (selB_at (selB_at (selB_at h190).1).2).1).1).1).2) ((selB_at (selB_at (selB_at (selB_at (selB_at h190).1).2).1).1).2) (bnot_t (selB_at (selB_at (selB_at (selB_at h190).1).2).1).2) (bnot_t (selB_at (selB_at (selB_at h190).1).2).2) ((selB_at h190).2))⟩), ⟨(fun h193 => h193), ⟨(fun h195 => h195), (Exists.elim q184.2 fun r28 q196 => Exists.intro r28 ⟨(fun h202 => ⟨h202, (q196.1 ((selB_at (selB_at (selB_at (selB_at (selB_at (selB_at (selB_at h202).1).1).1).1).1).1).1) ((selB_at (selB_at (selB_at (selB_at (selB_at (selB_at (selB_at h202).1).1).1).1).1).1).2) ((selB_at (selB_at (selB_at (selB_at (selB_at (selB_at h202).1).1).1).1).1).2) (of_decide_eq_true (selB_at (selB_at (selB_at (selB_at (selB_at h202).1).1).1).1).2) (of_decide_eq_true (selB_at (selB_at (selB_at (selB_at h202).1).1).1).2) ((selB_at (selB_at (selB_at (selB_at (selB_at (selB_at (selB_at h202).1).1).2).1).1).1).1) (of_decide_eq_true (selB_at (selB_at (selB_at (selB_at (selB_at (selB_at (selB_at h202).1).1).2).1).1).1).2) ((selB_at (selB_at (selB_at (selB_at (selB_at (selB_at h202).1).1).2).1).1).2) (bnot_t (selB_at (selB_at (selB_at (selB_at (selB_at h202).1).1).2).1).2) (bnot_t (selB_at (selB_at (selB_at (selB_at h202).1).1).2).2) ((selB_at (selB_at h202).1).2) (bnot_t (selB_at h202).2))⟩), (Exists.elim q196.2 fun r29 q203 => Exists.intro r29 ⟨(fun h209 => ⟨h209, (q203.1 ((selB_at (selB_at (selB_at (selB_at (selB_at (selB_at (selB_at h209).1).1).1).1).1).1).1) ((selB_at (selB_at (selB_at (selB_at (selB_at (selB_at (selB_at h209).1).1).1).1).1).1).2) ((selB_at (selB_at (selB_at (selB_at (selB_at (selB_at h209).1).1).1).1).1).2) (of_decide_eq_true (selB_at (selB_at (selB_at (selB_at (selB_at h209).1).1).1).1).2) (of_decide_eq_true (selB_at (selB_at (selB_at (selB_at h209).1).1).1).2) ((selB_at (selB_at (selB_at (selB_at (selB_at (selB_at (selB_at h209).1).1).2).1).1).1).1) (of_decide_eq_true (selB_at (selB_at (selB_at (selB_at (selB_at (selB_at (selB_at h209).1).1).2).1).1).1).2) ((selB_at (selB_at (selB_at (selB_at (selB_at (selB_at h209).1).1).2).1).1).2) (bnot_t (selB_at (selB_at (selB_at (selB_at (selB_at h209).1).1).2).1).2) (bnot_t (selB_at (selB_at (selB_at (selB_at h209).1).1).2).2) ((selB_at (selB_at h209).1).2) (bnot_t (selB_at h209).2))⟩), ⟨(fun h212 => h212), ⟨(fun h214 => h214), (Exists.elim q203.2 fun r30 q215 => Exists.intro r30 ⟨(fun h221 => ⟨h221, (q215.1 ((selB_at (selB_at (selB_at (selB_at (selB_at (selB_at (selB_at (selB_at h221).1).1).1).1).1).1).1).1) ((selB_at (selB_at (selB_at (selB_at (selB_at (selB_at (selB_at (selB_at h221).1).1).1).1).1).1).1).2) ((selB_at (selB_at (selB_at (selB_at (selB_at (selB_at (selB_at h221).1).1).1).1).1).1).2) (of_decide_eq_true (selB_at (selB_at (selB_at (selB_at (selB_at (selB_at h221).1).1).1).1).1).2) (of_decide_eq_true (selB_at (selB_at (selB_at (selB_at (selB_at h221).1).1).1).1).2) ((selB_at (selB_at (selB_at (selB_at (selB_at (selB_at (selB_at (selB_at h221).1).1).1).2).1).1).1).1) (of_decide_eq_true (selB_at (selB_at (selB_at (selB_at (selB_at (selB_at (selB_at (selB_at h221).1).1).1).2).1).1).1).2) ((selB_at (selB_at (selB_at (selB_at (selB_at (selB_at (selB_at h221).1).1).1).2).1).1).2) (bnot_t (selB_at (selB_at (selB_at (selB_at (selB_at (selB_at h221).1).1).1).2).1).2) (bnot_t (selB_at (selB_at (selB_at (selB_at (selB_at h221).1).1).1).2).2) ((selB_at (selB_at (selB_at h221).1).1).2) (bnot_t (selB_at (selB_at h221).1).2) (bnot_t (selB_at h221).2))⟩), (Exists.elim q215.2 fun r31 q222 => Exists.intro r31 ⟨(fun h228 => ⟨⟨h228, h228⟩, (q222.1 ((selB_at (selB_at (selB_at (selB_at (selB_at (selB_at (selB_at (selB_at h228).1).1).1).1).1).1).1).1) ((selB_at (selB_at (selB_at (selB_at (selB_at (selB_at (selB_at (selB_at h228).1).1).1).1).1).1).1).2) ((selB_at (selB_at (selB_at (selB_at (selB_at (selB_at (selB_at h228).1).1).1).1).1).1).2) (of_decide_eq_true (selB_at (selB_at (selB_at (selB_at (selB_at (selB_at h228).1).1).1).1).1).2) (of_decide_eq_true (selB_at (selB_at (selB_at (selB_at (selB_at h228).1).1).1).1).2) ((selB_at (selB_at (selB_at (selB_at (selB_at (selB_at (selB_at (selB_at h228).1).1).1).2).1).1).1).1) (of_decide_eq_true (selB_at (selB_at (selB_at (selB_at (selB_at (selB_at (selB_at (selB_at h228).1).1).1).2).1).1).1).2) ((selB_at (selB_at (selB_at (selB_at (selB_at (selB_at (selB_at h228).1).1).1).2).1).1).2) (bnot_t (selB_at (selB_at (selB_at (selB_at (selB_at (selB_at h228).1).1).1).2).1).2) (bnot_t (selB_at (selB_at (selB_at (selB_at (selB_at h228).1).1).1).2).2) ((selB_at (selB_at (selB_at h228).1).1).2) (bnot_t (selB_at (selB_at h228).1).2) (bnot_t (selB_at h228).2))⟩), ⟨(fun h230 => h230), (Exists.elim q222.2 fun r32 q231 => Exists.intro r32 ⟨(fun h237 => ⟨h237, (q231.1 ((selB_at (selB_at (selB_at (selB_at (selB_at (selB_at (selB_at (selB_at (selB_at h237).1).1).1).1).1).1).1).1).1) ((selB_at (selB_at (selB_at (selB_at (selB_at (selB_at (selB_at (selB_at (selB_at h237).1).1).1).1).1).1).1).1).2) ((selB_at (selB_at (selB_at (selB_at (selB_at (selB_at (selB_at (selB_at h237).1).1).1).1).1).1).1).2) (of_decide_eq_true (selB_at (selB_at (selB_at (selB_at (selB_at (selB_at (selB_at h237).1).1).1).1).1).1).2) (of_decide_eq_true (selB_at (selB_at (selB_at (selB_at (selB_at (selB_at h237).1).1).1).1).1).2) ((selB_at (selB_at (selB_at (selB_at (selB_at (selB_at (selB_at (selB_at (selB_at h237).1).1).1).1).2).1).1).1).1) (of_decide_eq_true (selB_at (selB_at (selB_at (selB_at (selB_at (selB_at (selB_at (selB_at (selB_at h237).1).1).1).1).2).1).1).1).2) ((selB_at (selB_at (selB_at (selB_at (selB_at (selB_at (selB_at (selB_at h237).1).1).1).1).2).1).1).2) (bnot_t (selB_at (selB_at (selB_at (selB_at (selB_at (selB_at (selB_at h237).1).1).1).1).2).1).2) (bnot_t (selB_at (selB_at (selB_at (selB_at (selB_at (selB_at h237).1).1).1).1).2).2) ((selB_at (selB_at (selB_at (selB_at h237).1).1).1).2) (bnot_t (selB_at (selB_at (selB_at h237).1).1).2) (bnot_t (selB_at (selB_at h237).1).2) ((selB_at h237).2))⟩), ⟨(fun h241 => h241), ⟨(fun h244 => h244), ⟨(fun h246 => h246), q231.2⟩⟩⟩⟩)⟩⟩)⟩)⟩⟩⟩)⟩)⟩⟩⟩)⟩⟩)⟩⟩⟩⟩)⟩⟩⟩)⟩)⟩⟩)⟩)⟩⟩⟩⟩⟩)⟩⟩)⟩)⟩)⟩)⟩)⟩)⟩)⟩⟩⟩)⟩⟩⟩)⟩⟩)⟩)⟩)⟩)⟩⟩)⟩)⟩)⟩)⟩)⟩)⟩)
end Go.Proofs.Ytblibehfjjgdeaa
