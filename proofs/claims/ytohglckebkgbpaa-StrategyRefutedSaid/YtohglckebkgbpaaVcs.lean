/-
  What must be shown of each function, worked out from its text; the kernel holds it against the text.
-/
import Derived.Test.YtohglckebkgbpaaTab
namespace Go.Proofs.Ytohglckebkgbpaa
open Go.RowKit
/- foresight/foresightlaw25.some -/
def cx23 : Cx := { T := tT, own := [11], nt := 57, frz := [], loops := [(4, [.own 7 100007 3 (.int .i64), .val 8 (.int .i64)])] }
theorem vc23_eq (g : (Ty.T (.st (.pair (.sl (.int .i64)) (.pair (.sl (.int .i64)) (.pair (.sl (.sl (.int .i64))) .unit)))))) (player : (Ty.T (.int .i64))) (picks : (Ty.T (.sl (.int .u8)))) (R : Ty.T (.sl (.int .i64)) → Prop) : vcFn Try.prog cx23 Try.f23 [.d (.st (.pair (.sl (.int .i64)) (.pair (.sl (.int .i64)) (.pair (.sl (.sl (.int .i64))) .unit)))) g, .d (.int .i64) player, .d (.sl (.int .u8)) picks] (.sl (.int .i64)) R = (
    ∃ I : (((List Int) × (Int × Unit)) → Prop),
    ∃ μ : (((List Int) × (Int × Unit)) → Nat),
    ((I (([] : List Int), ((0 : Int), ()))) ∧
    ∀ x : ((List Int) × (Int × Unit)),
    (WF (Ty.pair (Ty.sl (Ty.int Go.IntKind.i64)) (Ty.pair (Ty.int Go.IntKind.i64) Ty.unit)) x →
      ((I x) →
        ((((decide (x.2.1 < (((List.length g.1) : Nat) : Int))) = true) →
          ((((0 : Int) ≤ x.2.1) ∧
          (x.2.1 < (((List.length g.1) : Nat) : Int))) ∧
          ((((decide ((List.getD g.1 (Int.toNat x.2.1) (0 : Int)) = player)) = true) →
            ((((decide ((0 : Int) < (((List.length picks) : Nat) : Int))) = true) →
              ((((0 : Int) ≤ x.2.1) ∧
              ((0 : Int) < (((List.length picks) : Nat) : Int))) ∧
              ((((0 : Int) ≤ (x.2.1 % (((List.length picks) : Nat) : Int))) ∧
              ((x.2.1 % (((List.length picks) : Nat) : Int)) < (((List.length picks) : Nat) : Int))) ∧
              (inK Go.IntKind.i64 (List.getD picks (Int.toNat (x.2.1 % (((List.length picks) : Nat) : Int))) (0 : Int)) ∧
              ((((0 : Int) ≤ x.2.1) ∧
              (x.2.1 < (((List.length g.2.2.1) : Nat) : Int))) ∧
              ((((0 : Int) ≤ x.2.1) ∧
              (x.2.1 < (((List.length g.2.2.1) : Nat) : Int))) ∧
              ((((0 : Int) ≤ (List.getD picks (Int.toNat (x.2.1 % (((List.length picks) : Nat) : Int))) (0 : Int))) ∧
              ((0 : Int) < (((List.length (List.getD g.2.2.1 (Int.toNat x.2.1) ([] : List Int))) : Nat) : Int))) ∧
              ((((0 : Int) ≤ ((List.getD picks (Int.toNat (x.2.1 % (((List.length picks) : Nat) : Int))) (0 : Int)) % (((List.length (List.getD g.2.2.1 (Int.toNat x.2.1) ([] : List Int))) : Nat) : Int))) ∧
              (((List.getD picks (Int.toNat (x.2.1 % (((List.length picks) : Nat) : Int))) (0 : Int)) % (((List.length (List.getD g.2.2.1 (Int.toNat x.2.1) ([] : List Int))) : Nat) : Int)) < (((List.length (List.getD g.2.2.1 (Int.toNat x.2.1) ([] : List Int))) : Nat) : Int))) ∧
              (((((((List.length x.1) + (List.length [(List.getD (List.getD g.2.2.1 (Int.toNat x.2.1) ([] : List Int)) (Int.toNat ((List.getD picks (Int.toNat (x.2.1 % (((List.length picks) : Nat) : Int))) (0 : Int)) % (((List.length (List.getD g.2.2.1 (Int.toNat x.2.1) ([] : List Int))) : Nat) : Int))) (0 : Int))])) : Nat) : Int) * (((8 : Nat) : Nat) : Int)) ≤ (140737488355328 : Int)) ∧
              (inK Go.IntKind.i64 (x.2.1 + (1 : Int)) ∧
              ((I ((x.1 ++ [(List.getD (List.getD g.2.2.1 (Int.toNat x.2.1) ([] : List Int)) (Int.toNat ((List.getD picks (Int.toNat (x.2.1 % (((List.length picks) : Nat) : Int))) (0 : Int)) % (((List.length (List.getD g.2.2.1 (Int.toNat x.2.1) ([] : List Int))) : Nat) : Int))) (0 : Int))]), ((x.2.1 + (1 : Int)), ()))) ∧
              ((μ ((x.1 ++ [(List.getD (List.getD g.2.2.1 (Int.toNat x.2.1) ([] : List Int)) (Int.toNat ((List.getD picks (Int.toNat (x.2.1 % (((List.length picks) : Nat) : Int))) (0 : Int)) % (((List.length (List.getD g.2.2.1 (Int.toNat x.2.1) ([] : List Int))) : Nat) : Int))) (0 : Int))]), ((x.2.1 + (1 : Int)), ()))) < (μ x))))))))))))) ∧
            (((decide ((0 : Int) < (((List.length picks) : Nat) : Int))) = false) →
              ((((0 : Int) ≤ x.2.1) ∧
              (x.2.1 < (((List.length g.2.2.1) : Nat) : Int))) ∧
              ((((0 : Int) ≤ x.2.1) ∧
              (x.2.1 < (((List.length g.2.2.1) : Nat) : Int))) ∧
              ((((0 : Int) ≤ (0 : Int)) ∧
              ((0 : Int) < (((List.length (List.getD g.2.2.1 (Int.toNat x.2.1) ([] : List Int))) : Nat) : Int))) ∧
              ((((0 : Int) ≤ ((0 : Int) % (((List.length (List.getD g.2.2.1 (Int.toNat x.2.1) ([] : List Int))) : Nat) : Int))) ∧
              (((0 : Int) % (((List.length (List.getD g.2.2.1 (Int.toNat x.2.1) ([] : List Int))) : Nat) : Int)) < (((List.length (List.getD g.2.2.1 (Int.toNat x.2.1) ([] : List Int))) : Nat) : Int))) ∧
              (((((((List.length x.1) + (List.length [(List.getD (List.getD g.2.2.1 (Int.toNat x.2.1) ([] : List Int)) (Int.toNat ((0 : Int) % (((List.length (List.getD g.2.2.1 (Int.toNat x.2.1) ([] : List Int))) : Nat) : Int))) (0 : Int))])) : Nat) : Int) * (((8 : Nat) : Nat) : Int)) ≤ (140737488355328 : Int)) ∧
              (inK Go.IntKind.i64 (x.2.1 + (1 : Int)) ∧
              ((I ((x.1 ++ [(List.getD (List.getD g.2.2.1 (Int.toNat x.2.1) ([] : List Int)) (Int.toNat ((0 : Int) % (((List.length (List.getD g.2.2.1 (Int.toNat x.2.1) ([] : List Int))) : Nat) : Int))) (0 : Int))]), ((x.2.1 + (1 : Int)), ()))) ∧
              ((μ ((x.1 ++ [(List.getD (List.getD g.2.2.1 (Int.toNat x.2.1) ([] : List Int)) (Int.toNat ((0 : Int) % (((List.length (List.getD g.2.2.1 (Int.toNat x.2.1) ([] : List Int))) : Nat) : Int))) (0 : Int))]), ((x.2.1 + (1 : Int)), ()))) < (μ x)))))))))))) ∧
          (((decide ((List.getD g.1 (Int.toNat x.2.1) (0 : Int)) = player)) = false) →
            (((((((List.length x.1) + (List.length [(-(1 : Int))])) : Nat) : Int) * (((8 : Nat) : Nat) : Int)) ≤ (140737488355328 : Int)) ∧
            (inK Go.IntKind.i64 (x.2.1 + (1 : Int)) ∧
            ((I ((x.1 ++ [(-(1 : Int))]), ((x.2.1 + (1 : Int)), ()))) ∧
            ((μ ((x.1 ++ [(-(1 : Int))]), ((x.2.1 + (1 : Int)), ()))) < (μ x))))))))) ∧
        (((decide (x.2.1 < (((List.length g.1) : Nat) : Int))) = false) →
          (R x.1))))))) := by kernel_rfl
theorem of23 (g : (Ty.T (.st (.pair (.sl (.int .i64)) (.pair (.sl (.int .i64)) (.pair (.sl (.sl (.int .i64))) .unit)))))) (player : (Ty.T (.int .i64))) (picks : (Ty.T (.sl (.int .u8)))) (r : Ty.T (.sl (.int .i64))) (h : ∀ R : Ty.T (.sl (.int .i64)) → Prop, (∀ x, R x ↔ x = r) → WF (.st (.pair (.sl (.int .i64)) (.pair (.sl (.int .i64)) (.pair (.sl (.sl (.int .i64))) .unit)))) g → WF (.int .i64) player → WF (.sl (.int .u8)) picks → 
    ∃ I : (((List Int) × (Int × Unit)) → Prop),
    ∃ μ : (((List Int) × (Int × Unit)) → Nat),
    ((I (([] : List Int), ((0 : Int), ()))) ∧
    ∀ x : ((List Int) × (Int × Unit)),
    (WF (Ty.pair (Ty.sl (Ty.int Go.IntKind.i64)) (Ty.pair (Ty.int Go.IntKind.i64) Ty.unit)) x →
      ((I x) →
        ((((decide (x.2.1 < (((List.length g.1) : Nat) : Int))) = true) →
          ((((0 : Int) ≤ x.2.1) ∧
          (x.2.1 < (((List.length g.1) : Nat) : Int))) ∧
          ((((decide ((List.getD g.1 (Int.toNat x.2.1) (0 : Int)) = player)) = true) →
            ((((decide ((0 : Int) < (((List.length picks) : Nat) : Int))) = true) →
              ((((0 : Int) ≤ x.2.1) ∧
              ((0 : Int) < (((List.length picks) : Nat) : Int))) ∧
              ((((0 : Int) ≤ (x.2.1 % (((List.length picks) : Nat) : Int))) ∧
              ((x.2.1 % (((List.length picks) : Nat) : Int)) < (((List.length picks) : Nat) : Int))) ∧
              (inK Go.IntKind.i64 (List.getD picks (Int.toNat (x.2.1 % (((List.length picks) : Nat) : Int))) (0 : Int)) ∧
              ((((0 : Int) ≤ x.2.1) ∧
              (x.2.1 < (((List.length g.2.2.1) : Nat) : Int))) ∧
              ((((0 : Int) ≤ x.2.1) ∧
              (x.2.1 < (((List.length g.2.2.1) : Nat) : Int))) ∧
              ((((0 : Int) ≤ (List.getD picks (Int.toNat (x.2.1 % (((List.length picks) : Nat) : Int))) (0 : Int))) ∧
              ((0 : Int) < (((List.length (List.getD g.2.2.1 (Int.toNat x.2.1) ([] : List Int))) : Nat) : Int))) ∧
              ((((0 : Int) ≤ ((List.getD picks (Int.toNat (x.2.1 % (((List.length picks) : Nat) : Int))) (0 : Int)) % (((List.length (List.getD g.2.2.1 (Int.toNat x.2.1) ([] : List Int))) : Nat) : Int))) ∧
              (((List.getD picks (Int.toNat (x.2.1 % (((List.length picks) : Nat) : Int))) (0 : Int)) % (((List.length (List.getD g.2.2.1 (Int.toNat x.2.1) ([] : List Int))) : Nat) : Int)) < (((List.length (List.getD g.2.2.1 (Int.toNat x.2.1) ([] : List Int))) : Nat) : Int))) ∧
              (((((((List.length x.1) + (List.length [(List.getD (List.getD g.2.2.1 (Int.toNat x.2.1) ([] : List Int)) (Int.toNat ((List.getD picks (Int.toNat (x.2.1 % (((List.length picks) : Nat) : Int))) (0 : Int)) % (((List.length (List.getD g.2.2.1 (Int.toNat x.2.1) ([] : List Int))) : Nat) : Int))) (0 : Int))])) : Nat) : Int) * (((8 : Nat) : Nat) : Int)) ≤ (140737488355328 : Int)) ∧
              (inK Go.IntKind.i64 (x.2.1 + (1 : Int)) ∧
              ((I ((x.1 ++ [(List.getD (List.getD g.2.2.1 (Int.toNat x.2.1) ([] : List Int)) (Int.toNat ((List.getD picks (Int.toNat (x.2.1 % (((List.length picks) : Nat) : Int))) (0 : Int)) % (((List.length (List.getD g.2.2.1 (Int.toNat x.2.1) ([] : List Int))) : Nat) : Int))) (0 : Int))]), ((x.2.1 + (1 : Int)), ()))) ∧
              ((μ ((x.1 ++ [(List.getD (List.getD g.2.2.1 (Int.toNat x.2.1) ([] : List Int)) (Int.toNat ((List.getD picks (Int.toNat (x.2.1 % (((List.length picks) : Nat) : Int))) (0 : Int)) % (((List.length (List.getD g.2.2.1 (Int.toNat x.2.1) ([] : List Int))) : Nat) : Int))) (0 : Int))]), ((x.2.1 + (1 : Int)), ()))) < (μ x))))))))))))) ∧
            (((decide ((0 : Int) < (((List.length picks) : Nat) : Int))) = false) →
              ((((0 : Int) ≤ x.2.1) ∧
              (x.2.1 < (((List.length g.2.2.1) : Nat) : Int))) ∧
              ((((0 : Int) ≤ x.2.1) ∧
              (x.2.1 < (((List.length g.2.2.1) : Nat) : Int))) ∧
              ((((0 : Int) ≤ (0 : Int)) ∧
              ((0 : Int) < (((List.length (List.getD g.2.2.1 (Int.toNat x.2.1) ([] : List Int))) : Nat) : Int))) ∧
              ((((0 : Int) ≤ ((0 : Int) % (((List.length (List.getD g.2.2.1 (Int.toNat x.2.1) ([] : List Int))) : Nat) : Int))) ∧
              (((0 : Int) % (((List.length (List.getD g.2.2.1 (Int.toNat x.2.1) ([] : List Int))) : Nat) : Int)) < (((List.length (List.getD g.2.2.1 (Int.toNat x.2.1) ([] : List Int))) : Nat) : Int))) ∧
              (((((((List.length x.1) + (List.length [(List.getD (List.getD g.2.2.1 (Int.toNat x.2.1) ([] : List Int)) (Int.toNat ((0 : Int) % (((List.length (List.getD g.2.2.1 (Int.toNat x.2.1) ([] : List Int))) : Nat) : Int))) (0 : Int))])) : Nat) : Int) * (((8 : Nat) : Nat) : Int)) ≤ (140737488355328 : Int)) ∧
              (inK Go.IntKind.i64 (x.2.1 + (1 : Int)) ∧
              ((I ((x.1 ++ [(List.getD (List.getD g.2.2.1 (Int.toNat x.2.1) ([] : List Int)) (Int.toNat ((0 : Int) % (((List.length (List.getD g.2.2.1 (Int.toNat x.2.1) ([] : List Int))) : Nat) : Int))) (0 : Int))]), ((x.2.1 + (1 : Int)), ()))) ∧
              ((μ ((x.1 ++ [(List.getD (List.getD g.2.2.1 (Int.toNat x.2.1) ([] : List Int)) (Int.toNat ((0 : Int) % (((List.length (List.getD g.2.2.1 (Int.toNat x.2.1) ([] : List Int))) : Nat) : Int))) (0 : Int))]), ((x.2.1 + (1 : Int)), ()))) < (μ x)))))))))))) ∧
          (((decide ((List.getD g.1 (Int.toNat x.2.1) (0 : Int)) = player)) = false) →
            (((((((List.length x.1) + (List.length [(-(1 : Int))])) : Nat) : Int) * (((8 : Nat) : Nat) : Int)) ≤ (140737488355328 : Int)) ∧
            (inK Go.IntKind.i64 (x.2.1 + (1 : Int)) ∧
            ((I ((x.1 ++ [(-(1 : Int))]), ((x.2.1 + (1 : Int)), ()))) ∧
            ((μ ((x.1 ++ [(-(1 : Int))]), ((x.2.1 + (1 : Int)), ()))) < (μ x))))))))) ∧
        (((decide (x.2.1 < (((List.length g.1) : Nat) : Int))) = false) →
          (R x.1))))))) : CallP Try.prog tT 23 [.d (.st (.pair (.sl (.int .i64)) (.pair (.sl (.int .i64)) (.pair (.sl (.sl (.int .i64))) .unit)))) g, .d (.int .i64) player, .d (.sl (.int .u8)) picks] (.sl (.int .i64)) r :=
  callP_of (cx := cx23) mixed tab_ok Try.func23 ⟨fun _ _ => by kernel_rfl⟩ Try.ntmps23 rfl fun wf => by rw [vc23_eq]; exact h (fun x => x = r) (fun _ => Iff.rfl) (wf.1 rfl) (wf.2.1 rfl) (wf.2.2.1 rfl)
/- foresight/foresightlaw25.count -/
def cx24 : Cx := { T := tT, own := [], nt := 37, frz := [], loops := [(4, [.val 7 (.int .i64), .val 8 (.int .i64)])] }
theorem vc24_eq (g : (Ty.T (.st (.pair (.sl (.int .i64)) (.pair (.sl (.int .i64)) (.pair (.sl (.sl (.int .i64))) .unit)))))) (player : (Ty.T (.int .i64))) (limit : (Ty.T (.int .i64))) (R : Ty.T (.int .i64) → Prop) : vcFn Try.prog cx24 Try.f24 [.d (.st (.pair (.sl (.int .i64)) (.pair (.sl (.int .i64)) (.pair (.sl (.sl (.int .i64))) .unit)))) g, .d (.int .i64) player, .d (.int .i64) limit] (.int .i64) R = (
    ∃ I : ((Int × (Int × Unit)) → Prop),
    ∃ μ : ((Int × (Int × Unit)) → Nat),
    ((I ((1 : Int), ((0 : Int), ()))) ∧
    ∀ x : (Int × (Int × Unit)),
    (WF (Ty.pair (Ty.int Go.IntKind.i64) (Ty.pair (Ty.int Go.IntKind.i64) Ty.unit)) x →
      ((I x) →
        ((((decide (x.2.1 < (((List.length g.1) : Nat) : Int))) = true) →
          (((decide (x.2.1 < (((List.length g.1) : Nat) : Int))) = true) ∧
          ((decide (x.2.1 < (((List.length g.1) : Nat) : Int))) = true))) ∧
        ((((decide (x.2.1 < (((List.length g.1) : Nat) : Int))) = true) →
          ((decide (x.2.1 < (((List.length g.1) : Nat) : Int))) = true)) ∧
        ((((selB (decide (x.2.1 < (((List.length g.1) : Nat) : Int))) (decide (x.1 ≤ limit)) false) = true) →
          ((((0 : Int) ≤ x.2.1) ∧
          (x.2.1 < (((List.length g.1) : Nat) : Int))) ∧
          ((((decide ((List.getD g.1 (Int.toNat x.2.1) (0 : Int)) = player)) = true) →
            ((((0 : Int) ≤ x.2.1) ∧
            (x.2.1 < (((List.length g.2.2.1) : Nat) : Int))) ∧
            (inK Go.IntKind.i64 (x.1 * (((List.length (List.getD g.2.2.1 (Int.toNat x.2.1) ([] : List Int))) : Nat) : Int)) ∧
            (inK Go.IntKind.i64 (x.2.1 + (1 : Int)) ∧
            ((I ((x.1 * (((List.length (List.getD g.2.2.1 (Int.toNat x.2.1) ([] : List Int))) : Nat) : Int)), ((x.2.1 + (1 : Int)), ()))) ∧
            ((μ ((x.1 * (((List.length (List.getD g.2.2.1 (Int.toNat x.2.1) ([] : List Int))) : Nat) : Int)), ((x.2.1 + (1 : Int)), ()))) < (μ x))))))) ∧
          (((decide ((List.getD g.1 (Int.toNat x.2.1) (0 : Int)) = player)) = false) →
            (inK Go.IntKind.i64 (x.2.1 + (1 : Int)) ∧
            ((I (x.1, ((x.2.1 + (1 : Int)), ()))) ∧
            ((μ (x.1, ((x.2.1 + (1 : Int)), ()))) < (μ x)))))))) ∧
        (((selB (decide (x.2.1 < (((List.length g.1) : Nat) : Int))) (decide (x.1 ≤ limit)) false) = false) →
          (R x.1))))))))) := by kernel_rfl
theorem of24 (g : (Ty.T (.st (.pair (.sl (.int .i64)) (.pair (.sl (.int .i64)) (.pair (.sl (.sl (.int .i64))) .unit)))))) (player : (Ty.T (.int .i64))) (limit : (Ty.T (.int .i64))) (r : Ty.T (.int .i64)) (h : ∀ R : Ty.T (.int .i64) → Prop, (∀ x, R x ↔ x = r) → WF (.st (.pair (.sl (.int .i64)) (.pair (.sl (.int .i64)) (.pair (.sl (.sl (.int .i64))) .unit)))) g → WF (.int .i64) player → WF (.int .i64) limit → 
    ∃ I : ((Int × (Int × Unit)) → Prop),
    ∃ μ : ((Int × (Int × Unit)) → Nat),
    ((I ((1 : Int), ((0 : Int), ()))) ∧
    ∀ x : (Int × (Int × Unit)),
    (WF (Ty.pair (Ty.int Go.IntKind.i64) (Ty.pair (Ty.int Go.IntKind.i64) Ty.unit)) x →
      ((I x) →
        ((((decide (x.2.1 < (((List.length g.1) : Nat) : Int))) = true) →
          (((decide (x.2.1 < (((List.length g.1) : Nat) : Int))) = true) ∧
          ((decide (x.2.1 < (((List.length g.1) : Nat) : Int))) = true))) ∧
        ((((decide (x.2.1 < (((List.length g.1) : Nat) : Int))) = true) →
          ((decide (x.2.1 < (((List.length g.1) : Nat) : Int))) = true)) ∧
        ((((selB (decide (x.2.1 < (((List.length g.1) : Nat) : Int))) (decide (x.1 ≤ limit)) false) = true) →
          ((((0 : Int) ≤ x.2.1) ∧
          (x.2.1 < (((List.length g.1) : Nat) : Int))) ∧
          ((((decide ((List.getD g.1 (Int.toNat x.2.1) (0 : Int)) = player)) = true) →
            ((((0 : Int) ≤ x.2.1) ∧
            (x.2.1 < (((List.length g.2.2.1) : Nat) : Int))) ∧
            (inK Go.IntKind.i64 (x.1 * (((List.length (List.getD g.2.2.1 (Int.toNat x.2.1) ([] : List Int))) : Nat) : Int)) ∧
            (inK Go.IntKind.i64 (x.2.1 + (1 : Int)) ∧
            ((I ((x.1 * (((List.length (List.getD g.2.2.1 (Int.toNat x.2.1) ([] : List Int))) : Nat) : Int)), ((x.2.1 + (1 : Int)), ()))) ∧
            ((μ ((x.1 * (((List.length (List.getD g.2.2.1 (Int.toNat x.2.1) ([] : List Int))) : Nat) : Int)), ((x.2.1 + (1 : Int)), ()))) < (μ x))))))) ∧
          (((decide ((List.getD g.1 (Int.toNat x.2.1) (0 : Int)) = player)) = false) →
            (inK Go.IntKind.i64 (x.2.1 + (1 : Int)) ∧
            ((I (x.1, ((x.2.1 + (1 : Int)), ()))) ∧
            ((μ (x.1, ((x.2.1 + (1 : Int)), ()))) < (μ x)))))))) ∧
        (((selB (decide (x.2.1 < (((List.length g.1) : Nat) : Int))) (decide (x.1 ≤ limit)) false) = false) →
          (R x.1))))))))) : CallP Try.prog tT 24 [.d (.st (.pair (.sl (.int .i64)) (.pair (.sl (.int .i64)) (.pair (.sl (.sl (.int .i64))) .unit)))) g, .d (.int .i64) player, .d (.int .i64) limit] (.int .i64) r :=
  callP_of (cx := cx24) mixed tab_ok Try.func24 ⟨fun _ _ => by kernel_rfl⟩ Try.ntmps24 rfl fun wf => by rw [vc24_eq]; exact h (fun x => x = r) (fun _ => Iff.rfl) (wf.1 rfl) (wf.2.1 rfl) (wf.2.2.1 rfl)
/- foresight/foresightlaw25.strategyOf -/
def cx25 : Cx := { T := tT, own := [10], nt := 53, frz := [], loops := [(4, [.val 2 (.int .i64), .own 7 100007 3 (.int .i64), .val 8 (.int .i64)])] }
theorem vc25_eq (g : (Ty.T (.st (.pair (.sl (.int .i64)) (.pair (.sl (.int .i64)) (.pair (.sl (.sl (.int .i64))) .unit)))))) (player : (Ty.T (.int .i64))) (n : (Ty.T (.int .i64))) (R : Ty.T (.sl (.int .i64)) → Prop) : vcFn Try.prog cx25 Try.f25 [.d (.st (.pair (.sl (.int .i64)) (.pair (.sl (.int .i64)) (.pair (.sl (.sl (.int .i64))) .unit)))) g, .d (.int .i64) player, .d (.int .i64) n] (.sl (.int .i64)) R = (
    ∃ I : ((Int × ((List Int) × (Int × Unit))) → Prop),
    ∃ μ : ((Int × ((List Int) × (Int × Unit))) → Nat),
    ((I (n, (([] : List Int), ((0 : Int), ())))) ∧
    ∀ x : (Int × ((List Int) × (Int × Unit))),
    (WF (Ty.pair (Ty.int Go.IntKind.i64) (Ty.pair (Ty.sl (Ty.int Go.IntKind.i64)) (Ty.pair (Ty.int Go.IntKind.i64) Ty.unit))) x →
      ((I x) →
        ((((decide (x.2.2.1 < (((List.length g.1) : Nat) : Int))) = true) →
          ((((0 : Int) ≤ x.2.2.1) ∧
          (x.2.2.1 < (((List.length g.1) : Nat) : Int))) ∧
          ((((decide ((List.getD g.1 (Int.toNat x.2.2.1) (0 : Int)) = player)) = true) →
            ((((0 : Int) ≤ x.2.2.1) ∧
            (x.2.2.1 < (((List.length g.2.2.1) : Nat) : Int))) ∧
            ((((0 : Int) ≤ x.2.2.1) ∧
            (x.2.2.1 < (((List.length g.2.2.1) : Nat) : Int))) ∧
            ((((0 : Int) ≤ x.1) ∧
            ((0 : Int) < (((List.length (List.getD g.2.2.1 (Int.toNat x.2.2.1) ([] : List Int))) : Nat) : Int))) ∧
            ((((0 : Int) ≤ (x.1 % (((List.length (List.getD g.2.2.1 (Int.toNat x.2.2.1) ([] : List Int))) : Nat) : Int))) ∧
            ((x.1 % (((List.length (List.getD g.2.2.1 (Int.toNat x.2.2.1) ([] : List Int))) : Nat) : Int)) < (((List.length (List.getD g.2.2.1 (Int.toNat x.2.2.1) ([] : List Int))) : Nat) : Int))) ∧
            ((((0 : Int) ≤ x.2.2.1) ∧
            (x.2.2.1 < (((List.length g.2.2.1) : Nat) : Int))) ∧
            ((((0 : Int) ≤ x.1) ∧
            ((0 : Int) < (((List.length (List.getD g.2.2.1 (Int.toNat x.2.2.1) ([] : List Int))) : Nat) : Int))) ∧
            (((((((List.length x.2.1) + (List.length [(List.getD (List.getD g.2.2.1 (Int.toNat x.2.2.1) ([] : List Int)) (Int.toNat (x.1 % (((List.length (List.getD g.2.2.1 (Int.toNat x.2.2.1) ([] : List Int))) : Nat) : Int))) (0 : Int))])) : Nat) : Int) * (((8 : Nat) : Nat) : Int)) ≤ (140737488355328 : Int)) ∧
            (inK Go.IntKind.i64 (x.2.2.1 + (1 : Int)) ∧
            ((I ((x.1 / (((List.length (List.getD g.2.2.1 (Int.toNat x.2.2.1) ([] : List Int))) : Nat) : Int)), ((x.2.1 ++ [(List.getD (List.getD g.2.2.1 (Int.toNat x.2.2.1) ([] : List Int)) (Int.toNat (x.1 % (((List.length (List.getD g.2.2.1 (Int.toNat x.2.2.1) ([] : List Int))) : Nat) : Int))) (0 : Int))]), ((x.2.2.1 + (1 : Int)), ())))) ∧
            ((μ ((x.1 / (((List.length (List.getD g.2.2.1 (Int.toNat x.2.2.1) ([] : List Int))) : Nat) : Int)), ((x.2.1 ++ [(List.getD (List.getD g.2.2.1 (Int.toNat x.2.2.1) ([] : List Int)) (Int.toNat (x.1 % (((List.length (List.getD g.2.2.1 (Int.toNat x.2.2.1) ([] : List Int))) : Nat) : Int))) (0 : Int))]), ((x.2.2.1 + (1 : Int)), ())))) < (μ x)))))))))))) ∧
          (((decide ((List.getD g.1 (Int.toNat x.2.2.1) (0 : Int)) = player)) = false) →
            (((((((List.length x.2.1) + (List.length [(-(1 : Int))])) : Nat) : Int) * (((8 : Nat) : Nat) : Int)) ≤ (140737488355328 : Int)) ∧
            (inK Go.IntKind.i64 (x.2.2.1 + (1 : Int)) ∧
            ((I (x.1, ((x.2.1 ++ [(-(1 : Int))]), ((x.2.2.1 + (1 : Int)), ())))) ∧
            ((μ (x.1, ((x.2.1 ++ [(-(1 : Int))]), ((x.2.2.1 + (1 : Int)), ())))) < (μ x))))))))) ∧
        (((decide (x.2.2.1 < (((List.length g.1) : Nat) : Int))) = false) →
          (R x.2.1))))))) := by kernel_rfl
theorem of25 (g : (Ty.T (.st (.pair (.sl (.int .i64)) (.pair (.sl (.int .i64)) (.pair (.sl (.sl (.int .i64))) .unit)))))) (player : (Ty.T (.int .i64))) (n : (Ty.T (.int .i64))) (r : Ty.T (.sl (.int .i64))) (h : ∀ R : Ty.T (.sl (.int .i64)) → Prop, (∀ x, R x ↔ x = r) → WF (.st (.pair (.sl (.int .i64)) (.pair (.sl (.int .i64)) (.pair (.sl (.sl (.int .i64))) .unit)))) g → WF (.int .i64) player → WF (.int .i64) n → 
    ∃ I : ((Int × ((List Int) × (Int × Unit))) → Prop),
    ∃ μ : ((Int × ((List Int) × (Int × Unit))) → Nat),
    ((I (n, (([] : List Int), ((0 : Int), ())))) ∧
    ∀ x : (Int × ((List Int) × (Int × Unit))),
    (WF (Ty.pair (Ty.int Go.IntKind.i64) (Ty.pair (Ty.sl (Ty.int Go.IntKind.i64)) (Ty.pair (Ty.int Go.IntKind.i64) Ty.unit))) x →
      ((I x) →
        ((((decide (x.2.2.1 < (((List.length g.1) : Nat) : Int))) = true) →
          ((((0 : Int) ≤ x.2.2.1) ∧
          (x.2.2.1 < (((List.length g.1) : Nat) : Int))) ∧
          ((((decide ((List.getD g.1 (Int.toNat x.2.2.1) (0 : Int)) = player)) = true) →
            ((((0 : Int) ≤ x.2.2.1) ∧
            (x.2.2.1 < (((List.length g.2.2.1) : Nat) : Int))) ∧
            ((((0 : Int) ≤ x.2.2.1) ∧
            (x.2.2.1 < (((List.length g.2.2.1) : Nat) : Int))) ∧
            ((((0 : Int) ≤ x.1) ∧
            ((0 : Int) < (((List.length (List.getD g.2.2.1 (Int.toNat x.2.2.1) ([] : List Int))) : Nat) : Int))) ∧
            ((((0 : Int) ≤ (x.1 % (((List.length (List.getD g.2.2.1 (Int.toNat x.2.2.1) ([] : List Int))) : Nat) : Int))) ∧
            ((x.1 % (((List.length (List.getD g.2.2.1 (Int.toNat x.2.2.1) ([] : List Int))) : Nat) : Int)) < (((List.length (List.getD g.2.2.1 (Int.toNat x.2.2.1) ([] : List Int))) : Nat) : Int))) ∧
            ((((0 : Int) ≤ x.2.2.1) ∧
            (x.2.2.1 < (((List.length g.2.2.1) : Nat) : Int))) ∧
            ((((0 : Int) ≤ x.1) ∧
            ((0 : Int) < (((List.length (List.getD g.2.2.1 (Int.toNat x.2.2.1) ([] : List Int))) : Nat) : Int))) ∧
            (((((((List.length x.2.1) + (List.length [(List.getD (List.getD g.2.2.1 (Int.toNat x.2.2.1) ([] : List Int)) (Int.toNat (x.1 % (((List.length (List.getD g.2.2.1 (Int.toNat x.2.2.1) ([] : List Int))) : Nat) : Int))) (0 : Int))])) : Nat) : Int) * (((8 : Nat) : Nat) : Int)) ≤ (140737488355328 : Int)) ∧
            (inK Go.IntKind.i64 (x.2.2.1 + (1 : Int)) ∧
            ((I ((x.1 / (((List.length (List.getD g.2.2.1 (Int.toNat x.2.2.1) ([] : List Int))) : Nat) : Int)), ((x.2.1 ++ [(List.getD (List.getD g.2.2.1 (Int.toNat x.2.2.1) ([] : List Int)) (Int.toNat (x.1 % (((List.length (List.getD g.2.2.1 (Int.toNat x.2.2.1) ([] : List Int))) : Nat) : Int))) (0 : Int))]), ((x.2.2.1 + (1 : Int)), ())))) ∧
            ((μ ((x.1 / (((List.length (List.getD g.2.2.1 (Int.toNat x.2.2.1) ([] : List Int))) : Nat) : Int)), ((x.2.1 ++ [(List.getD (List.getD g.2.2.1 (Int.toNat x.2.2.1) ([] : List Int)) (Int.toNat (x.1 % (((List.length (List.getD g.2.2.1 (Int.toNat x.2.2.1) ([] : List Int))) : Nat) : Int))) (0 : Int))]), ((x.2.2.1 + (1 : Int)), ())))) < (μ x)))))))))))) ∧
          (((decide ((List.getD g.1 (Int.toNat x.2.2.1) (0 : Int)) = player)) = false) →
            (((((((List.length x.2.1) + (List.length [(-(1 : Int))])) : Nat) : Int) * (((8 : Nat) : Nat) : Int)) ≤ (140737488355328 : Int)) ∧
            (inK Go.IntKind.i64 (x.2.2.1 + (1 : Int)) ∧
            ((I (x.1, ((x.2.1 ++ [(-(1 : Int))]), ((x.2.2.1 + (1 : Int)), ())))) ∧
            ((μ (x.1, ((x.2.1 ++ [(-(1 : Int))]), ((x.2.2.1 + (1 : Int)), ())))) < (μ x))))))))) ∧
        (((decide (x.2.2.1 < (((List.length g.1) : Nat) : Int))) = false) →
          (R x.2.1))))))) : CallP Try.prog tT 25 [.d (.st (.pair (.sl (.int .i64)) (.pair (.sl (.int .i64)) (.pair (.sl (.sl (.int .i64))) .unit)))) g, .d (.int .i64) player, .d (.int .i64) n] (.sl (.int .i64)) r :=
  callP_of (cx := cx25) mixed tab_ok Try.func25 ⟨fun _ _ => by kernel_rfl⟩ Try.ntmps25 rfl fun wf => by rw [vc25_eq]; exact h (fun x => x = r) (fun _ => Iff.rfl) (wf.1 rfl) (wf.2.1 rfl) (wf.2.2.1 rfl)
/- foresight/foresightlaw25.play -/
def cx22 : Cx := { T := tT, own := [10], nt := 23, frz := [], loops := [] }
theorem vc22_eq (g : (Ty.T (.st (.pair (.sl (.int .i64)) (.pair (.sl (.int .i64)) (.pair (.sl (.sl (.int .i64))) .unit)))))) (player : (Ty.T (.int .i64))) (own : (Ty.T (.sl (.int .i64)))) (other : (Ty.T (.sl (.int .i64)))) (from_ : (Ty.T (.int .i64))) (R : Ty.T (.st (.pair (.sl (.int .i64)) (.pair (.sl (.int .i64)) .unit))) → Prop) : vcFn Try.prog cx22 Try.f22 [.d (.st (.pair (.sl (.int .i64)) (.pair (.sl (.int .i64)) (.pair (.sl (.sl (.int .i64))) .unit)))) g, .d (.int .i64) player, .d (.sl (.int .i64)) own, .d (.sl (.int .i64)) other, .d (.int .i64) from_] (.st (.pair (.sl (.int .i64)) (.pair (.sl (.int .i64)) .unit))) R = (
    ((((decide (player = (0 : Int))) = true) →
      ∃ r : ((List Int) × ((List Int) × Unit)),
      (CallP Try.prog tT (11 : Nat) [(AV.d (Ty.st (Ty.pair (Ty.sl (Ty.int Go.IntKind.i64)) (Ty.pair (Ty.sl (Ty.int Go.IntKind.i64)) (Ty.pair (Ty.sl (Ty.sl (Ty.int Go.IntKind.i64))) Ty.unit)))) g), (AV.d (Ty.sl (Ty.int Go.IntKind.i64)) own), (AV.d (Ty.sl (Ty.int Go.IntKind.i64)) other), (AV.d (Ty.int Go.IntKind.i64) from_)] (Ty.st (Ty.pair (Ty.sl (Ty.int Go.IntKind.i64)) (Ty.pair (Ty.sl (Ty.int Go.IntKind.i64)) Ty.unit))) r ∧
      (R (r.1, (r.2.1, ()))))) ∧
    (((decide (player = (0 : Int))) = false) →
      ∃ r : ((List Int) × ((List Int) × Unit)),
      (CallP Try.prog tT (11 : Nat) [(AV.d (Ty.st (Ty.pair (Ty.sl (Ty.int Go.IntKind.i64)) (Ty.pair (Ty.sl (Ty.int Go.IntKind.i64)) (Ty.pair (Ty.sl (Ty.sl (Ty.int Go.IntKind.i64))) Ty.unit)))) g), (AV.d (Ty.sl (Ty.int Go.IntKind.i64)) other), (AV.d (Ty.sl (Ty.int Go.IntKind.i64)) own), (AV.d (Ty.int Go.IntKind.i64) from_)] (Ty.st (Ty.pair (Ty.sl (Ty.int Go.IntKind.i64)) (Ty.pair (Ty.sl (Ty.int Go.IntKind.i64)) Ty.unit))) r ∧
      (R (r.1, (r.2.1, ()))))))) := by kernel_rfl
theorem of22 (g : (Ty.T (.st (.pair (.sl (.int .i64)) (.pair (.sl (.int .i64)) (.pair (.sl (.sl (.int .i64))) .unit)))))) (player : (Ty.T (.int .i64))) (own : (Ty.T (.sl (.int .i64)))) (other : (Ty.T (.sl (.int .i64)))) (from_ : (Ty.T (.int .i64))) (r : Ty.T (.st (.pair (.sl (.int .i64)) (.pair (.sl (.int .i64)) .unit)))) (h : ∀ R : Ty.T (.st (.pair (.sl (.int .i64)) (.pair (.sl (.int .i64)) .unit))) → Prop, (∀ x, R x ↔ x = r) → WF (.st (.pair (.sl (.int .i64)) (.pair (.sl (.int .i64)) (.pair (.sl (.sl (.int .i64))) .unit)))) g → WF (.int .i64) player → WF (.sl (.int .i64)) own → WF (.sl (.int .i64)) other → WF (.int .i64) from_ → 
    ((((decide (player = (0 : Int))) = true) →
      ∃ r : ((List Int) × ((List Int) × Unit)),
      (CallP Try.prog tT (11 : Nat) [(AV.d (Ty.st (Ty.pair (Ty.sl (Ty.int Go.IntKind.i64)) (Ty.pair (Ty.sl (Ty.int Go.IntKind.i64)) (Ty.pair (Ty.sl (Ty.sl (Ty.int Go.IntKind.i64))) Ty.unit)))) g), (AV.d (Ty.sl (Ty.int Go.IntKind.i64)) own), (AV.d (Ty.sl (Ty.int Go.IntKind.i64)) other), (AV.d (Ty.int Go.IntKind.i64) from_)] (Ty.st (Ty.pair (Ty.sl (Ty.int Go.IntKind.i64)) (Ty.pair (Ty.sl (Ty.int Go.IntKind.i64)) Ty.unit))) r ∧
      (R (r.1, (r.2.1, ()))))) ∧
    (((decide (player = (0 : Int))) = false) →
      ∃ r : ((List Int) × ((List Int) × Unit)),
      (CallP Try.prog tT (11 : Nat) [(AV.d (Ty.st (Ty.pair (Ty.sl (Ty.int Go.IntKind.i64)) (Ty.pair (Ty.sl (Ty.int Go.IntKind.i64)) (Ty.pair (Ty.sl (Ty.sl (Ty.int Go.IntKind.i64))) Ty.unit)))) g), (AV.d (Ty.sl (Ty.int Go.IntKind.i64)) other), (AV.d (Ty.sl (Ty.int Go.IntKind.i64)) own), (AV.d (Ty.int Go.IntKind.i64) from_)] (Ty.st (Ty.pair (Ty.sl (Ty.int Go.IntKind.i64)) (Ty.pair (Ty.sl (Ty.int Go.IntKind.i64)) Ty.unit))) r ∧
      (R (r.1, (r.2.1, ()))))))) : CallP Try.prog tT 22 [.d (.st (.pair (.sl (.int .i64)) (.pair (.sl (.int .i64)) (.pair (.sl (.sl (.int .i64))) .unit)))) g, .d (.int .i64) player, .d (.sl (.int .i64)) own, .d (.sl (.int .i64)) other, .d (.int .i64) from_] (.st (.pair (.sl (.int .i64)) (.pair (.sl (.int .i64)) .unit))) r :=
  callP_of (cx := cx22) mixed tab_ok Try.func22 ⟨fun _ _ => by kernel_rfl⟩ Try.ntmps22 rfl fun wf => by rw [vc22_eq]; exact h (fun x => x = r) (fun _ => Iff.rfl) (wf.1 rfl) (wf.2.1 rfl) (wf.2.2.1 rfl) (wf.2.2.2.1 rfl) (wf.2.2.2.2.1 rfl)
/- foresight/foresightlaw25.StrategyPlays -/
def cx4 : Cx := { T := tT, own := [68, 15], nt := 138, frz := [(13, [.box 15 (.st (.pair (.sl (.int .i64)) (.pair (.sl (.int .i64)) .unit)))]), (14, [.box 15 (.st (.pair (.sl (.int .i64)) (.pair (.sl (.int .i64)) .unit)))]), (21, [.box 15 (.st (.pair (.sl (.int .i64)) (.pair (.sl (.int .i64)) .unit)))])], loops := [(10, [.val 14 (.int .i64)]), (18, [.own 16 100016 3 (.int .i64), .val 17 (.int .i64)])] }
theorem vc4_eq (g : (Ty.T (.st (.pair (.sl (.int .i64)) (.pair (.sl (.int .i64)) (.pair (.sl (.sl (.int .i64))) .unit)))))) (second : (Ty.T .bool)) (set_ : (Ty.T (.sl .bool))) (s : (Ty.T (.sl (.int .i64)))) (picks : (Ty.T (.sl (.int .u8)))) (R : Ty.T .bool → Prop) : vcFn Try.prog cx4 Try.f4 [.d (.st (.pair (.sl (.int .i64)) (.pair (.sl (.int .i64)) (.pair (.sl (.sl (.int .i64))) .unit)))) g, .d .bool second, .d (.sl .bool) set_, .d (.sl (.int .i64)) s, .d (.sl (.int .u8)) picks] .bool R = (
    ∃ r : Bool,
    (CallP Try.prog tT (9 : Nat) [] Ty.bool r ∧
    ∃ r1 : Bool,
    (CallP Try.prog tT (20 : Nat) [(AV.d (Ty.st (Ty.pair (Ty.sl (Ty.int Go.IntKind.i64)) (Ty.pair (Ty.sl (Ty.int Go.IntKind.i64)) (Ty.pair (Ty.sl (Ty.sl (Ty.int Go.IntKind.i64))) Ty.unit)))) g), (AV.d (Ty.sl Ty.bool) set_), (AV.d (Ty.sl (Ty.int Go.IntKind.i64)) s)] Ty.bool r1 ∧
    ((((!r1) = true) →
      (R r)) ∧
    (((!r1) = false) →
      ∃ r2 : Int,
      (CallP Try.prog tT (21 : Nat) [(AV.d Ty.bool second)] (Ty.int Go.IntKind.i64) r2 ∧
      ∃ r3 : Bool,
      (CallP Try.prog tT (13 : Nat) [(AV.d (Ty.st (Ty.pair (Ty.sl (Ty.int Go.IntKind.i64)) (Ty.pair (Ty.sl (Ty.int Go.IntKind.i64)) (Ty.pair (Ty.sl (Ty.sl (Ty.int Go.IntKind.i64))) Ty.unit)))) g), (AV.d (Ty.int Go.IntKind.i64) r2), (AV.d (Ty.sl Ty.bool) set_), (AV.d (Ty.sl (Ty.int Go.IntKind.i64)) s)] Ty.bool r3 ∧
      ((((!r3) = true) →
        ∃ r4 : Bool,
        (((r = true) →
          (((r = true) ∧
          ((r = true) ∧
          ((r = true) ∧
          (r = true)))) ∧
          CallP Try.prog tT (15 : Nat) [(AV.d (Ty.st (Ty.pair (Ty.sl (Ty.int Go.IntKind.i64)) (Ty.pair (Ty.sl (Ty.int Go.IntKind.i64)) (Ty.pair (Ty.sl (Ty.sl (Ty.int Go.IntKind.i64))) Ty.unit)))) g), (AV.d (Ty.int Go.IntKind.i64) r2), (AV.d (Ty.sl Ty.bool) set_), (AV.d (Ty.sl (Ty.int Go.IntKind.i64)) s)] Ty.bool r4)) ∧
        (((r = true) →
          (r = true)) ∧
        (((r = true) →
          (r = true)) ∧
        (R (selB r (!r4) false)))))) ∧
      (((!r3) = false) →
        ∃ r4 : Bool,
        (CallP Try.prog tT (15 : Nat) [(AV.d (Ty.st (Ty.pair (Ty.sl (Ty.int Go.IntKind.i64)) (Ty.pair (Ty.sl (Ty.int Go.IntKind.i64)) (Ty.pair (Ty.sl (Ty.sl (Ty.int Go.IntKind.i64))) Ty.unit)))) g), (AV.d (Ty.int Go.IntKind.i64) r2), (AV.d (Ty.sl Ty.bool) set_), (AV.d (Ty.sl (Ty.int Go.IntKind.i64)) s)] Ty.bool r4 ∧
        ∃ I : ((Int × Unit) → Prop),
        ∃ μ : ((Int × Unit) → Nat),
        ((I ((0 : Int), ())) ∧
        ∀ x : (Int × Unit),
        (WF (Ty.pair (Ty.int Go.IntKind.i64) Ty.unit) x →
          ((I x) →
            ((((decide (x.1 < (((List.length set_) : Nat) : Int))) = true) →
              ((((0 : Int) ≤ x.1) ∧
              (x.1 < (((List.length set_) : Nat) : Int))) ∧
              ((((!(List.getD set_ (Int.toNat x.1) false)) = true) →
                (inK Go.IntKind.i64 (x.1 + (1 : Int)) ∧
                ((I ((x.1 + (1 : Int)), ())) ∧
                ((μ ((x.1 + (1 : Int)), ())) < (μ x))))) ∧
              (((!(List.getD set_ (Int.toNat x.1) false)) = false) →
                (inK Go.IntKind.i64 ((1 : Int) - r2) ∧
                ∃ r5 : (List Int),
                (CallP Try.prog tT (23 : Nat) [(AV.d (Ty.st (Ty.pair (Ty.sl (Ty.int Go.IntKind.i64)) (Ty.pair (Ty.sl (Ty.int Go.IntKind.i64)) (Ty.pair (Ty.sl (Ty.sl (Ty.int Go.IntKind.i64))) Ty.unit)))) g), (AV.d (Ty.int Go.IntKind.i64) ((1 : Int) - r2)), (AV.d (Ty.sl (Ty.int Go.IntKind.u8)) picks)] (Ty.sl (Ty.int Go.IntKind.i64)) r5 ∧
                ∃ r6 : ((List Int) × ((List Int) × Unit)),
                (CallP Try.prog tT (22 : Nat) [(AV.d (Ty.st (Ty.pair (Ty.sl (Ty.int Go.IntKind.i64)) (Ty.pair (Ty.sl (Ty.int Go.IntKind.i64)) (Ty.pair (Ty.sl (Ty.sl (Ty.int Go.IntKind.i64))) Ty.unit)))) g), (AV.d (Ty.int Go.IntKind.i64) r2), (AV.d (Ty.sl (Ty.int Go.IntKind.i64)) s), (AV.d (Ty.sl (Ty.int Go.IntKind.i64)) r5), (AV.d (Ty.int Go.IntKind.i64) x.1)] (Ty.st (Ty.pair (Ty.sl (Ty.int Go.IntKind.i64)) (Ty.pair (Ty.sl (Ty.int Go.IntKind.i64)) Ty.unit))) r6 ∧
                (((((((List.length ([] : List Int)) + (List.length r6.1)) : Nat) : Int) * (((8 : Nat) : Nat) : Int)) ≤ (140737488355328 : Int)) ∧
                (((((((List.length (([] : List Int) ++ r6.1)) + (List.length r6.2.1)) : Nat) : Int) * (((8 : Nat) : Nat) : Int)) ≤ (140737488355328 : Int)) ∧
                ((((!(decide ((((List.length r6.2.1) : Nat) : Int) = (0 : Int)))) = true) →
                  ((!(decide ((((List.length r6.2.1) : Nat) : Int) = (0 : Int)))) = true)) ∧
                ((((!(decide ((((List.length r6.2.1) : Nat) : Int) = (0 : Int)))) = true) →
                  ((!(decide ((((List.length r6.2.1) : Nat) : Int) = (0 : Int)))) = true)) ∧
                ((((!(decide ((((List.length r6.2.1) : Nat) : Int) = (0 : Int)))) = true) →
                  (((!(decide ((((List.length r6.2.1) : Nat) : Int) = (0 : Int)))) = true) ∧
                  ((!(decide ((((List.length r6.2.1) : Nat) : Int) = (0 : Int)))) = true))) ∧
                ((((decide ((((List.length r6.2.1) : Nat) : Int) = (0 : Int))) = false) →
                  ((!(decide ((((List.length r6.2.1) : Nat) : Int) = (0 : Int)))) = true)) ∧
                ((((!(selB (decide ((((List.length r6.2.1) : Nat) : Int) = (0 : Int))) true (decide ((((List.length set_) : Nat) : Int) < (((List.length ((([] : List Int) ++ r6.1) ++ r6.2.1)) : Nat) : Int))))) = true) →
                  (((!(selB (decide ((((List.length r6.2.1) : Nat) : Int) = (0 : Int))) true (decide ((((List.length set_) : Nat) : Int) < (((List.length ((([] : List Int) ++ r6.1) ++ r6.2.1)) : Nat) : Int))))) = true) ∧
                  (((0 : Int) ≤ (0 : Int)) ∧
                  ((0 : Int) < (((List.length ((([] : List Int) ++ r6.1) ++ r6.2.1)) : Nat) : Int))))) ∧
                ((((!(selB (decide ((((List.length r6.2.1) : Nat) : Int) = (0 : Int))) true (decide ((((List.length set_) : Nat) : Int) < (((List.length ((([] : List Int) ++ r6.1) ++ r6.2.1)) : Nat) : Int))))) = true) →
                  ((!(selB (decide ((((List.length r6.2.1) : Nat) : Int) = (0 : Int))) true (decide ((((List.length set_) : Nat) : Int) < (((List.length ((([] : List Int) ++ r6.1) ++ r6.2.1)) : Nat) : Int))))) = true)) ∧
                ((((!(selB (decide ((((List.length r6.2.1) : Nat) : Int) = (0 : Int))) true (decide ((((List.length set_) : Nat) : Int) < (((List.length ((([] : List Int) ++ r6.1) ++ r6.2.1)) : Nat) : Int))))) = true) →
                  (((!(selB (decide ((((List.length r6.2.1) : Nat) : Int) = (0 : Int))) true (decide ((((List.length set_) : Nat) : Int) < (((List.length ((([] : List Int) ++ r6.1) ++ r6.2.1)) : Nat) : Int))))) = true) ∧
                  ((!(selB (decide ((((List.length r6.2.1) : Nat) : Int) = (0 : Int))) true (decide ((((List.length set_) : Nat) : Int) < (((List.length ((([] : List Int) ++ r6.1) ++ r6.2.1)) : Nat) : Int))))) = true))) ∧
                ((((selB (decide ((((List.length r6.2.1) : Nat) : Int) = (0 : Int))) true (decide ((((List.length set_) : Nat) : Int) < (((List.length ((([] : List Int) ++ r6.1) ++ r6.2.1)) : Nat) : Int)))) = false) →
                  ((!(selB (decide ((((List.length r6.2.1) : Nat) : Int) = (0 : Int))) true (decide ((((List.length set_) : Nat) : Int) < (((List.length ((([] : List Int) ++ r6.1) ++ r6.2.1)) : Nat) : Int))))) = true)) ∧
                ((((selB (selB (decide ((((List.length r6.2.1) : Nat) : Int) = (0 : Int))) true (decide ((((List.length set_) : Nat) : Int) < (((List.length ((([] : List Int) ++ r6.1) ++ r6.2.1)) : Nat) : Int)))) true (!(decide ((List.getD ((([] : List Int) ++ r6.1) ++ r6.2.1) (Int.toNat (0 : Int)) (0 : Int)) = x.1)))) = true) →
                  (R false)) ∧
                (((selB (selB (decide ((((List.length r6.2.1) : Nat) : Int) = (0 : Int))) true (decide ((((List.length set_) : Nat) : Int) < (((List.length ((([] : List Int) ++ r6.1) ++ r6.2.1)) : Nat) : Int)))) true (!(decide ((List.getD ((([] : List Int) ++ r6.1) ++ r6.2.1) (Int.toNat (0 : Int)) (0 : Int)) = x.1)))) = false) →
                  ∃ I1 : (((List Int) × (Int × Unit)) → Prop),
                  ∃ μ1 : (((List Int) × (Int × Unit)) → Nat),
                  ((I1 (((([] : List Int) ++ r6.1) ++ r6.2.1), ((0 : Int), ()))) ∧
                  ∀ x1 : ((List Int) × (Int × Unit)),
                  (WF (Ty.pair (Ty.sl (Ty.int Go.IntKind.i64)) (Ty.pair (Ty.int Go.IntKind.i64) Ty.unit)) x1 →
                    ((I1 x1) →
                      ((((decide (x1.2.1 < (((List.length x1.1) : Nat) : Int))) = true) →
                        ((((0 : Int) ≤ x1.2.1) ∧
                        (x1.2.1 < (((List.length x1.1) : Nat) : Int))) ∧
                        ((((!(decide ((List.getD x1.1 (Int.toNat x1.2.1) (0 : Int)) < (0 : Int)))) = true) →
                          ((((!(decide ((List.getD x1.1 (Int.toNat x1.2.1) (0 : Int)) < (0 : Int)))) = true) ∧
                          ((!(decide ((List.getD x1.1 (Int.toNat x1.2.1) (0 : Int)) < (0 : Int)))) = true)) ∧
                          (((0 : Int) ≤ x1.2.1) ∧
                          (x1.2.1 < (((List.length x1.1) : Nat) : Int))))) ∧
                        ((((!(decide ((List.getD x1.1 (Int.toNat x1.2.1) (0 : Int)) < (0 : Int)))) = true) →
                          ((!(decide ((List.getD x1.1 (Int.toNat x1.2.1) (0 : Int)) < (0 : Int)))) = true)) ∧
                        ((((!(decide ((List.getD x1.1 (Int.toNat x1.2.1) (0 : Int)) < (0 : Int)))) = true) →
                          ((!(decide ((List.getD x1.1 (Int.toNat x1.2.1) (0 : Int)) < (0 : Int)))) = true)) ∧
                        ((((!(decide ((List.getD x1.1 (Int.toNat x1.2.1) (0 : Int)) < (0 : Int)))) = true) →
                          (((!(decide ((List.getD x1.1 (Int.toNat x1.2.1) (0 : Int)) < (0 : Int)))) = true) ∧
                          ((!(decide ((List.getD x1.1 (Int.toNat x1.2.1) (0 : Int)) < (0 : Int)))) = true))) ∧
                        ((((decide ((List.getD x1.1 (Int.toNat x1.2.1) (0 : Int)) < (0 : Int))) = false) →
                          ((!(decide ((List.getD x1.1 (Int.toNat x1.2.1) (0 : Int)) < (0 : Int)))) = true)) ∧
                        ((((!(selB (decide ((List.getD x1.1 (Int.toNat x1.2.1) (0 : Int)) < (0 : Int))) true (decide ((((List.length set_) : Nat) : Int) ≤ (List.getD x1.1 (Int.toNat x1.2.1) (0 : Int)))))) = true) →
                          ((((!(selB (decide ((List.getD x1.1 (Int.toNat x1.2.1) (0 : Int)) < (0 : Int))) true (decide ((((List.length set_) : Nat) : Int) ≤ (List.getD x1.1 (Int.toNat x1.2.1) (0 : Int)))))) = true) ∧
                          ((!(selB (decide ((List.getD x1.1 (Int.toNat x1.2.1) (0 : Int)) < (0 : Int))) true (decide ((((List.length set_) : Nat) : Int) ≤ (List.getD x1.1 (Int.toNat x1.2.1) (0 : Int)))))) = true)) ∧
                          (((0 : Int) ≤ x1.2.1) ∧
                          (x1.2.1 < (((List.length x1.1) : Nat) : Int))))) ∧
                        ((((!(selB (decide ((List.getD x1.1 (Int.toNat x1.2.1) (0 : Int)) < (0 : Int))) true (decide ((((List.length set_) : Nat) : Int) ≤ (List.getD x1.1 (Int.toNat x1.2.1) (0 : Int)))))) = true) →
                          ((!(selB (decide ((List.getD x1.1 (Int.toNat x1.2.1) (0 : Int)) < (0 : Int))) true (decide ((((List.length set_) : Nat) : Int) ≤ (List.getD x1.1 (Int.toNat x1.2.1) (0 : Int)))))) = true)) ∧
                        ((((!(selB (decide ((List.getD x1.1 (Int.toNat x1.2.1) (0 : Int)) < (0 : Int))) true (decide ((((List.length set_) : Nat) : Int) ≤ (List.getD x1.1 (Int.toNat x1.2.1) (0 : Int)))))) = true) →
                          ((((!(selB (decide ((List.getD x1.1 (Int.toNat x1.2.1) (0 : Int)) < (0 : Int))) true (decide ((((List.length set_) : Nat) : Int) ≤ (List.getD x1.1 (Int.toNat x1.2.1) (0 : Int)))))) = true) ∧
                          ((!(selB (decide ((List.getD x1.1 (Int.toNat x1.2.1) (0 : Int)) < (0 : Int))) true (decide ((((List.length set_) : Nat) : Int) ≤ (List.getD x1.1 (Int.toNat x1.2.1) (0 : Int)))))) = true)) ∧
                          (((0 : Int) ≤ (List.getD x1.1 (Int.toNat x1.2.1) (0 : Int))) ∧
                          ((List.getD x1.1 (Int.toNat x1.2.1) (0 : Int)) < (((List.length set_) : Nat) : Int))))) ∧
                        ((((!(selB (decide ((List.getD x1.1 (Int.toNat x1.2.1) (0 : Int)) < (0 : Int))) true (decide ((((List.length set_) : Nat) : Int) ≤ (List.getD x1.1 (Int.toNat x1.2.1) (0 : Int)))))) = true) →
                          ((!(selB (decide ((List.getD x1.1 (Int.toNat x1.2.1) (0 : Int)) < (0 : Int))) true (decide ((((List.length set_) : Nat) : Int) ≤ (List.getD x1.1 (Int.toNat x1.2.1) (0 : Int)))))) = true)) ∧
                        ((((!(selB (decide ((List.getD x1.1 (Int.toNat x1.2.1) (0 : Int)) < (0 : Int))) true (decide ((((List.length set_) : Nat) : Int) ≤ (List.getD x1.1 (Int.toNat x1.2.1) (0 : Int)))))) = true) →
                          ((!(selB (decide ((List.getD x1.1 (Int.toNat x1.2.1) (0 : Int)) < (0 : Int))) true (decide ((((List.length set_) : Nat) : Int) ≤ (List.getD x1.1 (Int.toNat x1.2.1) (0 : Int)))))) = true)) ∧
                        ((((selB (decide ((List.getD x1.1 (Int.toNat x1.2.1) (0 : Int)) < (0 : Int))) true (decide ((((List.length set_) : Nat) : Int) ≤ (List.getD x1.1 (Int.toNat x1.2.1) (0 : Int))))) = false) →
                          ((!(selB (decide ((List.getD x1.1 (Int.toNat x1.2.1) (0 : Int)) < (0 : Int))) true (decide ((((List.length set_) : Nat) : Int) ≤ (List.getD x1.1 (Int.toNat x1.2.1) (0 : Int)))))) = true)) ∧
                        ((((selB (selB (decide ((List.getD x1.1 (Int.toNat x1.2.1) (0 : Int)) < (0 : Int))) true (decide ((((List.length set_) : Nat) : Int) ≤ (List.getD x1.1 (Int.toNat x1.2.1) (0 : Int))))) true (!(List.getD set_ (Int.toNat (List.getD x1.1 (Int.toNat x1.2.1) (0 : Int))) false))) = true) →
                          (R false)) ∧
                        (((selB (selB (decide ((List.getD x1.1 (Int.toNat x1.2.1) (0 : Int)) < (0 : Int))) true (decide ((((List.length set_) : Nat) : Int) ≤ (List.getD x1.1 (Int.toNat x1.2.1) (0 : Int))))) true (!(List.getD set_ (Int.toNat (List.getD x1.1 (Int.toNat x1.2.1) (0 : Int))) false))) = false) →
                          (inK Go.IntKind.i64 (x1.2.1 + (1 : Int)) ∧
                          ((I1 (x1.1, ((x1.2.1 + (1 : Int)), ()))) ∧
                          ((μ1 (x1.1, ((x1.2.1 + (1 : Int)), ()))) < (μ1 x1))))))))))))))))))) ∧
                      (((decide (x1.2.1 < (((List.length x1.1) : Nat) : Int))) = false) →
                        ∃ r7 : Int,
                        (CallP Try.prog tT (18 : Nat) [(AV.d (Ty.st (Ty.pair (Ty.sl (Ty.int Go.IntKind.i64)) (Ty.pair (Ty.sl (Ty.int Go.IntKind.i64)) (Ty.pair (Ty.sl (Ty.sl (Ty.int Go.IntKind.i64))) Ty.unit)))) g), (AV.d (Ty.st (Ty.pair (Ty.sl (Ty.int Go.IntKind.i64)) (Ty.pair (Ty.sl (Ty.int Go.IntKind.i64)) Ty.unit))) (r6.1, (r6.2.1, ())))] (Ty.int Go.IntKind.i64) r7 ∧
                        ((((!(decide (r7 < (0 : Int)))) = true) →
                          ((!(decide (r7 < (0 : Int)))) = true)) ∧
                        ∃ r8 : Int,
                        (((((!(decide (r7 < (0 : Int)))) && r4) = true) →
                          (((((!(decide (r7 < (0 : Int)))) && r4) = true) ∧
                          (((!(decide (r7 < (0 : Int)))) && r4) = true)) ∧
                          CallP Try.prog tT (18 : Nat) [(AV.d (Ty.st (Ty.pair (Ty.sl (Ty.int Go.IntKind.i64)) (Ty.pair (Ty.sl (Ty.int Go.IntKind.i64)) (Ty.pair (Ty.sl (Ty.sl (Ty.int Go.IntKind.i64))) Ty.unit)))) g), (AV.d (Ty.st (Ty.pair (Ty.sl (Ty.int Go.IntKind.i64)) (Ty.pair (Ty.sl (Ty.int Go.IntKind.i64)) Ty.unit))) (r6.1, (r6.2.1, ())))] (Ty.int Go.IntKind.i64) r8)) ∧
                        (((((!(decide (r7 < (0 : Int)))) && r4) = true) →
                          ((((!(decide (r7 < (0 : Int)))) && r4) = true) ∧
                          (((!(decide (r7 < (0 : Int)))) && r4) = true))) ∧
                        ((((!(decide (r7 < (0 : Int)))) = true) →
                          (((!(decide (r7 < (0 : Int)))) = true) ∧
                          ((r4 = true) →
                            (((!(decide (r7 < (0 : Int)))) && r4) = true)))) ∧
                        ((((decide (r7 < (0 : Int))) = false) →
                          ((!(decide (r7 < (0 : Int)))) = true)) ∧
                        ((((selB (decide (r7 < (0 : Int))) true (selB r4 (!(decide (r8 = r2))) false)) = true) →
                          (R false)) ∧
                        (((selB (decide (r7 < (0 : Int))) true (selB r4 (!(decide (r8 = r2))) false)) = false) →
                          (inK Go.IntKind.i64 (x.1 + (1 : Int)) ∧
                          ((I ((x.1 + (1 : Int)), ())) ∧
                          ((μ ((x.1 + (1 : Int)), ())) < (μ x)))))))))))))))))))))))))))))))))))) ∧
            (((decide (x.1 < (((List.length set_) : Nat) : Int))) = false) →
              (R r)))))))))))))))) := by kernel_rfl
theorem of4 (g : (Ty.T (.st (.pair (.sl (.int .i64)) (.pair (.sl (.int .i64)) (.pair (.sl (.sl (.int .i64))) .unit)))))) (second : (Ty.T .bool)) (set_ : (Ty.T (.sl .bool))) (s : (Ty.T (.sl (.int .i64)))) (picks : (Ty.T (.sl (.int .u8)))) (r : Ty.T .bool) (h : ∀ R : Ty.T .bool → Prop, (∀ x, R x ↔ x = r) → WF (.st (.pair (.sl (.int .i64)) (.pair (.sl (.int .i64)) (.pair (.sl (.sl (.int .i64))) .unit)))) g → WF .bool second → WF (.sl .bool) set_ → WF (.sl (.int .i64)) s → WF (.sl (.int .u8)) picks → 
    ∃ r : Bool,
    (CallP Try.prog tT (9 : Nat) [] Ty.bool r ∧
    ∃ r1 : Bool,
    (CallP Try.prog tT (20 : Nat) [(AV.d (Ty.st (Ty.pair (Ty.sl (Ty.int Go.IntKind.i64)) (Ty.pair (Ty.sl (Ty.int Go.IntKind.i64)) (Ty.pair (Ty.sl (Ty.sl (Ty.int Go.IntKind.i64))) Ty.unit)))) g), (AV.d (Ty.sl Ty.bool) set_), (AV.d (Ty.sl (Ty.int Go.IntKind.i64)) s)] Ty.bool r1 ∧
    ((((!r1) = true) →
      (R r)) ∧
    (((!r1) = false) →
      ∃ r2 : Int,
      (CallP Try.prog tT (21 : Nat) [(AV.d Ty.bool second)] (Ty.int Go.IntKind.i64) r2 ∧
      ∃ r3 : Bool,
      (CallP Try.prog tT (13 : Nat) [(AV.d (Ty.st (Ty.pair (Ty.sl (Ty.int Go.IntKind.i64)) (Ty.pair (Ty.sl (Ty.int Go.IntKind.i64)) (Ty.pair (Ty.sl (Ty.sl (Ty.int Go.IntKind.i64))) Ty.unit)))) g), (AV.d (Ty.int Go.IntKind.i64) r2), (AV.d (Ty.sl Ty.bool) set_), (AV.d (Ty.sl (Ty.int Go.IntKind.i64)) s)] Ty.bool r3 ∧
      ((((!r3) = true) →
        ∃ r4 : Bool,
        (((r = true) →
          (((r = true) ∧
          ((r = true) ∧
          ((r = true) ∧
          (r = true)))) ∧
          CallP Try.prog tT (15 : Nat) [(AV.d (Ty.st (Ty.pair (Ty.sl (Ty.int Go.IntKind.i64)) (Ty.pair (Ty.sl (Ty.int Go.IntKind.i64)) (Ty.pair (Ty.sl (Ty.sl (Ty.int Go.IntKind.i64))) Ty.unit)))) g), (AV.d (Ty.int Go.IntKind.i64) r2), (AV.d (Ty.sl Ty.bool) set_), (AV.d (Ty.sl (Ty.int Go.IntKind.i64)) s)] Ty.bool r4)) ∧
        (((r = true) →
          (r = true)) ∧
        (((r = true) →
          (r = true)) ∧
        (R (selB r (!r4) false)))))) ∧
      (((!r3) = false) →
        ∃ r4 : Bool,
        (CallP Try.prog tT (15 : Nat) [(AV.d (Ty.st (Ty.pair (Ty.sl (Ty.int Go.IntKind.i64)) (Ty.pair (Ty.sl (Ty.int Go.IntKind.i64)) (Ty.pair (Ty.sl (Ty.sl (Ty.int Go.IntKind.i64))) Ty.unit)))) g), (AV.d (Ty.int Go.IntKind.i64) r2), (AV.d (Ty.sl Ty.bool) set_), (AV.d (Ty.sl (Ty.int Go.IntKind.i64)) s)] Ty.bool r4 ∧
        ∃ I : ((Int × Unit) → Prop),
        ∃ μ : ((Int × Unit) → Nat),
        ((I ((0 : Int), ())) ∧
        ∀ x : (Int × Unit),
        (WF (Ty.pair (Ty.int Go.IntKind.i64) Ty.unit) x →
          ((I x) →
            ((((decide (x.1 < (((List.length set_) : Nat) : Int))) = true) →
              ((((0 : Int) ≤ x.1) ∧
              (x.1 < (((List.length set_) : Nat) : Int))) ∧
              ((((!(List.getD set_ (Int.toNat x.1) false)) = true) →
                (inK Go.IntKind.i64 (x.1 + (1 : Int)) ∧
                ((I ((x.1 + (1 : Int)), ())) ∧
                ((μ ((x.1 + (1 : Int)), ())) < (μ x))))) ∧
              (((!(List.getD set_ (Int.toNat x.1) false)) = false) →
                (inK Go.IntKind.i64 ((1 : Int) - r2) ∧
                ∃ r5 : (List Int),
                (CallP Try.prog tT (23 : Nat) [(AV.d (Ty.st (Ty.pair (Ty.sl (Ty.int Go.IntKind.i64)) (Ty.pair (Ty.sl (Ty.int Go.IntKind.i64)) (Ty.pair (Ty.sl (Ty.sl (Ty.int Go.IntKind.i64))) Ty.unit)))) g), (AV.d (Ty.int Go.IntKind.i64) ((1 : Int) - r2)), (AV.d (Ty.sl (Ty.int Go.IntKind.u8)) picks)] (Ty.sl (Ty.int Go.IntKind.i64)) r5 ∧
                ∃ r6 : ((List Int) × ((List Int) × Unit)),
                (CallP Try.prog tT (22 : Nat) [(AV.d (Ty.st (Ty.pair (Ty.sl (Ty.int Go.IntKind.i64)) (Ty.pair (Ty.sl (Ty.int Go.IntKind.i64)) (Ty.pair (Ty.sl (Ty.sl (Ty.int Go.IntKind.i64))) Ty.unit)))) g), (AV.d (Ty.int Go.IntKind.i64) r2), (AV.d (Ty.sl (Ty.int Go.IntKind.i64)) s), (AV.d (Ty.sl (Ty.int Go.IntKind.i64)) r5), (AV.d (Ty.int Go.IntKind.i64) x.1)] (Ty.st (Ty.pair (Ty.sl (Ty.int Go.IntKind.i64)) (Ty.pair (Ty.sl (Ty.int Go.IntKind.i64)) Ty.unit))) r6 ∧
                (((((((List.length ([] : List Int)) + (List.length r6.1)) : Nat) : Int) * (((8 : Nat) : Nat) : Int)) ≤ (140737488355328 : Int)) ∧
                (((((((List.length (([] : List Int) ++ r6.1)) + (List.length r6.2.1)) : Nat) : Int) * (((8 : Nat) : Nat) : Int)) ≤ (140737488355328 : Int)) ∧
                ((((!(decide ((((List.length r6.2.1) : Nat) : Int) = (0 : Int)))) = true) →
                  ((!(decide ((((List.length r6.2.1) : Nat) : Int) = (0 : Int)))) = true)) ∧
                ((((!(decide ((((List.length r6.2.1) : Nat) : Int) = (0 : Int)))) = true) →
                  ((!(decide ((((List.length r6.2.1) : Nat) : Int) = (0 : Int)))) = true)) ∧
                ((((!(decide ((((List.length r6.2.1) : Nat) : Int) = (0 : Int)))) = true) →
                  (((!(decide ((((List.length r6.2.1) : Nat) : Int) = (0 : Int)))) = true) ∧
                  ((!(decide ((((List.length r6.2.1) : Nat) : Int) = (0 : Int)))) = true))) ∧
                ((((decide ((((List.length r6.2.1) : Nat) : Int) = (0 : Int))) = false) →
                  ((!(decide ((((List.length r6.2.1) : Nat) : Int) = (0 : Int)))) = true)) ∧
                ((((!(selB (decide ((((List.length r6.2.1) : Nat) : Int) = (0 : Int))) true (decide ((((List.length set_) : Nat) : Int) < (((List.length ((([] : List Int) ++ r6.1) ++ r6.2.1)) : Nat) : Int))))) = true) →
                  (((!(selB (decide ((((List.length r6.2.1) : Nat) : Int) = (0 : Int))) true (decide ((((List.length set_) : Nat) : Int) < (((List.length ((([] : List Int) ++ r6.1) ++ r6.2.1)) : Nat) : Int))))) = true) ∧
                  (((0 : Int) ≤ (0 : Int)) ∧
                  ((0 : Int) < (((List.length ((([] : List Int) ++ r6.1) ++ r6.2.1)) : Nat) : Int))))) ∧
                ((((!(selB (decide ((((List.length r6.2.1) : Nat) : Int) = (0 : Int))) true (decide ((((List.length set_) : Nat) : Int) < (((List.length ((([] : List Int) ++ r6.1) ++ r6.2.1)) : Nat) : Int))))) = true) →
                  ((!(selB (decide ((((List.length r6.2.1) : Nat) : Int) = (0 : Int))) true (decide ((((List.length set_) : Nat) : Int) < (((List.length ((([] : List Int) ++ r6.1) ++ r6.2.1)) : Nat) : Int))))) = true)) ∧
                ((((!(selB (decide ((((List.length r6.2.1) : Nat) : Int) = (0 : Int))) true (decide ((((List.length set_) : Nat) : Int) < (((List.length ((([] : List Int) ++ r6.1) ++ r6.2.1)) : Nat) : Int))))) = true) →
                  (((!(selB (decide ((((List.length r6.2.1) : Nat) : Int) = (0 : Int))) true (decide ((((List.length set_) : Nat) : Int) < (((List.length ((([] : List Int) ++ r6.1) ++ r6.2.1)) : Nat) : Int))))) = true) ∧
                  ((!(selB (decide ((((List.length r6.2.1) : Nat) : Int) = (0 : Int))) true (decide ((((List.length set_) : Nat) : Int) < (((List.length ((([] : List Int) ++ r6.1) ++ r6.2.1)) : Nat) : Int))))) = true))) ∧
                ((((selB (decide ((((List.length r6.2.1) : Nat) : Int) = (0 : Int))) true (decide ((((List.length set_) : Nat) : Int) < (((List.length ((([] : List Int) ++ r6.1) ++ r6.2.1)) : Nat) : Int)))) = false) →
                  ((!(selB (decide ((((List.length r6.2.1) : Nat) : Int) = (0 : Int))) true (decide ((((List.length set_) : Nat) : Int) < (((List.length ((([] : List Int) ++ r6.1) ++ r6.2.1)) : Nat) : Int))))) = true)) ∧
                ((((selB (selB (decide ((((List.length r6.2.1) : Nat) : Int) = (0 : Int))) true (decide ((((List.length set_) : Nat) : Int) < (((List.length ((([] : List Int) ++ r6.1) ++ r6.2.1)) : Nat) : Int)))) true (!(decide ((List.getD ((([] : List Int) ++ r6.1) ++ r6.2.1) (Int.toNat (0 : Int)) (0 : Int)) = x.1)))) = true) →
                  (R false)) ∧
                (((selB (selB (decide ((((List.length r6.2.1) : Nat) : Int) = (0 : Int))) true (decide ((((List.length set_) : Nat) : Int) < (((List.length ((([] : List Int) ++ r6.1) ++ r6.2.1)) : Nat) : Int)))) true (!(decide ((List.getD ((([] : List Int) ++ r6.1) ++ r6.2.1) (Int.toNat (0 : Int)) (0 : Int)) = x.1)))) = false) →
                  ∃ I1 : (((List Int) × (Int × Unit)) → Prop),
                  ∃ μ1 : (((List Int) × (Int × Unit)) → Nat),
                  ((I1 (((([] : List Int) ++ r6.1) ++ r6.2.1), ((0 : Int), ()))) ∧
                  ∀ x1 : ((List Int) × (Int × Unit)),
                  (WF (Ty.pair (Ty.sl (Ty.int Go.IntKind.i64)) (Ty.pair (Ty.int Go.IntKind.i64) Ty.unit)) x1 →
                    ((I1 x1) →
                      ((((decide (x1.2.1 < (((List.length x1.1) : Nat) : Int))) = true) →
                        ((((0 : Int) ≤ x1.2.1) ∧
                        (x1.2.1 < (((List.length x1.1) : Nat) : Int))) ∧
                        ((((!(decide ((List.getD x1.1 (Int.toNat x1.2.1) (0 : Int)) < (0 : Int)))) = true) →
                          ((((!(decide ((List.getD x1.1 (Int.toNat x1.2.1) (0 : Int)) < (0 : Int)))) = true) ∧
                          ((!(decide ((List.getD x1.1 (Int.toNat x1.2.1) (0 : Int)) < (0 : Int)))) = true)) ∧
                          (((0 : Int) ≤ x1.2.1) ∧
                          (x1.2.1 < (((List.length x1.1) : Nat) : Int))))) ∧
                        ((((!(decide ((List.getD x1.1 (Int.toNat x1.2.1) (0 : Int)) < (0 : Int)))) = true) →
                          ((!(decide ((List.getD x1.1 (Int.toNat x1.2.1) (0 : Int)) < (0 : Int)))) = true)) ∧
                        ((((!(decide ((List.getD x1.1 (Int.toNat x1.2.1) (0 : Int)) < (0 : Int)))) = true) →
                          ((!(decide ((List.getD x1.1 (Int.toNat x1.2.1) (0 : Int)) < (0 : Int)))) = true)) ∧
                        ((((!(decide ((List.getD x1.1 (Int.toNat x1.2.1) (0 : Int)) < (0 : Int)))) = true) →
                          (((!(decide ((List.getD x1.1 (Int.toNat x1.2.1) (0 : Int)) < (0 : Int)))) = true) ∧
                          ((!(decide ((List.getD x1.1 (Int.toNat x1.2.1) (0 : Int)) < (0 : Int)))) = true))) ∧
                        ((((decide ((List.getD x1.1 (Int.toNat x1.2.1) (0 : Int)) < (0 : Int))) = false) →
                          ((!(decide ((List.getD x1.1 (Int.toNat x1.2.1) (0 : Int)) < (0 : Int)))) = true)) ∧
                        ((((!(selB (decide ((List.getD x1.1 (Int.toNat x1.2.1) (0 : Int)) < (0 : Int))) true (decide ((((List.length set_) : Nat) : Int) ≤ (List.getD x1.1 (Int.toNat x1.2.1) (0 : Int)))))) = true) →
                          ((((!(selB (decide ((List.getD x1.1 (Int.toNat x1.2.1) (0 : Int)) < (0 : Int))) true (decide ((((List.length set_) : Nat) : Int) ≤ (List.getD x1.1 (Int.toNat x1.2.1) (0 : Int)))))) = true) ∧
                          ((!(selB (decide ((List.getD x1.1 (Int.toNat x1.2.1) (0 : Int)) < (0 : Int))) true (decide ((((List.length set_) : Nat) : Int) ≤ (List.getD x1.1 (Int.toNat x1.2.1) (0 : Int)))))) = true)) ∧
                          (((0 : Int) ≤ x1.2.1) ∧
                          (x1.2.1 < (((List.length x1.1) : Nat) : Int))))) ∧
                        ((((!(selB (decide ((List.getD x1.1 (Int.toNat x1.2.1) (0 : Int)) < (0 : Int))) true (decide ((((List.length set_) : Nat) : Int) ≤ (List.getD x1.1 (Int.toNat x1.2.1) (0 : Int)))))) = true) →
                          ((!(selB (decide ((List.getD x1.1 (Int.toNat x1.2.1) (0 : Int)) < (0 : Int))) true (decide ((((List.length set_) : Nat) : Int) ≤ (List.getD x1.1 (Int.toNat x1.2.1) (0 : Int)))))) = true)) ∧
                        ((((!(selB (decide ((List.getD x1.1 (Int.toNat x1.2.1) (0 : Int)) < (0 : Int))) true (decide ((((List.length set_) : Nat) : Int) ≤ (List.getD x1.1 (Int.toNat x1.2.1) (0 : Int)))))) = true) →
                          ((((!(selB (decide ((List.getD x1.1 (Int.toNat x1.2.1) (0 : Int)) < (0 : Int))) true (decide ((((List.length set_) : Nat) : Int) ≤ (List.getD x1.1 (Int.toNat x1.2.1) (0 : Int)))))) = true) ∧
                          ((!(selB (decide ((List.getD x1.1 (Int.toNat x1.2.1) (0 : Int)) < (0 : Int))) true (decide ((((List.length set_) : Nat) : Int) ≤ (List.getD x1.1 (Int.toNat x1.2.1) (0 : Int)))))) = true)) ∧
                          (((0 : Int) ≤ (List.getD x1.1 (Int.toNat x1.2.1) (0 : Int))) ∧
                          ((List.getD x1.1 (Int.toNat x1.2.1) (0 : Int)) < (((List.length set_) : Nat) : Int))))) ∧
                        ((((!(selB (decide ((List.getD x1.1 (Int.toNat x1.2.1) (0 : Int)) < (0 : Int))) true (decide ((((List.length set_) : Nat) : Int) ≤ (List.getD x1.1 (Int.toNat x1.2.1) (0 : Int)))))) = true) →
                          ((!(selB (decide ((List.getD x1.1 (Int.toNat x1.2.1) (0 : Int)) < (0 : Int))) true (decide ((((List.length set_) : Nat) : Int) ≤ (List.getD x1.1 (Int.toNat x1.2.1) (0 : Int)))))) = true)) ∧
                        ((((!(selB (decide ((List.getD x1.1 (Int.toNat x1.2.1) (0 : Int)) < (0 : Int))) true (decide ((((List.length set_) : Nat) : Int) ≤ (List.getD x1.1 (Int.toNat x1.2.1) (0 : Int)))))) = true) →
                          ((!(selB (decide ((List.getD x1.1 (Int.toNat x1.2.1) (0 : Int)) < (0 : Int))) true (decide ((((List.length set_) : Nat) : Int) ≤ (List.getD x1.1 (Int.toNat x1.2.1) (0 : Int)))))) = true)) ∧
                        ((((selB (decide ((List.getD x1.1 (Int.toNat x1.2.1) (0 : Int)) < (0 : Int))) true (decide ((((List.length set_) : Nat) : Int) ≤ (List.getD x1.1 (Int.toNat x1.2.1) (0 : Int))))) = false) →
                          ((!(selB (decide ((List.getD x1.1 (Int.toNat x1.2.1) (0 : Int)) < (0 : Int))) true (decide ((((List.length set_) : Nat) : Int) ≤ (List.getD x1.1 (Int.toNat x1.2.1) (0 : Int)))))) = true)) ∧
                        ((((selB (selB (decide ((List.getD x1.1 (Int.toNat x1.2.1) (0 : Int)) < (0 : Int))) true (decide ((((List.length set_) : Nat) : Int) ≤ (List.getD x1.1 (Int.toNat x1.2.1) (0 : Int))))) true (!(List.getD set_ (Int.toNat (List.getD x1.1 (Int.toNat x1.2.1) (0 : Int))) false))) = true) →
                          (R false)) ∧
                        (((selB (selB (decide ((List.getD x1.1 (Int.toNat x1.2.1) (0 : Int)) < (0 : Int))) true (decide ((((List.length set_) : Nat) : Int) ≤ (List.getD x1.1 (Int.toNat x1.2.1) (0 : Int))))) true (!(List.getD set_ (Int.toNat (List.getD x1.1 (Int.toNat x1.2.1) (0 : Int))) false))) = false) →
                          (inK Go.IntKind.i64 (x1.2.1 + (1 : Int)) ∧
                          ((I1 (x1.1, ((x1.2.1 + (1 : Int)), ()))) ∧
                          ((μ1 (x1.1, ((x1.2.1 + (1 : Int)), ()))) < (μ1 x1))))))))))))))))))) ∧
                      (((decide (x1.2.1 < (((List.length x1.1) : Nat) : Int))) = false) →
                        ∃ r7 : Int,
                        (CallP Try.prog tT (18 : Nat) [(AV.d (Ty.st (Ty.pair (Ty.sl (Ty.int Go.IntKind.i64)) (Ty.pair (Ty.sl (Ty.int Go.IntKind.i64)) (Ty.pair (Ty.sl (Ty.sl (Ty.int Go.IntKind.i64))) Ty.unit)))) g), (AV.d (Ty.st (Ty.pair (Ty.sl (Ty.int Go.IntKind.i64)) (Ty.pair (Ty.sl (Ty.int Go.IntKind.i64)) Ty.unit))) (r6.1, (r6.2.1, ())))] (Ty.int Go.IntKind.i64) r7 ∧
                        ((((!(decide (r7 < (0 : Int)))) = true) →
                          ((!(decide (r7 < (0 : Int)))) = true)) ∧
                        ∃ r8 : Int,
                        (((((!(decide (r7 < (0 : Int)))) && r4) = true) →
                          (((((!(decide (r7 < (0 : Int)))) && r4) = true) ∧
                          (((!(decide (r7 < (0 : Int)))) && r4) = true)) ∧
                          CallP Try.prog tT (18 : Nat) [(AV.d (Ty.st (Ty.pair (Ty.sl (Ty.int Go.IntKind.i64)) (Ty.pair (Ty.sl (Ty.int Go.IntKind.i64)) (Ty.pair (Ty.sl (Ty.sl (Ty.int Go.IntKind.i64))) Ty.unit)))) g), (AV.d (Ty.st (Ty.pair (Ty.sl (Ty.int Go.IntKind.i64)) (Ty.pair (Ty.sl (Ty.int Go.IntKind.i64)) Ty.unit))) (r6.1, (r6.2.1, ())))] (Ty.int Go.IntKind.i64) r8)) ∧
                        (((((!(decide (r7 < (0 : Int)))) && r4) = true) →
                          ((((!(decide (r7 < (0 : Int)))) && r4) = true) ∧
                          (((!(decide (r7 < (0 : Int)))) && r4) = true))) ∧
                        ((((!(decide (r7 < (0 : Int)))) = true) →
                          (((!(decide (r7 < (0 : Int)))) = true) ∧
                          ((r4 = true) →
                            (((!(decide (r7 < (0 : Int)))) && r4) = true)))) ∧
                        ((((decide (r7 < (0 : Int))) = false) →
                          ((!(decide (r7 < (0 : Int)))) = true)) ∧
                        ((((selB (decide (r7 < (0 : Int))) true (selB r4 (!(decide (r8 = r2))) false)) = true) →
                          (R false)) ∧
                        (((selB (decide (r7 < (0 : Int))) true (selB r4 (!(decide (r8 = r2))) false)) = false) →
                          (inK Go.IntKind.i64 (x.1 + (1 : Int)) ∧
                          ((I ((x.1 + (1 : Int)), ())) ∧
                          ((μ ((x.1 + (1 : Int)), ())) < (μ x)))))))))))))))))))))))))))))))))))) ∧
            (((decide (x.1 < (((List.length set_) : Nat) : Int))) = false) →
              (R r)))))))))))))))) : CallP Try.prog tT 4 [.d (.st (.pair (.sl (.int .i64)) (.pair (.sl (.int .i64)) (.pair (.sl (.sl (.int .i64))) .unit)))) g, .d .bool second, .d (.sl .bool) set_, .d (.sl (.int .i64)) s, .d (.sl (.int .u8)) picks] .bool r :=
  callP_of (cx := cx4) mixed tab_ok Try.func4 ⟨fun _ _ => by kernel_rfl⟩ Try.ntmps4 rfl fun wf => by rw [vc4_eq]; exact h (fun x => x = r) (fun _ => Iff.rfl) (wf.1 rfl) (wf.2.1 rfl) (wf.2.2.1 rfl) (wf.2.2.2.1 rfl) (wf.2.2.2.2.1 rfl)
/- foresight/foresightlaw25.StrategyRefuted -/
def cx5 : Cx := { T := tT, own := [], nt := 93, frz := [], loops := [(8, [.val 11 .bool, .val 12 (.int .i64)]), (12, [.val 11 .bool, .val 14 (.int .i64)])] }
theorem vc5_eq (g : (Ty.T (.st (.pair (.sl (.int .i64)) (.pair (.sl (.int .i64)) (.pair (.sl (.sl (.int .i64))) .unit)))))) (second : (Ty.T .bool)) (set_ : (Ty.T (.sl .bool))) (s : (Ty.T (.sl (.int .i64)))) (R : Ty.T .bool → Prop) : vcFn Try.prog cx5 Try.f5 [.d (.st (.pair (.sl (.int .i64)) (.pair (.sl (.int .i64)) (.pair (.sl (.sl (.int .i64))) .unit)))) g, .d .bool second, .d (.sl .bool) set_, .d (.sl (.int .i64)) s] .bool R = (
    ∃ r : Bool,
    (CallP Try.prog tT (9 : Nat) [] Ty.bool r ∧
    ∃ r1 : Int,
    (CallP Try.prog tT (21 : Nat) [(AV.d Ty.bool second)] (Ty.int Go.IntKind.i64) r1 ∧
    ∃ r2 : Bool,
    (CallP Try.prog tT (20 : Nat) [(AV.d (Ty.st (Ty.pair (Ty.sl (Ty.int Go.IntKind.i64)) (Ty.pair (Ty.sl (Ty.int Go.IntKind.i64)) (Ty.pair (Ty.sl (Ty.sl (Ty.int Go.IntKind.i64))) Ty.unit)))) g), (AV.d (Ty.sl Ty.bool) set_), (AV.d (Ty.sl (Ty.int Go.IntKind.i64)) s)] Ty.bool r2 ∧
    ∃ r3 : Bool,
    ((((!(!r2)) = true) →
      ((((!(!r2)) = true) ∧
      (((!(!r2)) = true) ∧
      (((!(!r2)) = true) ∧
      ((!(!r2)) = true)))) ∧
      CallP Try.prog tT (13 : Nat) [(AV.d (Ty.st (Ty.pair (Ty.sl (Ty.int Go.IntKind.i64)) (Ty.pair (Ty.sl (Ty.int Go.IntKind.i64)) (Ty.pair (Ty.sl (Ty.sl (Ty.int Go.IntKind.i64))) Ty.unit)))) g), (AV.d (Ty.int Go.IntKind.i64) r1), (AV.d (Ty.sl Ty.bool) set_), (AV.d (Ty.sl (Ty.int Go.IntKind.i64)) s)] Ty.bool r3)) ∧
    ((((!(!r2)) = true) →
      ((!(!r2)) = true)) ∧
    ((((!r2) = false) →
      ((!(!r2)) = true)) ∧
    ((((!(selB (!r2) true (!r3))) = true) →
      (((!(selB (!r2) true (!r3))) = true) ∧
      inK Go.IntKind.i64 ((1 : Int) - r1))) ∧
    ∃ r4 : Int,
    ((((!(selB (!r2) true (!r3))) = true) →
      ((((!(selB (!r2) true (!r3))) = true) ∧
      ((!(selB (!r2) true (!r3))) = true)) ∧
      CallP Try.prog tT (24 : Nat) [(AV.d (Ty.st (Ty.pair (Ty.sl (Ty.int Go.IntKind.i64)) (Ty.pair (Ty.sl (Ty.int Go.IntKind.i64)) (Ty.pair (Ty.sl (Ty.sl (Ty.int Go.IntKind.i64))) Ty.unit)))) g), (AV.d (Ty.int Go.IntKind.i64) ((1 : Int) - r1)), (AV.d (Ty.int Go.IntKind.i64) (200 : Int))] (Ty.int Go.IntKind.i64) r4)) ∧
    ((((!(selB (!r2) true (!r3))) = true) →
      ((!(selB (!r2) true (!r3))) = true)) ∧
    ((((selB (!r2) true (!r3)) = false) →
      ((!(selB (!r2) true (!r3))) = true)) ∧
    ((((selB (selB (!r2) true (!r3)) true (decide ((200 : Int) < r4))) = true) →
      (R r)) ∧
    (((selB (selB (!r2) true (!r3)) true (decide ((200 : Int) < r4))) = false) →
      ∃ I : ((Bool × (Int × Unit)) → Prop),
      ∃ μ : ((Bool × (Int × Unit)) → Nat),
      ((I (false, ((0 : Int), ()))) ∧
      ∀ x : (Bool × (Int × Unit)),
      (WF (Ty.pair Ty.bool (Ty.pair (Ty.int Go.IntKind.i64) Ty.unit)) x →
        ((I x) →
          (inK Go.IntKind.i64 ((1 : Int) - r1) ∧
          ∃ r5 : Int,
          (CallP Try.prog tT (24 : Nat) [(AV.d (Ty.st (Ty.pair (Ty.sl (Ty.int Go.IntKind.i64)) (Ty.pair (Ty.sl (Ty.int Go.IntKind.i64)) (Ty.pair (Ty.sl (Ty.sl (Ty.int Go.IntKind.i64))) Ty.unit)))) g), (AV.d (Ty.int Go.IntKind.i64) ((1 : Int) - r1)), (AV.d (Ty.int Go.IntKind.i64) (200 : Int))] (Ty.int Go.IntKind.i64) r5 ∧
          ((((decide (x.2.1 < r5)) = true) →
            ((decide (x.2.1 < r5)) = true)) ∧
          ((((decide (x.2.1 < r5)) = true) →
            ((decide (x.2.1 < r5)) = true)) ∧
          ((((selB (decide (x.2.1 < r5)) (!x.1) false) = true) →
            (inK Go.IntKind.i64 ((1 : Int) - r1) ∧
            ∃ r6 : (List Int),
            (CallP Try.prog tT (25 : Nat) [(AV.d (Ty.st (Ty.pair (Ty.sl (Ty.int Go.IntKind.i64)) (Ty.pair (Ty.sl (Ty.int Go.IntKind.i64)) (Ty.pair (Ty.sl (Ty.sl (Ty.int Go.IntKind.i64))) Ty.unit)))) g), (AV.d (Ty.int Go.IntKind.i64) ((1 : Int) - r1)), (AV.d (Ty.int Go.IntKind.i64) x.2.1)] (Ty.sl (Ty.int Go.IntKind.i64)) r6 ∧
            ∃ I1 : ((Bool × (Int × Unit)) → Prop),
            ∃ μ1 : ((Bool × (Int × Unit)) → Nat),
            ((I1 (x.1, ((0 : Int), ()))) ∧
            ∀ x1 : (Bool × (Int × Unit)),
            (WF (Ty.pair Ty.bool (Ty.pair (Ty.int Go.IntKind.i64) Ty.unit)) x1 →
              ((I1 x1) →
                ((((decide (x1.2.1 < (((List.length set_) : Nat) : Int))) = true) →
                  ((((!x1.1) = true) →
                    ((((!x1.1) = true) ∧
                    ((!x1.1) = true)) ∧
                    (((0 : Int) ≤ x1.2.1) ∧
                    (x1.2.1 < (((List.length set_) : Nat) : Int))))) ∧
                  ((((!x1.1) = true) →
                    ((!x1.1) = true)) ∧
                  ((((!x1.1) = true) →
                    ((!x1.1) = true)) ∧
                  ∃ r7 : ((List Int) × ((List Int) × Unit)),
                  (((((!x1.1) && (List.getD set_ (Int.toNat x1.2.1) false)) = true) →
                    (((((!x1.1) && (List.getD set_ (Int.toNat x1.2.1) false)) = true) ∧
                    ((((!x1.1) && (List.getD set_ (Int.toNat x1.2.1) false)) = true) ∧
                    ((((!x1.1) && (List.getD set_ (Int.toNat x1.2.1) false)) = true) ∧
                    ((((!x1.1) && (List.getD set_ (Int.toNat x1.2.1) false)) = true) ∧
                    (((!x1.1) && (List.getD set_ (Int.toNat x1.2.1) false)) = true))))) ∧
                    CallP Try.prog tT (22 : Nat) [(AV.d (Ty.st (Ty.pair (Ty.sl (Ty.int Go.IntKind.i64)) (Ty.pair (Ty.sl (Ty.int Go.IntKind.i64)) (Ty.pair (Ty.sl (Ty.sl (Ty.int Go.IntKind.i64))) Ty.unit)))) g), (AV.d (Ty.int Go.IntKind.i64) r1), (AV.d (Ty.sl (Ty.int Go.IntKind.i64)) s), (AV.d (Ty.sl (Ty.int Go.IntKind.i64)) r6), (AV.d (Ty.int Go.IntKind.i64) x1.2.1)] (Ty.st (Ty.pair (Ty.sl (Ty.int Go.IntKind.i64)) (Ty.pair (Ty.sl (Ty.int Go.IntKind.i64)) Ty.unit))) r7)) ∧
                  ∃ r8 : Int,
                  (((((!x1.1) && (List.getD set_ (Int.toNat x1.2.1) false)) = true) →
                    (((((!x1.1) && (List.getD set_ (Int.toNat x1.2.1) false)) = true) ∧
                    (((!x1.1) && (List.getD set_ (Int.toNat x1.2.1) false)) = true)) ∧
                    CallP Try.prog tT (18 : Nat) [(AV.d (Ty.st (Ty.pair (Ty.sl (Ty.int Go.IntKind.i64)) (Ty.pair (Ty.sl (Ty.int Go.IntKind.i64)) (Ty.pair (Ty.sl (Ty.sl (Ty.int Go.IntKind.i64))) Ty.unit)))) g), (AV.d (Ty.st (Ty.pair (Ty.sl (Ty.int Go.IntKind.i64)) (Ty.pair (Ty.sl (Ty.int Go.IntKind.i64)) Ty.unit))) r7)] (Ty.int Go.IntKind.i64) r8)) ∧
                  (((((!x1.1) && (List.getD set_ (Int.toNat x1.2.1) false)) = true) →
                    ((((!x1.1) && (List.getD set_ (Int.toNat x1.2.1) false)) = true) ∧
                    inK Go.IntKind.i64 ((1 : Int) - r1))) ∧
                  (((((!x1.1) && (List.getD set_ (Int.toNat x1.2.1) false)) = true) →
                    ((((!x1.1) && (List.getD set_ (Int.toNat x1.2.1) false)) = true) ∧
                    (((!x1.1) && (List.getD set_ (Int.toNat x1.2.1) false)) = true))) ∧
                  ((((!x1.1) = true) →
                    (((!x1.1) = true) ∧
                    (((List.getD set_ (Int.toNat x1.2.1) false) = true) →
                      (((!x1.1) && (List.getD set_ (Int.toNat x1.2.1) false)) = true)))) ∧
                  (((x1.1 = false) →
                    ((!x1.1) = true)) ∧
                  (inK Go.IntKind.i64 (x1.2.1 + (1 : Int)) ∧
                  ((I1 ((selB x1.1 true (selB (List.getD set_ (Int.toNat x1.2.1) false) (decide (r8 = ((1 : Int) - r1))) false)), ((x1.2.1 + (1 : Int)), ()))) ∧
                  ((μ1 ((selB x1.1 true (selB (List.getD set_ (Int.toNat x1.2.1) false) (decide (r8 = ((1 : Int) - r1))) false)), ((x1.2.1 + (1 : Int)), ()))) < (μ1 x1)))))))))))))) ∧
                (((decide (x1.2.1 < (((List.length set_) : Nat) : Int))) = false) →
                  (inK Go.IntKind.i64 (x.2.1 + (1 : Int)) ∧
                  ((I (x1.1, ((x.2.1 + (1 : Int)), ()))) ∧
                  ((μ (x1.1, ((x.2.1 + (1 : Int)), ()))) < (μ x)))))))))))) ∧
          (((selB (decide (x.2.1 < r5)) (!x.1) false) = false) →
            ∃ r6 : Bool,
            (((r = true) →
              (((r = true) ∧
              ((r = true) ∧
              ((r = true) ∧
              (r = true)))) ∧
              CallP Try.prog tT (15 : Nat) [(AV.d (Ty.st (Ty.pair (Ty.sl (Ty.int Go.IntKind.i64)) (Ty.pair (Ty.sl (Ty.int Go.IntKind.i64)) (Ty.pair (Ty.sl (Ty.sl (Ty.int Go.IntKind.i64))) Ty.unit)))) g), (AV.d (Ty.int Go.IntKind.i64) r1), (AV.d (Ty.sl Ty.bool) set_), (AV.d (Ty.sl (Ty.int Go.IntKind.i64)) s)] Ty.bool r6)) ∧
            (((r = true) →
              (r = true)) ∧
            (((r = true) →
              ((r = true) ∧
              (r = true))) ∧
            (((r = true) →
              (r = true)) ∧
            (R (selB r (r6 == (!x.1)) false)))))))))))))))))))))))))))) := by kernel_rfl
theorem of5 (g : (Ty.T (.st (.pair (.sl (.int .i64)) (.pair (.sl (.int .i64)) (.pair (.sl (.sl (.int .i64))) .unit)))))) (second : (Ty.T .bool)) (set_ : (Ty.T (.sl .bool))) (s : (Ty.T (.sl (.int .i64)))) (r : Ty.T .bool) (h : ∀ R : Ty.T .bool → Prop, (∀ x, R x ↔ x = r) → WF (.st (.pair (.sl (.int .i64)) (.pair (.sl (.int .i64)) (.pair (.sl (.sl (.int .i64))) .unit)))) g → WF .bool second → WF (.sl .bool) set_ → WF (.sl (.int .i64)) s → 
    ∃ r : Bool,
    (CallP Try.prog tT (9 : Nat) [] Ty.bool r ∧
    ∃ r1 : Int,
    (CallP Try.prog tT (21 : Nat) [(AV.d Ty.bool second)] (Ty.int Go.IntKind.i64) r1 ∧
    ∃ r2 : Bool,
    (CallP Try.prog tT (20 : Nat) [(AV.d (Ty.st (Ty.pair (Ty.sl (Ty.int Go.IntKind.i64)) (Ty.pair (Ty.sl (Ty.int Go.IntKind.i64)) (Ty.pair (Ty.sl (Ty.sl (Ty.int Go.IntKind.i64))) Ty.unit)))) g), (AV.d (Ty.sl Ty.bool) set_), (AV.d (Ty.sl (Ty.int Go.IntKind.i64)) s)] Ty.bool r2 ∧
    ∃ r3 : Bool,
    ((((!(!r2)) = true) →
      ((((!(!r2)) = true) ∧
      (((!(!r2)) = true) ∧
      (((!(!r2)) = true) ∧
      ((!(!r2)) = true)))) ∧
      CallP Try.prog tT (13 : Nat) [(AV.d (Ty.st (Ty.pair (Ty.sl (Ty.int Go.IntKind.i64)) (Ty.pair (Ty.sl (Ty.int Go.IntKind.i64)) (Ty.pair (Ty.sl (Ty.sl (Ty.int Go.IntKind.i64))) Ty.unit)))) g), (AV.d (Ty.int Go.IntKind.i64) r1), (AV.d (Ty.sl Ty.bool) set_), (AV.d (Ty.sl (Ty.int Go.IntKind.i64)) s)] Ty.bool r3)) ∧
    ((((!(!r2)) = true) →
      ((!(!r2)) = true)) ∧
    ((((!r2) = false) →
      ((!(!r2)) = true)) ∧
    ((((!(selB (!r2) true (!r3))) = true) →
      (((!(selB (!r2) true (!r3))) = true) ∧
      inK Go.IntKind.i64 ((1 : Int) - r1))) ∧
    ∃ r4 : Int,
    ((((!(selB (!r2) true (!r3))) = true) →
      ((((!(selB (!r2) true (!r3))) = true) ∧
      ((!(selB (!r2) true (!r3))) = true)) ∧
      CallP Try.prog tT (24 : Nat) [(AV.d (Ty.st (Ty.pair (Ty.sl (Ty.int Go.IntKind.i64)) (Ty.pair (Ty.sl (Ty.int Go.IntKind.i64)) (Ty.pair (Ty.sl (Ty.sl (Ty.int Go.IntKind.i64))) Ty.unit)))) g), (AV.d (Ty.int Go.IntKind.i64) ((1 : Int) - r1)), (AV.d (Ty.int Go.IntKind.i64) (200 : Int))] (Ty.int Go.IntKind.i64) r4)) ∧
    ((((!(selB (!r2) true (!r3))) = true) →
      ((!(selB (!r2) true (!r3))) = true)) ∧
    ((((selB (!r2) true (!r3)) = false) →
      ((!(selB (!r2) true (!r3))) = true)) ∧
    ((((selB (selB (!r2) true (!r3)) true (decide ((200 : Int) < r4))) = true) →
      (R r)) ∧
    (((selB (selB (!r2) true (!r3)) true (decide ((200 : Int) < r4))) = false) →
      ∃ I : ((Bool × (Int × Unit)) → Prop),
      ∃ μ : ((Bool × (Int × Unit)) → Nat),
      ((I (false, ((0 : Int), ()))) ∧
      ∀ x : (Bool × (Int × Unit)),
      (WF (Ty.pair Ty.bool (Ty.pair (Ty.int Go.IntKind.i64) Ty.unit)) x →
        ((I x) →
          (inK Go.IntKind.i64 ((1 : Int) - r1) ∧
          ∃ r5 : Int,
          (CallP Try.prog tT (24 : Nat) [(AV.d (Ty.st (Ty.pair (Ty.sl (Ty.int Go.IntKind.i64)) (Ty.pair (Ty.sl (Ty.int Go.IntKind.i64)) (Ty.pair (Ty.sl (Ty.sl (Ty.int Go.IntKind.i64))) Ty.unit)))) g), (AV.d (Ty.int Go.IntKind.i64) ((1 : Int) - r1)), (AV.d (Ty.int Go.IntKind.i64) (200 : Int))] (Ty.int Go.IntKind.i64) r5 ∧
          ((((decide (x.2.1 < r5)) = true) →
            ((decide (x.2.1 < r5)) = true)) ∧
          ((((decide (x.2.1 < r5)) = true) →
            ((decide (x.2.1 < r5)) = true)) ∧
          ((((selB (decide (x.2.1 < r5)) (!x.1) false) = true) →
            (inK Go.IntKind.i64 ((1 : Int) - r1) ∧
            ∃ r6 : (List Int),
            (CallP Try.prog tT (25 : Nat) [(AV.d (Ty.st (Ty.pair (Ty.sl (Ty.int Go.IntKind.i64)) (Ty.pair (Ty.sl (Ty.int Go.IntKind.i64)) (Ty.pair (Ty.sl (Ty.sl (Ty.int Go.IntKind.i64))) Ty.unit)))) g), (AV.d (Ty.int Go.IntKind.i64) ((1 : Int) - r1)), (AV.d (Ty.int Go.IntKind.i64) x.2.1)] (Ty.sl (Ty.int Go.IntKind.i64)) r6 ∧
            ∃ I1 : ((Bool × (Int × Unit)) → Prop),
            ∃ μ1 : ((Bool × (Int × Unit)) → Nat),
            ((I1 (x.1, ((0 : Int), ()))) ∧
            ∀ x1 : (Bool × (Int × Unit)),
            (WF (Ty.pair Ty.bool (Ty.pair (Ty.int Go.IntKind.i64) Ty.unit)) x1 →
              ((I1 x1) →
                ((((decide (x1.2.1 < (((List.length set_) : Nat) : Int))) = true) →
                  ((((!x1.1) = true) →
                    ((((!x1.1) = true) ∧
                    ((!x1.1) = true)) ∧
                    (((0 : Int) ≤ x1.2.1) ∧
                    (x1.2.1 < (((List.length set_) : Nat) : Int))))) ∧
                  ((((!x1.1) = true) →
                    ((!x1.1) = true)) ∧
                  ((((!x1.1) = true) →
                    ((!x1.1) = true)) ∧
                  ∃ r7 : ((List Int) × ((List Int) × Unit)),
                  (((((!x1.1) && (List.getD set_ (Int.toNat x1.2.1) false)) = true) →
                    (((((!x1.1) && (List.getD set_ (Int.toNat x1.2.1) false)) = true) ∧
                    ((((!x1.1) && (List.getD set_ (Int.toNat x1.2.1) false)) = true) ∧
                    ((((!x1.1) && (List.getD set_ (Int.toNat x1.2.1) false)) = true) ∧
                    ((((!x1.1) && (List.getD set_ (Int.toNat x1.2.1) false)) = true) ∧
                    (((!x1.1) && (List.getD set_ (Int.toNat x1.2.1) false)) = true))))) ∧
                    CallP Try.prog tT (22 : Nat) [(AV.d (Ty.st (Ty.pair (Ty.sl (Ty.int Go.IntKind.i64)) (Ty.pair (Ty.sl (Ty.int Go.IntKind.i64)) (Ty.pair (Ty.sl (Ty.sl (Ty.int Go.IntKind.i64))) Ty.unit)))) g), (AV.d (Ty.int Go.IntKind.i64) r1), (AV.d (Ty.sl (Ty.int Go.IntKind.i64)) s), (AV.d (Ty.sl (Ty.int Go.IntKind.i64)) r6), (AV.d (Ty.int Go.IntKind.i64) x1.2.1)] (Ty.st (Ty.pair (Ty.sl (Ty.int Go.IntKind.i64)) (Ty.pair (Ty.sl (Ty.int Go.IntKind.i64)) Ty.unit))) r7)) ∧
                  ∃ r8 : Int,
                  (((((!x1.1) && (List.getD set_ (Int.toNat x1.2.1) false)) = true) →
                    (((((!x1.1) && (List.getD set_ (Int.toNat x1.2.1) false)) = true) ∧
                    (((!x1.1) && (List.getD set_ (Int.toNat x1.2.1) false)) = true)) ∧
                    CallP Try.prog tT (18 : Nat) [(AV.d (Ty.st (Ty.pair (Ty.sl (Ty.int Go.IntKind.i64)) (Ty.pair (Ty.sl (Ty.int Go.IntKind.i64)) (Ty.pair (Ty.sl (Ty.sl (Ty.int Go.IntKind.i64))) Ty.unit)))) g), (AV.d (Ty.st (Ty.pair (Ty.sl (Ty.int Go.IntKind.i64)) (Ty.pair (Ty.sl (Ty.int Go.IntKind.i64)) Ty.unit))) r7)] (Ty.int Go.IntKind.i64) r8)) ∧
                  (((((!x1.1) && (List.getD set_ (Int.toNat x1.2.1) false)) = true) →
                    ((((!x1.1) && (List.getD set_ (Int.toNat x1.2.1) false)) = true) ∧
                    inK Go.IntKind.i64 ((1 : Int) - r1))) ∧
                  (((((!x1.1) && (List.getD set_ (Int.toNat x1.2.1) false)) = true) →
                    ((((!x1.1) && (List.getD set_ (Int.toNat x1.2.1) false)) = true) ∧
                    (((!x1.1) && (List.getD set_ (Int.toNat x1.2.1) false)) = true))) ∧
                  ((((!x1.1) = true) →
                    (((!x1.1) = true) ∧
                    (((List.getD set_ (Int.toNat x1.2.1) false) = true) →
                      (((!x1.1) && (List.getD set_ (Int.toNat x1.2.1) false)) = true)))) ∧
                  (((x1.1 = false) →
                    ((!x1.1) = true)) ∧
                  (inK Go.IntKind.i64 (x1.2.1 + (1 : Int)) ∧
                  ((I1 ((selB x1.1 true (selB (List.getD set_ (Int.toNat x1.2.1) false) (decide (r8 = ((1 : Int) - r1))) false)), ((x1.2.1 + (1 : Int)), ()))) ∧
                  ((μ1 ((selB x1.1 true (selB (List.getD set_ (Int.toNat x1.2.1) false) (decide (r8 = ((1 : Int) - r1))) false)), ((x1.2.1 + (1 : Int)), ()))) < (μ1 x1)))))))))))))) ∧
                (((decide (x1.2.1 < (((List.length set_) : Nat) : Int))) = false) →
                  (inK Go.IntKind.i64 (x.2.1 + (1 : Int)) ∧
                  ((I (x1.1, ((x.2.1 + (1 : Int)), ()))) ∧
                  ((μ (x1.1, ((x.2.1 + (1 : Int)), ()))) < (μ x)))))))))))) ∧
          (((selB (decide (x.2.1 < r5)) (!x.1) false) = false) →
            ∃ r6 : Bool,
            (((r = true) →
              (((r = true) ∧
              ((r = true) ∧
              ((r = true) ∧
              (r = true)))) ∧
              CallP Try.prog tT (15 : Nat) [(AV.d (Ty.st (Ty.pair (Ty.sl (Ty.int Go.IntKind.i64)) (Ty.pair (Ty.sl (Ty.int Go.IntKind.i64)) (Ty.pair (Ty.sl (Ty.sl (Ty.int Go.IntKind.i64))) Ty.unit)))) g), (AV.d (Ty.int Go.IntKind.i64) r1), (AV.d (Ty.sl Ty.bool) set_), (AV.d (Ty.sl (Ty.int Go.IntKind.i64)) s)] Ty.bool r6)) ∧
            (((r = true) →
              (r = true)) ∧
            (((r = true) →
              ((r = true) ∧
              (r = true))) ∧
            (((r = true) →
              (r = true)) ∧
            (R (selB r (r6 == (!x.1)) false)))))))))))))))))))))))))))) : CallP Try.prog tT 5 [.d (.st (.pair (.sl (.int .i64)) (.pair (.sl (.int .i64)) (.pair (.sl (.sl (.int .i64))) .unit)))) g, .d .bool second, .d (.sl .bool) set_, .d (.sl (.int .i64)) s] .bool r :=
  callP_of (cx := cx5) mixed tab_ok Try.func5 ⟨fun _ _ => by kernel_rfl⟩ Try.ntmps5 rfl fun wf => by rw [vc5_eq]; exact h (fun x => x = r) (fun _ => Iff.rfl) (wf.1 rfl) (wf.2.1 rfl) (wf.2.2.1 rfl) (wf.2.2.2.1 rfl)
end Go.Proofs.Ytohglckebkgbpaa
