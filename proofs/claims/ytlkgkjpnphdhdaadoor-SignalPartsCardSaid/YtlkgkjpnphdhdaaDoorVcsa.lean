/-
  What must be shown of each function, worked out from its text; the kernel holds it against the text.
-/
import Derived.Test.YtlkgkjpnphdhdaaDoorTab
import Derived.Test.YtlkgkjpnphdhdaaDoorNe
namespace Go.Proofs.YtlkgkjpnphdhdaaDoor
open Go.RowKit
/- foresight/foresightref01.Small -/
def cx10 : Cx := { T := tT, own := ownT, frz := [], loops := [(100005, 60, ⟨[.val 3 (.int .i64)], 0⟩)], cuts := [], inl := inlT }
set_option maxRecDepth 1000000 in
theorem of10 (l : (Ty.T (.sl (.st (.pair .str (.pair .bool (.pair (.int .i64) .unit))))))) (r : Ty.T .bool) (h : ∀ R : Ty.T .bool → Prop, (∀ x, R x ↔ x = r) → WF (.sl (.st (.pair .str (.pair .bool (.pair (.int .i64) .unit))))) l → 
    ((((decide ((10 : Int) < (((List.length l) : Nat) : Int))) = true) →
      (R false)) ∧
    (((decide ((10 : Int) < (((List.length l) : Nat) : Int))) = false) →
      ∃ I : ((Int × Unit) → Prop),
      ∃ μ : ((Int × Unit) → Nat),
      ((I ((0 : Int), ())) ∧
      ∀ x : (Int × Unit),
      ((WF (Ty.int Go.IntKind.i64) x.1 ∧
        True) →
        ((I x) →
          ((((decide (x.1 < (((List.length l) : Nat) : Int))) = true) →
            ((((0 : Int) ≤ x.1) ∧
            (x.1 < (((List.length l) : Nat) : Int))) ∧
            ((((decide ((40 : Int) < (((List.length (List.getD l (Int.toNat x.1) (([] : List UInt8), (false, ((0 : Int), ())))).1) : Nat) : Int))) = true) →
              (R false)) ∧
            (((decide ((40 : Int) < (((List.length (List.getD l (Int.toNat x.1) (([] : List UInt8), (false, ((0 : Int), ())))).1) : Nat) : Int))) = false) →
              (inK Go.IntKind.i64 (x.1 + (1 : Int)) ∧
              ((I ((x.1 + (1 : Int)), ())) ∧
              ((μ ((x.1 + (1 : Int)), ())) < (μ x)))))))) ∧
          (((decide (x.1 < (((List.length l) : Nat) : Int))) = false) →
            (R true))))))))) : CallP Tryd.prog tT 10 [.d (.sl (.st (.pair .str (.pair .bool (.pair (.int .i64) .unit))))) l] .bool r :=
  callP_of (cx := cx10) (d := 6) mixed tab_ok inl_ok Tryd.func10 ⟨fun _ _ => by kernel_rfl⟩ rfl rfl fun wf => Eq.mpr (by kernel_rfl) (h (fun x => x = r) (fun _ => Iff.rfl) (wf.1 rfl))
set_option maxRecDepth 1000000 in
theorem sf10 (l : (Ty.T (.sl (.st (.pair .str (.pair .bool (.pair (.int .i64) .unit))))))) (r : Ty.T .bool) (h : ∀ R : Ty.T .bool → Prop, (∀ x, R x ↔ x = r) → WF (.sl (.st (.pair .str (.pair .bool (.pair (.int .i64) .unit))))) l → 
    ((((10 : Int) < (((List.length l) : Nat) : Int)) →
      (R false)) ∧
    (((((List.length l) : Nat) : Int) ≤ (10 : Int)) →
      (∃ I : ((Int × Unit) → Prop),
      (∃ μ : ((Int × Unit) → Nat),
      ((I ((0 : Int), ())) ∧
      (∀ x : (Int × Unit),
      ((WF (Ty.int Go.IntKind.i64) x.1 ∧
        True) →
        ((I x) →
          (((x.1 < (((List.length l) : Nat) : Int)) →
            (((0 : Int) ≤ x.1) ∧
            ((((40 : Int) < (((List.length (List.getD l (Int.toNat x.1) (([] : List UInt8), (false, ((0 : Int), ())))).1) : Nat) : Int)) →
              (R false)) ∧
            (((((List.length (List.getD l (Int.toNat x.1) (([] : List UInt8), (false, ((0 : Int), ())))).1) : Nat) : Int) ≤ (40 : Int)) →
              (inK Go.IntKind.i64 (x.1 + (1 : Int)) ∧
              ((I ((x.1 + (1 : Int)), ())) ∧
              ((μ ((x.1 + (1 : Int)), ())) < (μ x)))))))) ∧
          (((((List.length l) : Nat) : Int) ≤ x.1) →
            (R true)))))))))))) : CallP Tryd.prog tT 10 [.d (.sl (.st (.pair .str (.pair .bool (.pair (.int .i64) .unit))))) l] .bool r :=
  of10 l r fun R hR w0_ => have p := h R hR w0_
    ⟨(fun h6 => (p.1 (of_decide_eq_true h6))), (fun h8 => (Exists.elim (p.2 (Int.not_lt.1 (of_decide_eq_false h8))) fun I q9 => Exists.intro I (Exists.elim q9 fun μ q10 => Exists.intro μ ⟨q10.1, (fun x => (fun h11 => (fun h12 => ⟨(fun h26 => ⟨⟨((((q10.2 x) h11) h12).1 (of_decide_eq_true h26)).1, (of_decide_eq_true h26)⟩, ⟨(fun h32 => (((((q10.2 x) h11) h12).1 (of_decide_eq_true h26)).2.1 (of_decide_eq_true h32))), (fun h34 => ⟨(((((q10.2 x) h11) h12).1 (of_decide_eq_true h26)).2.2 (Int.not_lt.1 (of_decide_eq_false h34))).1, ⟨(((((q10.2 x) h11) h12).1 (of_decide_eq_true h26)).2.2 (Int.not_lt.1 (of_decide_eq_false h34))).2.1, (((((q10.2 x) h11) h12).1 (of_decide_eq_true h26)).2.2 (Int.not_lt.1 (of_decide_eq_false h34))).2.2⟩⟩)⟩⟩), (fun h36 => ((((q10.2 x) h11) h12).2 (Int.not_lt.1 (of_decide_eq_false h36))))⟩)))⟩)))⟩
/- foresight/signal.Make -/
def cx11 : Cx := { T := tT, own := ownT, frz := [], loops := [(110006, 220, ⟨[.val 6 (.int .i64), .val 7 (.int .i64), .val 22 (.int .i64)], 0⟩)], cuts := [], inl := inlT }
set_option maxRecDepth 1000000 in
theorem of11 (l : (Ty.T (.sl (.st (.pair .str (.pair .bool (.pair (.int .i64) .unit))))))) (vals : (Ty.T (.sl (.int .i64)))) (r : Ty.T (.tup (.pair (.int .i64) (.pair .bool .unit)))) (h : ∀ R : Ty.T (.tup (.pair (.int .i64) (.pair .bool .unit))) → Prop, (∀ x, R x ↔ x = r) → WF (.sl (.st (.pair .str (.pair .bool (.pair (.int .i64) .unit))))) l → WF (.sl (.int .i64)) vals → 
    ∃ r : Bool,
    (CallP Tryd.prog tT (13 : Nat) [(AV.c (Cap.d (Ty.sl (Ty.st (Ty.pair Ty.str (Ty.pair Ty.bool (Ty.pair (Ty.int Go.IntKind.i64) Ty.unit))))) l))] Ty.bool r ∧
    ((((!(!r)) = true) →
      ((!(!r)) = true)) ∧
    ((((!(!r)) = true) →
      ((!(!r)) = true)) ∧
    ((((!(!r)) = true) →
      (((!(!r)) = true) ∧
      ((!(!r)) = true))) ∧
    ((((!r) = false) →
      ((!(!r)) = true)) ∧
    ((((selB (!r) true (!(decide ((((List.length vals) : Nat) : Int) = (((List.length l) : Nat) : Int))))) = true) →
      (R ((0 : Int), (false, ())))) ∧
    (((selB (!r) true (!(decide ((((List.length vals) : Nat) : Int) = (((List.length l) : Nat) : Int))))) = false) →
      ∃ I : ((Int × (Int × (Int × Unit))) → Prop),
      ∃ μ : ((Int × (Int × (Int × Unit))) → Nat),
      ((I ((0 : Int), ((1 : Int), ((0 : Int), ())))) ∧
      ∀ x : (Int × (Int × (Int × Unit))),
      ((WF (Ty.int Go.IntKind.i64) x.1 ∧
        (WF (Ty.int Go.IntKind.i64) x.2.1 ∧
        (WF (Ty.int Go.IntKind.i64) x.2.2.1 ∧
        True))) →
        ((I x) →
          ((((decide (x.2.2.1 < (((List.length l) : Nat) : Int))) = true) →
            ((((0 : Int) ≤ x.2.2.1) ∧
            (x.2.2.1 < (((List.length l) : Nat) : Int))) ∧
            ((((0 : Int) ≤ x.2.2.1) ∧
            (x.2.2.1 < (((List.length vals) : Nat) : Int))) ∧
            ((((!(decide ((List.getD vals (Int.toNat x.2.2.1) (0 : Int)) < (0 : Int)))) = true) →
              ((((!(decide ((List.getD vals (Int.toNat x.2.2.1) (0 : Int)) < (0 : Int)))) = true) ∧
              ((!(decide ((List.getD vals (Int.toNat x.2.2.1) (0 : Int)) < (0 : Int)))) = true)) ∧
              (((0 : Int) ≤ x.2.2.1) ∧
              (x.2.2.1 < (((List.length vals) : Nat) : Int))))) ∧
            ((((!(decide ((List.getD vals (Int.toNat x.2.2.1) (0 : Int)) < (0 : Int)))) = true) →
              ((!(decide ((List.getD vals (Int.toNat x.2.2.1) (0 : Int)) < (0 : Int)))) = true)) ∧
            ((((!(decide ((List.getD vals (Int.toNat x.2.2.1) (0 : Int)) < (0 : Int)))) = true) →
              ((!(decide ((List.getD vals (Int.toNat x.2.2.1) (0 : Int)) < (0 : Int)))) = true)) ∧
            ((((!(decide ((List.getD vals (Int.toNat x.2.2.1) (0 : Int)) < (0 : Int)))) = true) →
              (((!(decide ((List.getD vals (Int.toNat x.2.2.1) (0 : Int)) < (0 : Int)))) = true) ∧
              ((!(decide ((List.getD vals (Int.toNat x.2.2.1) (0 : Int)) < (0 : Int)))) = true))) ∧
            ((((decide ((List.getD vals (Int.toNat x.2.2.1) (0 : Int)) < (0 : Int))) = false) →
              ((!(decide ((List.getD vals (Int.toNat x.2.2.1) (0 : Int)) < (0 : Int)))) = true)) ∧
            ((((selB (decide ((List.getD vals (Int.toNat x.2.2.1) (0 : Int)) < (0 : Int))) true (decide ((List.getD l (Int.toNat x.2.2.1) (([] : List UInt8), (false, ((0 : Int), ())))).2.2.1 ≤ (List.getD vals (Int.toNat x.2.2.1) (0 : Int))))) = true) →
              (R ((0 : Int), (false, ())))) ∧
            (((selB (decide ((List.getD vals (Int.toNat x.2.2.1) (0 : Int)) < (0 : Int))) true (decide ((List.getD l (Int.toNat x.2.2.1) (([] : List UInt8), (false, ((0 : Int), ())))).2.2.1 ≤ (List.getD vals (Int.toNat x.2.2.1) (0 : Int))))) = false) →
              ((((0 : Int) ≤ x.2.2.1) ∧
              (x.2.2.1 < (((List.length vals) : Nat) : Int))) ∧
              (inK Go.IntKind.i64 (x.2.1 * (List.getD vals (Int.toNat x.2.2.1) (0 : Int))) ∧
              (inK Go.IntKind.i64 (x.1 + (x.2.1 * (List.getD vals (Int.toNat x.2.2.1) (0 : Int)))) ∧
              (inK Go.IntKind.i64 (x.2.1 * (List.getD l (Int.toNat x.2.2.1) (([] : List UInt8), (false, ((0 : Int), ())))).2.2.1) ∧
              (inK Go.IntKind.i64 (x.2.2.1 + (1 : Int)) ∧
              ((I ((x.1 + (x.2.1 * (List.getD vals (Int.toNat x.2.2.1) (0 : Int)))), ((x.2.1 * (List.getD l (Int.toNat x.2.2.1) (([] : List UInt8), (false, ((0 : Int), ())))).2.2.1), ((x.2.2.1 + (1 : Int)), ())))) ∧
              ((μ ((x.1 + (x.2.1 * (List.getD vals (Int.toNat x.2.2.1) (0 : Int)))), ((x.2.1 * (List.getD l (Int.toNat x.2.2.1) (([] : List UInt8), (false, ((0 : Int), ())))).2.2.1), ((x.2.2.1 + (1 : Int)), ())))) < (μ x)))))))))))))))))) ∧
          (((decide (x.2.2.1 < (((List.length l) : Nat) : Int))) = false) →
            (R (x.1, (true, ())))))))))))))))) : CallP Tryd.prog tT 11 [.d (.sl (.st (.pair .str (.pair .bool (.pair (.int .i64) .unit))))) l, .d (.sl (.int .i64)) vals] (.tup (.pair (.int .i64) (.pair .bool .unit))) r :=
  callP_of (cx := cx11) (d := 6) mixed tab_ok inl_ok Tryd.func11 ⟨fun _ _ => by kernel_rfl⟩ rfl rfl fun wf => Eq.mpr (by kernel_rfl) (h (fun x => x = r) (fun _ => Iff.rfl) (wf.1 rfl) (wf.2.1 rfl))
set_option maxRecDepth 1000000 in
theorem sf11 (l : (Ty.T (.sl (.st (.pair .str (.pair .bool (.pair (.int .i64) .unit))))))) (vals : (Ty.T (.sl (.int .i64)))) (r : Ty.T (.tup (.pair (.int .i64) (.pair .bool .unit)))) (h : ∀ R : Ty.T (.tup (.pair (.int .i64) (.pair .bool .unit))) → Prop, (∀ x, R x ↔ x = r) → WF (.sl (.st (.pair .str (.pair .bool (.pair (.int .i64) .unit))))) l → WF (.sl (.int .i64)) vals → 
    (∃ r : Bool,
    (CallP Tryd.prog tT (13 : Nat) [(AV.c (Cap.d (Ty.sl (Ty.st (Ty.pair Ty.str (Ty.pair Ty.bool (Ty.pair (Ty.int Go.IntKind.i64) Ty.unit))))) l))] Ty.bool r ∧
    ((((r = false) ∨ (¬ ((((List.length vals) : Nat) : Int) = (((List.length l) : Nat) : Int)))) →
      (R ((0 : Int), (false, ())))) ∧
    ((r = true) → ((((List.length vals) : Nat) : Int) = (((List.length l) : Nat) : Int)) →
      (∃ I : ((Int × (Int × (Int × Unit))) → Prop),
      (∃ μ : ((Int × (Int × (Int × Unit))) → Nat),
      ((I ((0 : Int), ((1 : Int), ((0 : Int), ())))) ∧
      (∀ x : (Int × (Int × (Int × Unit))),
      ((WF (Ty.int Go.IntKind.i64) x.1 ∧
        (WF (Ty.int Go.IntKind.i64) x.2.1 ∧
        (WF (Ty.int Go.IntKind.i64) x.2.2.1 ∧
        True))) →
        ((I x) →
          (((x.2.2.1 < (((List.length l) : Nat) : Int)) →
            (((0 : Int) ≤ x.2.2.1) ∧
            ((x.2.2.1 < (((List.length vals) : Nat) : Int)) ∧
            (((((List.getD vals (Int.toNat x.2.2.1) (0 : Int)) < (0 : Int)) ∨ ((List.getD l (Int.toNat x.2.2.1) (([] : List UInt8), (false, ((0 : Int), ())))).2.2.1 ≤ (List.getD vals (Int.toNat x.2.2.1) (0 : Int)))) →
              (R ((0 : Int), (false, ())))) ∧
            (((0 : Int) ≤ (List.getD vals (Int.toNat x.2.2.1) (0 : Int))) → ((List.getD vals (Int.toNat x.2.2.1) (0 : Int)) < (List.getD l (Int.toNat x.2.2.1) (([] : List UInt8), (false, ((0 : Int), ())))).2.2.1) →
              (inK Go.IntKind.i64 (x.2.1 * (List.getD vals (Int.toNat x.2.2.1) (0 : Int))) ∧
              (inK Go.IntKind.i64 (x.1 + (x.2.1 * (List.getD vals (Int.toNat x.2.2.1) (0 : Int)))) ∧
              (inK Go.IntKind.i64 (x.2.1 * (List.getD l (Int.toNat x.2.2.1) (([] : List UInt8), (false, ((0 : Int), ())))).2.2.1) ∧
              (inK Go.IntKind.i64 (x.2.2.1 + (1 : Int)) ∧
              ((I ((x.1 + (x.2.1 * (List.getD vals (Int.toNat x.2.2.1) (0 : Int)))), ((x.2.1 * (List.getD l (Int.toNat x.2.2.1) (([] : List UInt8), (false, ((0 : Int), ())))).2.2.1), ((x.2.2.1 + (1 : Int)), ())))) ∧
              ((μ ((x.1 + (x.2.1 * (List.getD vals (Int.toNat x.2.2.1) (0 : Int)))), ((x.2.1 * (List.getD l (Int.toNat x.2.2.1) (([] : List UInt8), (false, ((0 : Int), ())))).2.2.1), ((x.2.2.1 + (1 : Int)), ())))) < (μ x)))))))))))) ∧
          (((((List.length l) : Nat) : Int) ≤ x.2.2.1) →
            (R (x.1, (true, ())))))))))))))))) : CallP Tryd.prog tT 11 [.d (.sl (.st (.pair .str (.pair .bool (.pair (.int .i64) .unit))))) l, .d (.sl (.int .i64)) vals] (.tup (.pair (.int .i64) (.pair .bool .unit))) r :=
  of11 l vals r fun R hR w0_ w1_ => have p := h R hR w0_ w1_
    (Exists.elim p fun r q1 => Exists.intro r ⟨q1.1, ⟨(fun h7 => h7), ⟨(fun h12 => h12), ⟨(fun h16 => ⟨h16, h16⟩), ⟨(fun h19 => (bnot_t2 h19)), ⟨(fun h25 => (q1.2.1 (Or.imp (fun h => (bnot_t h)) (fun h => (of_decide_eq_false (bnot_t h))) (selB_ot h25)))), (fun h27 => (Exists.elim (q1.2.2 (bnot_f (selB_of h27).1) (of_decide_eq_true (bnot_f (selB_of h27).2))) fun I q28 => Exists.intro I (Exists.elim q28 fun μ q29 => Exists.intro μ ⟨q29.1, (fun x => (fun h30 => (fun h31 => ⟨(fun h70 => ⟨⟨((((q29.2 x) h30) h31).1 (of_decide_eq_true h70)).1, (of_decide_eq_true h70)⟩, ⟨⟨((((q29.2 x) h30) h31).1 (of_decide_eq_true h70)).1, ((((q29.2 x) h30) h31).1 (of_decide_eq_true h70)).2.1⟩, ⟨(fun h77 => ⟨⟨h77, h77⟩, ⟨((((q29.2 x) h30) h31).1 (of_decide_eq_true h70)).1, ((((q29.2 x) h30) h31).1 (of_decide_eq_true h70)).2.1⟩⟩), ⟨(fun h83 => h83), ⟨(fun h88 => h88), ⟨(fun h92 => ⟨h92, h92⟩), ⟨(fun h95 => (bnot_t2 h95)), ⟨(fun h101 => (((((q29.2 x) h30) h31).1 (of_decide_eq_true h70)).2.2.1 (Or.imp (fun h => (of_decide_eq_true h)) (fun h => (of_decide_eq_true h)) (selB_ot h101)))), (fun h103 => ⟨⟨((((q29.2 x) h30) h31).1 (of_decide_eq_true h70)).1, ((((q29.2 x) h30) h31).1 (of_decide_eq_true h70)).2.1⟩, ⟨(((((q29.2 x) h30) h31).1 (of_decide_eq_true h70)).2.2.2 (Int.not_lt.1 (of_decide_eq_false (selB_of h103).1)) (Int.not_le.1 (of_decide_eq_false (selB_of h103).2))).1, ⟨(((((q29.2 x) h30) h31).1 (of_decide_eq_true h70)).2.2.2 (Int.not_lt.1 (of_decide_eq_false (selB_of h103).1)) (Int.not_le.1 (of_decide_eq_false (selB_of h103).2))).2.1, ⟨(((((q29.2 x) h30) h31).1 (of_decide_eq_true h70)).2.2.2 (Int.not_lt.1 (of_decide_eq_false (selB_of h103).1)) (Int.not_le.1 (of_decide_eq_false (selB_of h103).2))).2.2.1, ⟨(((((q29.2 x) h30) h31).1 (of_decide_eq_true h70)).2.2.2 (Int.not_lt.1 (of_decide_eq_false (selB_of h103).1)) (Int.not_le.1 (of_decide_eq_false (selB_of h103).2))).2.2.2.1, ⟨(((((q29.2 x) h30) h31).1 (of_decide_eq_true h70)).2.2.2 (Int.not_lt.1 (of_decide_eq_false (selB_of h103).1)) (Int.not_le.1 (of_decide_eq_false (selB_of h103).2))).2.2.2.2.1, (((((q29.2 x) h30) h31).1 (of_decide_eq_true h70)).2.2.2 (Int.not_lt.1 (of_decide_eq_false (selB_of h103).1)) (Int.not_le.1 (of_decide_eq_false (selB_of h103).2))).2.2.2.2.2⟩⟩⟩⟩⟩⟩)⟩⟩⟩⟩⟩⟩⟩⟩), (fun h105 => ((((q29.2 x) h30) h31).2 (Int.not_lt.1 (of_decide_eq_false h105))))⟩)))⟩)))⟩⟩⟩⟩⟩⟩)
/- foresight/foresightref01.Make -/
def cx12 : Cx := { T := tT, own := ownT, frz := [], loops := [(120007, 290, ⟨[.val 6 (.int .i64), .val 7 (.int .i64), .val 8 (.int .i64)], 0⟩)], cuts := [], inl := inlT }
set_option maxRecDepth 1000000 in
theorem of12 (l : (Ty.T (.sl (.st (.pair .str (.pair .bool (.pair (.int .i64) .unit))))))) (vals : (Ty.T (.sl (.int .i64)))) (r : Ty.T (.tup (.pair (.int .i64) (.pair .bool .unit)))) (h : ∀ R : Ty.T (.tup (.pair (.int .i64) (.pair .bool .unit))) → Prop, (∀ x, R x ↔ x = r) → WF (.sl (.st (.pair .str (.pair .bool (.pair (.int .i64) .unit))))) l → WF (.sl (.int .i64)) vals → 
    ∃ r : Bool,
    (CallP Tryd.prog tT (14 : Nat) [(AV.c (Cap.d (Ty.sl (Ty.st (Ty.pair Ty.str (Ty.pair Ty.bool (Ty.pair (Ty.int Go.IntKind.i64) Ty.unit))))) l))] Ty.bool r ∧
    ((((!(!r)) = true) →
      ((!(!r)) = true)) ∧
    ((((!(!r)) = true) →
      ((!(!r)) = true)) ∧
    ((((!(!r)) = true) →
      (((!(!r)) = true) ∧
      ((!(!r)) = true))) ∧
    ((((!r) = false) →
      ((!(!r)) = true)) ∧
    ((((selB (!r) true (!(decide ((((List.length vals) : Nat) : Int) = (((List.length l) : Nat) : Int))))) = true) →
      (R ((0 : Int), (false, ())))) ∧
    (((selB (!r) true (!(decide ((((List.length vals) : Nat) : Int) = (((List.length l) : Nat) : Int))))) = false) →
      ∃ I : ((Int × (Int × (Int × Unit))) → Prop),
      ∃ μ : ((Int × (Int × (Int × Unit))) → Nat),
      ((I ((0 : Int), ((1 : Int), ((0 : Int), ())))) ∧
      ∀ x : (Int × (Int × (Int × Unit))),
      ((WF (Ty.int Go.IntKind.i64) x.1 ∧
        (WF (Ty.int Go.IntKind.i64) x.2.1 ∧
        (WF (Ty.int Go.IntKind.i64) x.2.2.1 ∧
        True))) →
        ((I x) →
          ((((decide (x.2.2.1 < (((List.length l) : Nat) : Int))) = true) →
            ((((0 : Int) ≤ x.2.2.1) ∧
            (x.2.2.1 < (((List.length vals) : Nat) : Int))) ∧
            ((((!(decide ((List.getD vals (Int.toNat x.2.2.1) (0 : Int)) < (0 : Int)))) = true) →
              ((((!(decide ((List.getD vals (Int.toNat x.2.2.1) (0 : Int)) < (0 : Int)))) = true) ∧
              ((!(decide ((List.getD vals (Int.toNat x.2.2.1) (0 : Int)) < (0 : Int)))) = true)) ∧
              (((0 : Int) ≤ x.2.2.1) ∧
              (x.2.2.1 < (((List.length vals) : Nat) : Int))))) ∧
            ((((!(decide ((List.getD vals (Int.toNat x.2.2.1) (0 : Int)) < (0 : Int)))) = true) →
              ((!(decide ((List.getD vals (Int.toNat x.2.2.1) (0 : Int)) < (0 : Int)))) = true)) ∧
            ((((!(decide ((List.getD vals (Int.toNat x.2.2.1) (0 : Int)) < (0 : Int)))) = true) →
              ((((!(decide ((List.getD vals (Int.toNat x.2.2.1) (0 : Int)) < (0 : Int)))) = true) ∧
              ((!(decide ((List.getD vals (Int.toNat x.2.2.1) (0 : Int)) < (0 : Int)))) = true)) ∧
              (((0 : Int) ≤ x.2.2.1) ∧
              (x.2.2.1 < (((List.length l) : Nat) : Int))))) ∧
            ((((!(decide ((List.getD vals (Int.toNat x.2.2.1) (0 : Int)) < (0 : Int)))) = true) →
              ((!(decide ((List.getD vals (Int.toNat x.2.2.1) (0 : Int)) < (0 : Int)))) = true)) ∧
            ((((!(decide ((List.getD vals (Int.toNat x.2.2.1) (0 : Int)) < (0 : Int)))) = true) →
              ((!(decide ((List.getD vals (Int.toNat x.2.2.1) (0 : Int)) < (0 : Int)))) = true)) ∧
            ((((!(decide ((List.getD vals (Int.toNat x.2.2.1) (0 : Int)) < (0 : Int)))) = true) →
              (((!(decide ((List.getD vals (Int.toNat x.2.2.1) (0 : Int)) < (0 : Int)))) = true) ∧
              ((!(decide ((List.getD vals (Int.toNat x.2.2.1) (0 : Int)) < (0 : Int)))) = true))) ∧
            ((((decide ((List.getD vals (Int.toNat x.2.2.1) (0 : Int)) < (0 : Int))) = false) →
              ((!(decide ((List.getD vals (Int.toNat x.2.2.1) (0 : Int)) < (0 : Int)))) = true)) ∧
            ((((selB (decide ((List.getD vals (Int.toNat x.2.2.1) (0 : Int)) < (0 : Int))) true (decide ((List.getD l (Int.toNat x.2.2.1) (([] : List UInt8), (false, ((0 : Int), ())))).2.2.1 ≤ (List.getD vals (Int.toNat x.2.2.1) (0 : Int))))) = true) →
              (R ((0 : Int), (false, ())))) ∧
            (((selB (decide ((List.getD vals (Int.toNat x.2.2.1) (0 : Int)) < (0 : Int))) true (decide ((List.getD l (Int.toNat x.2.2.1) (([] : List UInt8), (false, ((0 : Int), ())))).2.2.1 ≤ (List.getD vals (Int.toNat x.2.2.1) (0 : Int))))) = false) →
              ((((0 : Int) ≤ x.2.2.1) ∧
              (x.2.2.1 < (((List.length vals) : Nat) : Int))) ∧
              (inK Go.IntKind.i64 (x.2.1 * (List.getD vals (Int.toNat x.2.2.1) (0 : Int))) ∧
              (inK Go.IntKind.i64 (x.1 + (x.2.1 * (List.getD vals (Int.toNat x.2.2.1) (0 : Int)))) ∧
              ((((0 : Int) ≤ x.2.2.1) ∧
              (x.2.2.1 < (((List.length l) : Nat) : Int))) ∧
              (inK Go.IntKind.i64 (x.2.1 * (List.getD l (Int.toNat x.2.2.1) (([] : List UInt8), (false, ((0 : Int), ())))).2.2.1) ∧
              (inK Go.IntKind.i64 (x.2.2.1 + (1 : Int)) ∧
              ((I ((x.1 + (x.2.1 * (List.getD vals (Int.toNat x.2.2.1) (0 : Int)))), ((x.2.1 * (List.getD l (Int.toNat x.2.2.1) (([] : List UInt8), (false, ((0 : Int), ())))).2.2.1), ((x.2.2.1 + (1 : Int)), ())))) ∧
              ((μ ((x.1 + (x.2.1 * (List.getD vals (Int.toNat x.2.2.1) (0 : Int)))), ((x.2.1 * (List.getD l (Int.toNat x.2.2.1) (([] : List UInt8), (false, ((0 : Int), ())))).2.2.1), ((x.2.2.1 + (1 : Int)), ())))) < (μ x)))))))))))))))))))) ∧
          (((decide (x.2.2.1 < (((List.length l) : Nat) : Int))) = false) →
            (R (x.1, (true, ())))))))))))))))) : CallP Tryd.prog tT 12 [.d (.sl (.st (.pair .str (.pair .bool (.pair (.int .i64) .unit))))) l, .d (.sl (.int .i64)) vals] (.tup (.pair (.int .i64) (.pair .bool .unit))) r :=
  callP_of (cx := cx12) (d := 6) mixed tab_ok inl_ok Tryd.func12 ⟨fun _ _ => by kernel_rfl⟩ rfl rfl fun wf => Eq.mpr (by kernel_rfl) (h (fun x => x = r) (fun _ => Iff.rfl) (wf.1 rfl) (wf.2.1 rfl))
set_option maxRecDepth 1000000 in
theorem sf12 (l : (Ty.T (.sl (.st (.pair .str (.pair .bool (.pair (.int .i64) .unit))))))) (vals : (Ty.T (.sl (.int .i64)))) (r : Ty.T (.tup (.pair (.int .i64) (.pair .bool .unit)))) (h : ∀ R : Ty.T (.tup (.pair (.int .i64) (.pair .bool .unit))) → Prop, (∀ x, R x ↔ x = r) → WF (.sl (.st (.pair .str (.pair .bool (.pair (.int .i64) .unit))))) l → WF (.sl (.int .i64)) vals → 
    (∃ r : Bool,
    (CallP Tryd.prog tT (14 : Nat) [(AV.c (Cap.d (Ty.sl (Ty.st (Ty.pair Ty.str (Ty.pair Ty.bool (Ty.pair (Ty.int Go.IntKind.i64) Ty.unit))))) l))] Ty.bool r ∧
    ((((r = false) ∨ (¬ ((((List.length vals) : Nat) : Int) = (((List.length l) : Nat) : Int)))) →
      (R ((0 : Int), (false, ())))) ∧
    ((r = true) → ((((List.length vals) : Nat) : Int) = (((List.length l) : Nat) : Int)) →
      (∃ I : ((Int × (Int × (Int × Unit))) → Prop),
      (∃ μ : ((Int × (Int × (Int × Unit))) → Nat),
      ((I ((0 : Int), ((1 : Int), ((0 : Int), ())))) ∧
      (∀ x : (Int × (Int × (Int × Unit))),
      ((WF (Ty.int Go.IntKind.i64) x.1 ∧
        (WF (Ty.int Go.IntKind.i64) x.2.1 ∧
        (WF (Ty.int Go.IntKind.i64) x.2.2.1 ∧
        True))) →
        ((I x) →
          (((x.2.2.1 < (((List.length l) : Nat) : Int)) →
            ((((0 : Int) ≤ x.2.2.1) ∧
            (x.2.2.1 < (((List.length vals) : Nat) : Int))) ∧
            (((((List.getD vals (Int.toNat x.2.2.1) (0 : Int)) < (0 : Int)) ∨ ((List.getD l (Int.toNat x.2.2.1) (([] : List UInt8), (false, ((0 : Int), ())))).2.2.1 ≤ (List.getD vals (Int.toNat x.2.2.1) (0 : Int)))) →
              (R ((0 : Int), (false, ())))) ∧
            (((0 : Int) ≤ (List.getD vals (Int.toNat x.2.2.1) (0 : Int))) → ((List.getD vals (Int.toNat x.2.2.1) (0 : Int)) < (List.getD l (Int.toNat x.2.2.1) (([] : List UInt8), (false, ((0 : Int), ())))).2.2.1) →
              (inK Go.IntKind.i64 (x.2.1 * (List.getD vals (Int.toNat x.2.2.1) (0 : Int))) ∧
              (inK Go.IntKind.i64 (x.1 + (x.2.1 * (List.getD vals (Int.toNat x.2.2.1) (0 : Int)))) ∧
              (inK Go.IntKind.i64 (x.2.1 * (List.getD l (Int.toNat x.2.2.1) (([] : List UInt8), (false, ((0 : Int), ())))).2.2.1) ∧
              (inK Go.IntKind.i64 (x.2.2.1 + (1 : Int)) ∧
              ((I ((x.1 + (x.2.1 * (List.getD vals (Int.toNat x.2.2.1) (0 : Int)))), ((x.2.1 * (List.getD l (Int.toNat x.2.2.1) (([] : List UInt8), (false, ((0 : Int), ())))).2.2.1), ((x.2.2.1 + (1 : Int)), ())))) ∧
              ((μ ((x.1 + (x.2.1 * (List.getD vals (Int.toNat x.2.2.1) (0 : Int)))), ((x.2.1 * (List.getD l (Int.toNat x.2.2.1) (([] : List UInt8), (false, ((0 : Int), ())))).2.2.1), ((x.2.2.1 + (1 : Int)), ())))) < (μ x))))))))))) ∧
          (((((List.length l) : Nat) : Int) ≤ x.2.2.1) →
            (R (x.1, (true, ())))))))))))))))) : CallP Tryd.prog tT 12 [.d (.sl (.st (.pair .str (.pair .bool (.pair (.int .i64) .unit))))) l, .d (.sl (.int .i64)) vals] (.tup (.pair (.int .i64) (.pair .bool .unit))) r :=
  of12 l vals r fun R hR w0_ w1_ => have p := h R hR w0_ w1_
    (Exists.elim p fun r q1 => Exists.intro r ⟨q1.1, ⟨(fun h7 => h7), ⟨(fun h12 => h12), ⟨(fun h16 => ⟨h16, h16⟩), ⟨(fun h19 => (bnot_t2 h19)), ⟨(fun h25 => (q1.2.1 (Or.imp (fun h => (bnot_t h)) (fun h => (of_decide_eq_false (bnot_t h))) (selB_ot h25)))), (fun h27 => (Exists.elim (q1.2.2 (bnot_f (selB_of h27).1) (of_decide_eq_true (bnot_f (selB_of h27).2))) fun I q28 => Exists.intro I (Exists.elim q28 fun μ q29 => Exists.intro μ ⟨q29.1, (fun x => (fun h30 => (fun h31 => ⟨(fun h87 => ⟨⟨((((q29.2 x) h30) h31).1 (of_decide_eq_true h87)).1.1, ((((q29.2 x) h30) h31).1 (of_decide_eq_true h87)).1.2⟩, ⟨(fun h96 => ⟨⟨h96, h96⟩, ⟨((((q29.2 x) h30) h31).1 (of_decide_eq_true h87)).1.1, ((((q29.2 x) h30) h31).1 (of_decide_eq_true h87)).1.2⟩⟩), ⟨(fun h104 => h104), ⟨(fun h111 => ⟨⟨h111, h111⟩, ⟨((((q29.2 x) h30) h31).1 (of_decide_eq_true h87)).1.1, (of_decide_eq_true h87)⟩⟩), ⟨(fun h117 => h117), ⟨(fun h122 => h122), ⟨(fun h126 => ⟨h126, h126⟩), ⟨(fun h129 => (bnot_t2 h129)), ⟨(fun h135 => (((((q29.2 x) h30) h31).1 (of_decide_eq_true h87)).2.1 (Or.imp (fun h => (of_decide_eq_true h)) (fun h => (of_decide_eq_true h)) (selB_ot h135)))), (fun h137 => ⟨⟨((((q29.2 x) h30) h31).1 (of_decide_eq_true h87)).1.1, ((((q29.2 x) h30) h31).1 (of_decide_eq_true h87)).1.2⟩, ⟨(((((q29.2 x) h30) h31).1 (of_decide_eq_true h87)).2.2 (Int.not_lt.1 (of_decide_eq_false (selB_of h137).1)) (Int.not_le.1 (of_decide_eq_false (selB_of h137).2))).1, ⟨(((((q29.2 x) h30) h31).1 (of_decide_eq_true h87)).2.2 (Int.not_lt.1 (of_decide_eq_false (selB_of h137).1)) (Int.not_le.1 (of_decide_eq_false (selB_of h137).2))).2.1, ⟨⟨((((q29.2 x) h30) h31).1 (of_decide_eq_true h87)).1.1, (of_decide_eq_true h87)⟩, ⟨(((((q29.2 x) h30) h31).1 (of_decide_eq_true h87)).2.2 (Int.not_lt.1 (of_decide_eq_false (selB_of h137).1)) (Int.not_le.1 (of_decide_eq_false (selB_of h137).2))).2.2.1, ⟨(((((q29.2 x) h30) h31).1 (of_decide_eq_true h87)).2.2 (Int.not_lt.1 (of_decide_eq_false (selB_of h137).1)) (Int.not_le.1 (of_decide_eq_false (selB_of h137).2))).2.2.2.1, ⟨(((((q29.2 x) h30) h31).1 (of_decide_eq_true h87)).2.2 (Int.not_lt.1 (of_decide_eq_false (selB_of h137).1)) (Int.not_le.1 (of_decide_eq_false (selB_of h137).2))).2.2.2.2.1, (((((q29.2 x) h30) h31).1 (of_decide_eq_true h87)).2.2 (Int.not_lt.1 (of_decide_eq_false (selB_of h137).1)) (Int.not_le.1 (of_decide_eq_false (selB_of h137).2))).2.2.2.2.2⟩⟩⟩⟩⟩⟩⟩)⟩⟩⟩⟩⟩⟩⟩⟩⟩), (fun h139 => ((((q29.2 x) h30) h31).2 (Int.not_lt.1 (of_decide_eq_false h139))))⟩)))⟩)))⟩⟩⟩⟩⟩⟩)
/- foresight/signal.Valid -/
def cx13 : Cx := { T := tT, own := ownT, frz := [], loops := [(130004, 153, ⟨[.val 3 (.int .i64), .val 8 (.int .i64)], 0⟩)], cuts := [], inl := inlT }
set_option maxRecDepth 1000000 in
theorem of13 (l : (Ty.T (.sl (.st (.pair .str (.pair .bool (.pair (.int .i64) .unit))))))) (r : Ty.T .bool) (h : ∀ R : Ty.T .bool → Prop, (∀ x, R x ↔ x = r) → WF (.sl (.st (.pair .str (.pair .bool (.pair (.int .i64) .unit))))) l → 
    ∃ I : ((Int × (Int × Unit)) → Prop),
    ∃ μ : ((Int × (Int × Unit)) → Nat),
    ((I ((1 : Int), ((0 : Int), ()))) ∧
    ∀ x : (Int × (Int × Unit)),
    ((WF (Ty.int Go.IntKind.i64) x.1 ∧
      (WF (Ty.int Go.IntKind.i64) x.2.1 ∧
      True)) →
      ((I x) →
        ((((decide (x.2.1 < (((List.length l) : Nat) : Int))) = true) →
          ((((0 : Int) ≤ x.2.1) ∧
          (x.2.1 < (((List.length l) : Nat) : Int))) ∧
          ((((!(decide ((6 : Int) ≤ x.2.1))) = true) →
            ((!(decide ((6 : Int) ≤ x.2.1))) = true)) ∧
          ∃ r : Bool,
          ((((!(decide ((6 : Int) ≤ x.2.1))) = true) →
            (((!(decide ((6 : Int) ≤ x.2.1))) = true) ∧
            CallP Tryd.prog tT (15 : Nat) [(AV.c (Cap.d Ty.str (List.getD l (Int.toNat x.2.1) (([] : List UInt8), (false, ((0 : Int), ())))).1))] Ty.bool r)) ∧
          ((((!(decide ((6 : Int) ≤ x.2.1))) = true) →
            ((!(decide ((6 : Int) ≤ x.2.1))) = true)) ∧
          ((((decide ((6 : Int) ≤ x.2.1)) = false) →
            ((!(decide ((6 : Int) ≤ x.2.1))) = true)) ∧
          ((((!(selB (decide ((6 : Int) ≤ x.2.1)) true (!r))) = true) →
            ((!(selB (decide ((6 : Int) ≤ x.2.1)) true (!r))) = true)) ∧
          ∃ r1 : Int,
          ((((!(selB (decide ((6 : Int) ≤ x.2.1)) true (!r))) = true) →
            ((((!(selB (decide ((6 : Int) ≤ x.2.1)) true (!r))) = true) ∧
            ((!(selB (decide ((6 : Int) ≤ x.2.1)) true (!r))) = true)) ∧
            CallP Tryd.prog tT (17 : Nat) [(AV.c (Cap.d (Ty.sl (Ty.st (Ty.pair Ty.str (Ty.pair Ty.bool (Ty.pair (Ty.int Go.IntKind.i64) Ty.unit))))) l)), (AV.c (Cap.d Ty.str (List.getD l (Int.toNat x.2.1) (([] : List UInt8), (false, ((0 : Int), ())))).1))] (Ty.int Go.IntKind.i64) r1)) ∧
          ((((!(selB (decide ((6 : Int) ≤ x.2.1)) true (!r))) = true) →
            (((!(selB (decide ((6 : Int) ≤ x.2.1)) true (!r))) = true) ∧
            ((!(selB (decide ((6 : Int) ≤ x.2.1)) true (!r))) = true))) ∧
          ((((selB (decide ((6 : Int) ≤ x.2.1)) true (!r)) = false) →
            ((!(selB (decide ((6 : Int) ≤ x.2.1)) true (!r))) = true)) ∧
          ((((!(selB (selB (decide ((6 : Int) ≤ x.2.1)) true (!r)) true (!(decide (r1 = x.2.1))))) = true) →
            ((!(selB (selB (decide ((6 : Int) ≤ x.2.1)) true (!r)) true (!(decide (r1 = x.2.1))))) = true)) ∧
          ((((!(selB (selB (decide ((6 : Int) ≤ x.2.1)) true (!r)) true (!(decide (r1 = x.2.1))))) = true) →
            ((!(selB (selB (decide ((6 : Int) ≤ x.2.1)) true (!r)) true (!(decide (r1 = x.2.1))))) = true)) ∧
          ((((selB (selB (decide ((6 : Int) ≤ x.2.1)) true (!r)) true (!(decide (r1 = x.2.1)))) = false) →
            ((!(selB (selB (decide ((6 : Int) ≤ x.2.1)) true (!r)) true (!(decide (r1 = x.2.1))))) = true)) ∧
          ((((!(selB (selB (selB (decide ((6 : Int) ≤ x.2.1)) true (!r)) true (!(decide (r1 = x.2.1)))) true (decide ((List.getD l (Int.toNat x.2.1) (([] : List UInt8), (false, ((0 : Int), ())))).2.2.1 < (2 : Int))))) = true) →
            ((!(selB (selB (selB (decide ((6 : Int) ≤ x.2.1)) true (!r)) true (!(decide (r1 = x.2.1)))) true (decide ((List.getD l (Int.toNat x.2.1) (([] : List UInt8), (false, ((0 : Int), ())))).2.2.1 < (2 : Int))))) = true)) ∧
          ((((!(selB (selB (selB (decide ((6 : Int) ≤ x.2.1)) true (!r)) true (!(decide (r1 = x.2.1)))) true (decide ((List.getD l (Int.toNat x.2.1) (([] : List UInt8), (false, ((0 : Int), ())))).2.2.1 < (2 : Int))))) = true) →
            ((!(selB (selB (selB (decide ((6 : Int) ≤ x.2.1)) true (!r)) true (!(decide (r1 = x.2.1)))) true (decide ((List.getD l (Int.toNat x.2.1) (([] : List UInt8), (false, ((0 : Int), ())))).2.2.1 < (2 : Int))))) = true)) ∧
          ((((selB (selB (selB (decide ((6 : Int) ≤ x.2.1)) true (!r)) true (!(decide (r1 = x.2.1)))) true (decide ((List.getD l (Int.toNat x.2.1) (([] : List UInt8), (false, ((0 : Int), ())))).2.2.1 < (2 : Int)))) = false) →
            ((!(selB (selB (selB (decide ((6 : Int) ≤ x.2.1)) true (!r)) true (!(decide (r1 = x.2.1)))) true (decide ((List.getD l (Int.toNat x.2.1) (([] : List UInt8), (false, ((0 : Int), ())))).2.2.1 < (2 : Int))))) = true)) ∧
          ((((selB (selB (selB (selB (decide ((6 : Int) ≤ x.2.1)) true (!r)) true (!(decide (r1 = x.2.1)))) true (decide ((List.getD l (Int.toNat x.2.1) (([] : List UInt8), (false, ((0 : Int), ())))).2.2.1 < (2 : Int)))) true (decide ((4 : Int) < (List.getD l (Int.toNat x.2.1) (([] : List UInt8), (false, ((0 : Int), ())))).2.2.1))) = true) →
            (R false)) ∧
          (((selB (selB (selB (selB (decide ((6 : Int) ≤ x.2.1)) true (!r)) true (!(decide (r1 = x.2.1)))) true (decide ((List.getD l (Int.toNat x.2.1) (([] : List UInt8), (false, ((0 : Int), ())))).2.2.1 < (2 : Int)))) true (decide ((4 : Int) < (List.getD l (Int.toNat x.2.1) (([] : List UInt8), (false, ((0 : Int), ())))).2.2.1))) = false) →
            (inK Go.IntKind.i64 (x.1 * (List.getD l (Int.toNat x.2.1) (([] : List UInt8), (false, ((0 : Int), ())))).2.2.1) ∧
            (inK Go.IntKind.i64 (x.2.1 + (1 : Int)) ∧
            ((I ((x.1 * (List.getD l (Int.toNat x.2.1) (([] : List UInt8), (false, ((0 : Int), ())))).2.2.1), ((x.2.1 + (1 : Int)), ()))) ∧
            ((μ ((x.1 * (List.getD l (Int.toNat x.2.1) (([] : List UInt8), (false, ((0 : Int), ())))).2.2.1), ((x.2.1 + (1 : Int)), ()))) < (μ x))))))))))))))))))))))) ∧
        (((decide (x.2.1 < (((List.length l) : Nat) : Int))) = false) →
          ((((decide ((0 : Int) < (((List.length l) : Nat) : Int))) = true) →
            ((decide ((0 : Int) < (((List.length l) : Nat) : Int))) = true)) ∧
          ((((decide ((0 : Int) < (((List.length l) : Nat) : Int))) = true) →
            ((decide ((0 : Int) < (((List.length l) : Nat) : Int))) = true)) ∧
          (R (selB (decide ((0 : Int) < (((List.length l) : Nat) : Int))) (decide (x.1 ≤ (64 : Int))) false)))))))))) : CallP Tryd.prog tT 13 [.d (.sl (.st (.pair .str (.pair .bool (.pair (.int .i64) .unit))))) l] .bool r :=
  callP_of (cx := cx13) (d := 6) mixed tab_ok inl_ok Tryd.func13 ⟨fun _ _ => by kernel_rfl⟩ rfl rfl fun wf => Eq.mpr (by kernel_rfl) (h (fun x => x = r) (fun _ => Iff.rfl) (wf.1 rfl))
set_option maxRecDepth 1000000 in
theorem sf13 (l : (Ty.T (.sl (.st (.pair .str (.pair .bool (.pair (.int .i64) .unit))))))) (r : Ty.T .bool) (h : ∀ R : Ty.T .bool → Prop, (∀ x, R x ↔ x = r) → WF (.sl (.st (.pair .str (.pair .bool (.pair (.int .i64) .unit))))) l → 
    (∃ I : ((Int × (Int × Unit)) → Prop),
    (∃ μ : ((Int × (Int × Unit)) → Nat),
    ((I ((1 : Int), ((0 : Int), ()))) ∧
    (∀ x : (Int × (Int × Unit)),
    ((WF (Ty.int Go.IntKind.i64) x.1 ∧
      (WF (Ty.int Go.IntKind.i64) x.2.1 ∧
      True)) →
      ((I x) →
        (((x.2.1 < (((List.length l) : Nat) : Int)) →
          (((0 : Int) ≤ x.2.1) ∧
          (∃ r : Bool,
          (((x.2.1 < (6 : Int)) →
            CallP Tryd.prog tT (15 : Nat) [(AV.c (Cap.d Ty.str (List.getD l (Int.toNat x.2.1) (([] : List UInt8), (false, ((0 : Int), ())))).1))] Ty.bool r) ∧
          (∃ r1 : Int,
          (((x.2.1 < (6 : Int)) → (r = true) →
            CallP Tryd.prog tT (17 : Nat) [(AV.c (Cap.d (Ty.sl (Ty.st (Ty.pair Ty.str (Ty.pair Ty.bool (Ty.pair (Ty.int Go.IntKind.i64) Ty.unit))))) l)), (AV.c (Cap.d Ty.str (List.getD l (Int.toNat x.2.1) (([] : List UInt8), (false, ((0 : Int), ())))).1))] (Ty.int Go.IntKind.i64) r1) ∧
          ((((((((6 : Int) ≤ x.2.1) ∨ (r = false)) ∨ (¬ (r1 = x.2.1))) ∨ ((List.getD l (Int.toNat x.2.1) (([] : List UInt8), (false, ((0 : Int), ())))).2.2.1 < (2 : Int))) ∨ ((4 : Int) < (List.getD l (Int.toNat x.2.1) (([] : List UInt8), (false, ((0 : Int), ())))).2.2.1)) →
            (R false)) ∧
          ((x.2.1 < (6 : Int)) → (r = true) → (r1 = x.2.1) → ((2 : Int) ≤ (List.getD l (Int.toNat x.2.1) (([] : List UInt8), (false, ((0 : Int), ())))).2.2.1) → ((List.getD l (Int.toNat x.2.1) (([] : List UInt8), (false, ((0 : Int), ())))).2.2.1 ≤ (4 : Int)) →
            (inK Go.IntKind.i64 (x.1 * (List.getD l (Int.toNat x.2.1) (([] : List UInt8), (false, ((0 : Int), ())))).2.2.1) ∧
            (inK Go.IntKind.i64 (x.2.1 + (1 : Int)) ∧
            ((I ((x.1 * (List.getD l (Int.toNat x.2.1) (([] : List UInt8), (false, ((0 : Int), ())))).2.2.1), ((x.2.1 + (1 : Int)), ()))) ∧
            ((μ ((x.1 * (List.getD l (Int.toNat x.2.1) (([] : List UInt8), (false, ((0 : Int), ())))).2.2.1), ((x.2.1 + (1 : Int)), ()))) < (μ x))))))))))))) ∧
        (((((List.length l) : Nat) : Int) ≤ x.2.1) →
          (R (selB (decide ((0 : Int) < (((List.length l) : Nat) : Int))) (decide (x.1 ≤ (64 : Int))) false))))))))))) : CallP Tryd.prog tT 13 [.d (.sl (.st (.pair .str (.pair .bool (.pair (.int .i64) .unit))))) l] .bool r :=
  of13 l r fun R hR w0_ => have p := h R hR w0_
    (Exists.elim p fun I q1 => Exists.intro I (Exists.elim q1 fun μ q2 => Exists.intro μ ⟨q2.1, (fun x => (fun h3 => (fun h4 => ⟨(fun h95 => ⟨⟨((((q2.2 x) h3) h4).1 (of_decide_eq_true h95)).1, (of_decide_eq_true h95)⟩, ⟨(fun h97 => h97), (Exists.elim ((((q2.2 x) h3) h4).1 (of_decide_eq_true h95)).2 fun r q98 => Exists.intro r ⟨(fun h104 => ⟨h104, (q98.1 (Int.not_le.1 (of_decide_eq_false (bnot_t h104))))⟩), ⟨(fun h108 => h108), ⟨(fun h111 => (bnot_t2 h111)), ⟨(fun h113 => h113), (Exists.elim q98.2 fun r1 q114 => Exists.intro r1 ⟨(fun h120 => ⟨⟨h120, h120⟩, (q114.1 (Int.not_le.1 (of_decide_eq_false (selB_of (bnot_t h120)).1)) (bnot_f (selB_of (bnot_t h120)).2))⟩), ⟨(fun h130 => ⟨h130, h130⟩), ⟨(fun h139 => (bnot_t2 h139)), ⟨(fun h147 => h147), ⟨(fun h154 => h154), ⟨(fun h160 => (bnot_t2 h160)), ⟨(fun h165 => h165), ⟨(fun h169 => h169), ⟨(fun h172 => (bnot_t2 h172)), ⟨(fun h178 => (q114.2.1 (Or.imp (fun h => (Or.imp (fun h => (Or.imp (fun h => (Or.imp (fun h => (of_decide_eq_true h)) (fun h => (bnot_t h)) (selB_ot h))) (fun h => (of_decide_eq_false (bnot_t h))) (selB_ot h))) (fun h => (of_decide_eq_true h)) (selB_ot h))) (fun h => (of_decide_eq_true h)) (selB_ot h178)))), (fun h180 => ⟨(q114.2.2 (Int.not_le.1 (of_decide_eq_false (selB_of (selB_of (selB_of (selB_of h180).1).1).1).1)) (bnot_f (selB_of (selB_of (selB_of (selB_of h180).1).1).1).2) (of_decide_eq_true (bnot_f (selB_of (selB_of (selB_of h180).1).1).2)) (Int.not_lt.1 (of_decide_eq_false (selB_of (selB_of h180).1).2)) (Int.not_lt.1 (of_decide_eq_false (selB_of h180).2))).1, ⟨(q114.2.2 (Int.not_le.1 (of_decide_eq_false (selB_of (selB_of (selB_of (selB_of h180).1).1).1).1)) (bnot_f (selB_of (selB_of (selB_of (selB_of h180).1).1).1).2) (of_decide_eq_true (bnot_f (selB_of (selB_of (selB_of h180).1).1).2)) (Int.not_lt.1 (of_decide_eq_false (selB_of (selB_of h180).1).2)) (Int.not_lt.1 (of_decide_eq_false (selB_of h180).2))).2.1, ⟨(q114.2.2 (Int.not_le.1 (of_decide_eq_false (selB_of (selB_of (selB_of (selB_of h180).1).1).1).1)) (bnot_f (selB_of (selB_of (selB_of (selB_of h180).1).1).1).2) (of_decide_eq_true (bnot_f (selB_of (selB_of (selB_of h180).1).1).2)) (Int.not_lt.1 (of_decide_eq_false (selB_of (selB_of h180).1).2)) (Int.not_lt.1 (of_decide_eq_false (selB_of h180).2))).2.2.1, (q114.2.2 (Int.not_le.1 (of_decide_eq_false (selB_of (selB_of (selB_of (selB_of h180).1).1).1).1)) (bnot_f (selB_of (selB_of (selB_of (selB_of h180).1).1).1).2) (of_decide_eq_true (bnot_f (selB_of (selB_of (selB_of h180).1).1).2)) (Int.not_lt.1 (of_decide_eq_false (selB_of (selB_of h180).1).2)) (Int.not_lt.1 (of_decide_eq_false (selB_of h180).2))).2.2.2⟩⟩⟩)⟩⟩⟩⟩⟩⟩⟩⟩⟩⟩)⟩⟩⟩⟩)⟩⟩), (fun h184 => ⟨(fun h187 => h187), ⟨(fun h189 => h189), ((((q2.2 x) h3) h4).2 (Int.not_lt.1 (of_decide_eq_false h184)))⟩⟩)⟩)))⟩))
/- foresight/foresightref01.Valid -/
def cx14 : Cx := { T := tT, own := ownT, frz := [], loops := [(140006, 248, ⟨[.val 3 (.int .i64), .val 4 (.int .i64)], 0⟩)], cuts := [], inl := inlT }
set_option maxRecDepth 1000000 in
theorem of14 (l : (Ty.T (.sl (.st (.pair .str (.pair .bool (.pair (.int .i64) .unit))))))) (r : Ty.T .bool) (h : ∀ R : Ty.T .bool → Prop, (∀ x, R x ↔ x = r) → WF (.sl (.st (.pair .str (.pair .bool (.pair (.int .i64) .unit))))) l → 
    ((((!(decide ((((List.length l) : Nat) : Int) < (1 : Int)))) = true) →
      ((!(decide ((((List.length l) : Nat) : Int) < (1 : Int)))) = true)) ∧
    ((((!(decide ((((List.length l) : Nat) : Int) < (1 : Int)))) = true) →
      ((!(decide ((((List.length l) : Nat) : Int) < (1 : Int)))) = true)) ∧
    ((((decide ((((List.length l) : Nat) : Int) < (1 : Int))) = false) →
      ((!(decide ((((List.length l) : Nat) : Int) < (1 : Int)))) = true)) ∧
    ((((selB (decide ((((List.length l) : Nat) : Int) < (1 : Int))) true (decide ((6 : Int) < (((List.length l) : Nat) : Int)))) = true) →
      (R false)) ∧
    (((selB (decide ((((List.length l) : Nat) : Int) < (1 : Int))) true (decide ((6 : Int) < (((List.length l) : Nat) : Int)))) = false) →
      ∃ I : ((Int × (Int × Unit)) → Prop),
      ∃ μ : ((Int × (Int × Unit)) → Nat),
      ((I ((1 : Int), ((0 : Int), ()))) ∧
      ∀ x : (Int × (Int × Unit)),
      ((WF (Ty.int Go.IntKind.i64) x.1 ∧
        (WF (Ty.int Go.IntKind.i64) x.2.1 ∧
        True)) →
        ((I x) →
          ((((decide (x.2.1 < (((List.length l) : Nat) : Int))) = true) →
            ((((0 : Int) ≤ x.2.1) ∧
            (x.2.1 < (((List.length l) : Nat) : Int))) ∧
            ∃ r : Bool,
            (CallP Tryd.prog tT (16 : Nat) [(AV.c (Cap.d Ty.str (List.getD l (Int.toNat x.2.1) (([] : List UInt8), (false, ((0 : Int), ())))).1))] Ty.bool r ∧
            ((((!(!r)) = true) →
              ((((!(!r)) = true) ∧
              ((!(!r)) = true)) ∧
              (((0 : Int) ≤ x.2.1) ∧
              (x.2.1 < (((List.length l) : Nat) : Int))))) ∧
            ((((!(!r)) = true) →
              ((!(!r)) = true)) ∧
            ((((!(!r)) = true) →
              ((!(!r)) = true)) ∧
            ∃ r1 : Int,
            ((((!(!r)) = true) →
              ((((!(!r)) = true) ∧
              ((!(!r)) = true)) ∧
              CallP Tryd.prog tT (18 : Nat) [(AV.c (Cap.d (Ty.sl (Ty.st (Ty.pair Ty.str (Ty.pair Ty.bool (Ty.pair (Ty.int Go.IntKind.i64) Ty.unit))))) l)), (AV.c (Cap.d Ty.str (List.getD l (Int.toNat x.2.1) (([] : List UInt8), (false, ((0 : Int), ())))).1))] (Ty.int Go.IntKind.i64) r1)) ∧
            ((((!(!r)) = true) →
              (((!(!r)) = true) ∧
              ((!(!r)) = true))) ∧
            ((((!r) = false) →
              ((!(!r)) = true)) ∧
            ((((!(selB (!r) true (!(decide (r1 = x.2.1))))) = true) →
              ((((!(selB (!r) true (!(decide (r1 = x.2.1))))) = true) ∧
              ((!(selB (!r) true (!(decide (r1 = x.2.1))))) = true)) ∧
              (((0 : Int) ≤ x.2.1) ∧
              (x.2.1 < (((List.length l) : Nat) : Int))))) ∧
            ((((!(selB (!r) true (!(decide (r1 = x.2.1))))) = true) →
              ((!(selB (!r) true (!(decide (r1 = x.2.1))))) = true)) ∧
            ((((!(selB (!r) true (!(decide (r1 = x.2.1))))) = true) →
              ((!(selB (!r) true (!(decide (r1 = x.2.1))))) = true)) ∧
            ((((!(selB (!r) true (!(decide (r1 = x.2.1))))) = true) →
              ((!(selB (!r) true (!(decide (r1 = x.2.1))))) = true)) ∧
            ((((selB (!r) true (!(decide (r1 = x.2.1)))) = false) →
              ((!(selB (!r) true (!(decide (r1 = x.2.1))))) = true)) ∧
            ((((!(selB (selB (!r) true (!(decide (r1 = x.2.1)))) true (decide ((List.getD l (Int.toNat x.2.1) (([] : List UInt8), (false, ((0 : Int), ())))).2.2.1 < (2 : Int))))) = true) →
              ((((!(selB (selB (!r) true (!(decide (r1 = x.2.1)))) true (decide ((List.getD l (Int.toNat x.2.1) (([] : List UInt8), (false, ((0 : Int), ())))).2.2.1 < (2 : Int))))) = true) ∧
              ((!(selB (selB (!r) true (!(decide (r1 = x.2.1)))) true (decide ((List.getD l (Int.toNat x.2.1) (([] : List UInt8), (false, ((0 : Int), ())))).2.2.1 < (2 : Int))))) = true)) ∧
              (((0 : Int) ≤ x.2.1) ∧
              (x.2.1 < (((List.length l) : Nat) : Int))))) ∧
            ((((!(selB (selB (!r) true (!(decide (r1 = x.2.1)))) true (decide ((List.getD l (Int.toNat x.2.1) (([] : List UInt8), (false, ((0 : Int), ())))).2.2.1 < (2 : Int))))) = true) →
              ((!(selB (selB (!r) true (!(decide (r1 = x.2.1)))) true (decide ((List.getD l (Int.toNat x.2.1) (([] : List UInt8), (false, ((0 : Int), ())))).2.2.1 < (2 : Int))))) = true)) ∧
            ((((!(selB (selB (!r) true (!(decide (r1 = x.2.1)))) true (decide ((List.getD l (Int.toNat x.2.1) (([] : List UInt8), (false, ((0 : Int), ())))).2.2.1 < (2 : Int))))) = true) →
              ((!(selB (selB (!r) true (!(decide (r1 = x.2.1)))) true (decide ((List.getD l (Int.toNat x.2.1) (([] : List UInt8), (false, ((0 : Int), ())))).2.2.1 < (2 : Int))))) = true)) ∧
            ((((!(selB (selB (!r) true (!(decide (r1 = x.2.1)))) true (decide ((List.getD l (Int.toNat x.2.1) (([] : List UInt8), (false, ((0 : Int), ())))).2.2.1 < (2 : Int))))) = true) →
              ((!(selB (selB (!r) true (!(decide (r1 = x.2.1)))) true (decide ((List.getD l (Int.toNat x.2.1) (([] : List UInt8), (false, ((0 : Int), ())))).2.2.1 < (2 : Int))))) = true)) ∧
            ((((selB (selB (!r) true (!(decide (r1 = x.2.1)))) true (decide ((List.getD l (Int.toNat x.2.1) (([] : List UInt8), (false, ((0 : Int), ())))).2.2.1 < (2 : Int)))) = false) →
              ((!(selB (selB (!r) true (!(decide (r1 = x.2.1)))) true (decide ((List.getD l (Int.toNat x.2.1) (([] : List UInt8), (false, ((0 : Int), ())))).2.2.1 < (2 : Int))))) = true)) ∧
            ((((selB (selB (selB (!r) true (!(decide (r1 = x.2.1)))) true (decide ((List.getD l (Int.toNat x.2.1) (([] : List UInt8), (false, ((0 : Int), ())))).2.2.1 < (2 : Int)))) true (decide ((4 : Int) < (List.getD l (Int.toNat x.2.1) (([] : List UInt8), (false, ((0 : Int), ())))).2.2.1))) = true) →
              (R false)) ∧
            (((selB (selB (selB (!r) true (!(decide (r1 = x.2.1)))) true (decide ((List.getD l (Int.toNat x.2.1) (([] : List UInt8), (false, ((0 : Int), ())))).2.2.1 < (2 : Int)))) true (decide ((4 : Int) < (List.getD l (Int.toNat x.2.1) (([] : List UInt8), (false, ((0 : Int), ())))).2.2.1))) = false) →
              ((((0 : Int) ≤ x.2.1) ∧
              (x.2.1 < (((List.length l) : Nat) : Int))) ∧
              (inK Go.IntKind.i64 (x.1 * (List.getD l (Int.toNat x.2.1) (([] : List UInt8), (false, ((0 : Int), ())))).2.2.1) ∧
              (inK Go.IntKind.i64 (x.2.1 + (1 : Int)) ∧
              ((I ((x.1 * (List.getD l (Int.toNat x.2.1) (([] : List UInt8), (false, ((0 : Int), ())))).2.2.1), ((x.2.1 + (1 : Int)), ()))) ∧
              ((μ ((x.1 * (List.getD l (Int.toNat x.2.1) (([] : List UInt8), (false, ((0 : Int), ())))).2.2.1), ((x.2.1 + (1 : Int)), ()))) < (μ x))))))))))))))))))))))))))) ∧
          (((decide (x.2.1 < (((List.length l) : Nat) : Int))) = false) →
            (R (decide (x.1 ≤ (64 : Int))))))))))))))) : CallP Tryd.prog tT 14 [.d (.sl (.st (.pair .str (.pair .bool (.pair (.int .i64) .unit))))) l] .bool r :=
  callP_of (cx := cx14) (d := 6) mixed tab_ok inl_ok Tryd.func14 ⟨fun _ _ => by kernel_rfl⟩ rfl rfl fun wf => Eq.mpr (by kernel_rfl) (h (fun x => x = r) (fun _ => Iff.rfl) (wf.1 rfl))
set_option maxRecDepth 1000000 in
theorem sf14 (l : (Ty.T (.sl (.st (.pair .str (.pair .bool (.pair (.int .i64) .unit))))))) (r : Ty.T .bool) (h : ∀ R : Ty.T .bool → Prop, (∀ x, R x ↔ x = r) → WF (.sl (.st (.pair .str (.pair .bool (.pair (.int .i64) .unit))))) l → 
    (((((((List.length l) : Nat) : Int) < (1 : Int)) ∨ ((6 : Int) < (((List.length l) : Nat) : Int))) →
      (R false)) ∧
    (((1 : Int) ≤ (((List.length l) : Nat) : Int)) → ((((List.length l) : Nat) : Int) ≤ (6 : Int)) →
      (∃ I : ((Int × (Int × Unit)) → Prop),
      (∃ μ : ((Int × (Int × Unit)) → Nat),
      ((I ((1 : Int), ((0 : Int), ()))) ∧
      (∀ x : (Int × (Int × Unit)),
      ((WF (Ty.int Go.IntKind.i64) x.1 ∧
        (WF (Ty.int Go.IntKind.i64) x.2.1 ∧
        True)) →
        ((I x) →
          (((x.2.1 < (((List.length l) : Nat) : Int)) →
            (((0 : Int) ≤ x.2.1) ∧
            (∃ r : Bool,
            (CallP Tryd.prog tT (16 : Nat) [(AV.c (Cap.d Ty.str (List.getD l (Int.toNat x.2.1) (([] : List UInt8), (false, ((0 : Int), ())))).1))] Ty.bool r ∧
            (∃ r1 : Int,
            (((r = true) →
              CallP Tryd.prog tT (18 : Nat) [(AV.c (Cap.d (Ty.sl (Ty.st (Ty.pair Ty.str (Ty.pair Ty.bool (Ty.pair (Ty.int Go.IntKind.i64) Ty.unit))))) l)), (AV.c (Cap.d Ty.str (List.getD l (Int.toNat x.2.1) (([] : List UInt8), (false, ((0 : Int), ())))).1))] (Ty.int Go.IntKind.i64) r1) ∧
            ((((((r = false) ∨ (¬ (r1 = x.2.1))) ∨ ((List.getD l (Int.toNat x.2.1) (([] : List UInt8), (false, ((0 : Int), ())))).2.2.1 < (2 : Int))) ∨ ((4 : Int) < (List.getD l (Int.toNat x.2.1) (([] : List UInt8), (false, ((0 : Int), ())))).2.2.1)) →
              (R false)) ∧
            ((r = true) → (r1 = x.2.1) → ((2 : Int) ≤ (List.getD l (Int.toNat x.2.1) (([] : List UInt8), (false, ((0 : Int), ())))).2.2.1) → ((List.getD l (Int.toNat x.2.1) (([] : List UInt8), (false, ((0 : Int), ())))).2.2.1 ≤ (4 : Int)) →
              (inK Go.IntKind.i64 (x.1 * (List.getD l (Int.toNat x.2.1) (([] : List UInt8), (false, ((0 : Int), ())))).2.2.1) ∧
              (inK Go.IntKind.i64 (x.2.1 + (1 : Int)) ∧
              ((I ((x.1 * (List.getD l (Int.toNat x.2.1) (([] : List UInt8), (false, ((0 : Int), ())))).2.2.1), ((x.2.1 + (1 : Int)), ()))) ∧
              ((μ ((x.1 * (List.getD l (Int.toNat x.2.1) (([] : List UInt8), (false, ((0 : Int), ())))).2.2.1), ((x.2.1 + (1 : Int)), ()))) < (μ x))))))))))))) ∧
          (((((List.length l) : Nat) : Int) ≤ x.2.1) →
            (R (decide (x.1 ≤ (64 : Int))))))))))))))) : CallP Tryd.prog tT 14 [.d (.sl (.st (.pair .str (.pair .bool (.pair (.int .i64) .unit))))) l] .bool r :=
  of14 l r fun R hR w0_ => have p := h R hR w0_
    ⟨(fun h5 => h5), ⟨(fun h9 => h9), ⟨(fun h12 => (bnot_t2 h12)), ⟨(fun h18 => (p.1 (Or.imp (fun h => (of_decide_eq_true h)) (fun h => (of_decide_eq_true h)) (selB_ot h18)))), (fun h20 => (Exists.elim (p.2 (Int.not_lt.1 (of_decide_eq_false (selB_of h20).1)) (Int.not_lt.1 (of_decide_eq_false (selB_of h20).2))) fun I q21 => Exists.intro I (Exists.elim q21 fun μ q22 => Exists.intro μ ⟨q22.1, (fun x => (fun h23 => (fun h24 => ⟨(fun h157 => ⟨⟨((((q22.2 x) h23) h24).1 (of_decide_eq_true h157)).1, (of_decide_eq_true h157)⟩, (Exists.elim ((((q22.2 x) h23) h24).1 (of_decide_eq_true h157)).2 fun r q158 => Exists.intro r ⟨q158.1, ⟨(fun h162 => ⟨⟨h162, h162⟩, ⟨((((q22.2 x) h23) h24).1 (of_decide_eq_true h157)).1, (of_decide_eq_true h157)⟩⟩), ⟨(fun h165 => h165), ⟨(fun h167 => h167), (Exists.elim q158.2 fun r1 q168 => Exists.intro r1 ⟨(fun h174 => ⟨⟨h174, h174⟩, (q168.1 (bnot_f (bnot_t h174)))⟩), ⟨(fun h188 => ⟨h188, h188⟩), ⟨(fun h201 => (bnot_t2 h201)), ⟨(fun h213 => ⟨⟨h213, h213⟩, ⟨((((q22.2 x) h23) h24).1 (of_decide_eq_true h157)).1, (of_decide_eq_true h157)⟩⟩), ⟨(fun h224 => h224), ⟨(fun h234 => h234), ⟨(fun h243 => h243), ⟨(fun h251 => (bnot_t2 h251)), ⟨(fun h258 => ⟨⟨h258, h258⟩, ⟨((((q22.2 x) h23) h24).1 (of_decide_eq_true h157)).1, (of_decide_eq_true h157)⟩⟩), ⟨(fun h264 => h264), ⟨(fun h269 => h269), ⟨(fun h273 => h273), ⟨(fun h276 => (bnot_t2 h276)), ⟨(fun h282 => (q168.2.1 (Or.imp (fun h => (Or.imp (fun h => (Or.imp (fun h => (bnot_t h)) (fun h => (of_decide_eq_false (bnot_t h))) (selB_ot h))) (fun h => (of_decide_eq_true h)) (selB_ot h))) (fun h => (of_decide_eq_true h)) (selB_ot h282)))), (fun h284 => ⟨⟨((((q22.2 x) h23) h24).1 (of_decide_eq_true h157)).1, (of_decide_eq_true h157)⟩, ⟨(q168.2.2 (bnot_f (selB_of (selB_of (selB_of h284).1).1).1) (of_decide_eq_true (bnot_f (selB_of (selB_of (selB_of h284).1).1).2)) (Int.not_lt.1 (of_decide_eq_false (selB_of (selB_of h284).1).2)) (Int.not_lt.1 (of_decide_eq_false (selB_of h284).2))).1, ⟨(q168.2.2 (bnot_f (selB_of (selB_of (selB_of h284).1).1).1) (of_decide_eq_true (bnot_f (selB_of (selB_of (selB_of h284).1).1).2)) (Int.not_lt.1 (of_decide_eq_false (selB_of (selB_of h284).1).2)) (Int.not_lt.1 (of_decide_eq_false (selB_of h284).2))).2.1, ⟨(q168.2.2 (bnot_f (selB_of (selB_of (selB_of h284).1).1).1) (of_decide_eq_true (bnot_f (selB_of (selB_of (selB_of h284).1).1).2)) (Int.not_lt.1 (of_decide_eq_false (selB_of (selB_of h284).1).2)) (Int.not_lt.1 (of_decide_eq_false (selB_of h284).2))).2.2.1, (q168.2.2 (bnot_f (selB_of (selB_of (selB_of h284).1).1).1) (of_decide_eq_true (bnot_f (selB_of (selB_of (selB_of h284).1).1).2)) (Int.not_lt.1 (of_decide_eq_false (selB_of (selB_of h284).1).2)) (Int.not_lt.1 (of_decide_eq_false (selB_of h284).2))).2.2.2⟩⟩⟩⟩)⟩⟩⟩⟩⟩⟩⟩⟩⟩⟩⟩⟩⟩⟩)⟩⟩⟩⟩)⟩), (fun h286 => ((((q22.2 x) h23) h24).2 (Int.not_lt.1 (of_decide_eq_false h286))))⟩)))⟩)))⟩⟩⟩⟩
/- foresight/signal.Name -/
def cx15 : Cx := { T := tT, own := ownT, frz := [], loops := [(150006, 208, ⟨[.val 3 .bool, .val 31 (.int .i64)], 0⟩)], cuts := [], inl := inlT }
set_option maxRecDepth 1000000 in
theorem of15 (s : (Ty.T .str)) (r : Ty.T .bool) (h : ∀ R : Ty.T .bool → Prop, (∀ x, R x ↔ x = r) → WF .str s → 
    ((((!(decide (s = ([] : List UInt8)))) = true) →
      ((!(decide (s = ([] : List UInt8)))) = true)) ∧
    ((((!(decide (s = ([] : List UInt8)))) = true) →
      ((!(decide (s = ([] : List UInt8)))) = true)) ∧
    ((((decide (s = ([] : List UInt8))) = false) →
      ((!(decide (s = ([] : List UInt8)))) = true)) ∧
    ∃ r : (List (List UInt8)),
    ((((!(selB (decide (s = ([] : List UInt8))) true (decide ((12 : Int) < (((List.length s) : Nat) : Int))))) = true) →
      CallP Tryd.prog tT (37 : Nat) [(AV.c (Cap.d Ty.str [(105 : UInt8), (110 : UInt8), (112 : UInt8), (117 : UInt8), (116 : UInt8), (32 : UInt8), (111 : UInt8), (117 : UInt8), (116 : UInt8), (112 : UInt8), (117 : UInt8), (116 : UInt8), (32 : UInt8), (112 : UInt8), (97 : UInt8), (114 : UInt8), (116 : UInt8), (32 : UInt8), (97 : UInt8), (115 : UInt8), (115 : UInt8), (117 : UInt8), (109 : UInt8), (101 : UInt8), (32 : UInt8), (103 : UInt8), (117 : UInt8), (97 : UInt8), (114 : UInt8), (97 : UInt8), (110 : UInt8), (116 : UInt8), (101 : UInt8), (101 : UInt8), (32 : UInt8), (116 : UInt8), (114 : UInt8), (117 : UInt8), (101 : UInt8), (32 : UInt8), (102 : UInt8), (97 : UInt8), (108 : UInt8), (115 : UInt8), (101 : UInt8), (32 : UInt8), (97 : UInt8), (100 : UInt8), (100 : UInt8), (32 : UInt8), (100 : UInt8), (114 : UInt8), (111 : UInt8), (112 : UInt8), (32 : UInt8), (114 : UInt8), (101 : UInt8), (112 : UInt8), (108 : UInt8), (97 : UInt8), (99 : UInt8), (101 : UInt8)]))] (Ty.sl Ty.str) r) ∧
    ∃ r1 : Bool,
    ((((!(selB (decide (s = ([] : List UInt8))) true (decide ((12 : Int) < (((List.length s) : Nat) : Int))))) = true) →
      ((((!(selB (decide (s = ([] : List UInt8))) true (decide ((12 : Int) < (((List.length s) : Nat) : Int))))) = true) ∧
      ((!(selB (decide (s = ([] : List UInt8))) true (decide ((12 : Int) < (((List.length s) : Nat) : Int))))) = true)) ∧
      CallP Tryd.prog tT (36 : Nat) [(AV.c (Cap.d (Ty.sl Ty.str) r)), (AV.c (Cap.d Ty.str s))] Ty.bool r1)) ∧
    ((((selB (decide (s = ([] : List UInt8))) true (decide ((12 : Int) < (((List.length s) : Nat) : Int)))) = false) →
      ((!(selB (decide (s = ([] : List UInt8))) true (decide ((12 : Int) < (((List.length s) : Nat) : Int))))) = true)) ∧
    ((((!(selB (selB (decide (s = ([] : List UInt8))) true (decide ((12 : Int) < (((List.length s) : Nat) : Int)))) true r1)) = true) →
      (((!(selB (selB (decide (s = ([] : List UInt8))) true (decide ((12 : Int) < (((List.length s) : Nat) : Int)))) true r1)) = true) ∧
      (((0 : Int) ≤ (0 : Int)) ∧
      ((0 : Int) < (((List.length s) : Nat) : Int))))) ∧
    ((((!(selB (selB (decide (s = ([] : List UInt8))) true (decide ((12 : Int) < (((List.length s) : Nat) : Int)))) true r1)) = true) →
      ((!(selB (selB (decide (s = ([] : List UInt8))) true (decide ((12 : Int) < (((List.length s) : Nat) : Int)))) true r1)) = true)) ∧
    ((((selB (selB (decide (s = ([] : List UInt8))) true (decide ((12 : Int) < (((List.length s) : Nat) : Int)))) true r1) = false) →
      ((!(selB (selB (decide (s = ([] : List UInt8))) true (decide ((12 : Int) < (((List.length s) : Nat) : Int)))) true r1)) = true)) ∧
    ((((!(selB (selB (selB (decide (s = ([] : List UInt8))) true (decide ((12 : Int) < (((List.length s) : Nat) : Int)))) true r1) true (decide ((((UInt8.toNat (List.getD s (Int.toNat (0 : Int)) (0 : UInt8))) : Nat) : Int) < (97 : Int))))) = true) →
      (((!(selB (selB (selB (decide (s = ([] : List UInt8))) true (decide ((12 : Int) < (((List.length s) : Nat) : Int)))) true r1) true (decide ((((UInt8.toNat (List.getD s (Int.toNat (0 : Int)) (0 : UInt8))) : Nat) : Int) < (97 : Int))))) = true) ∧
      (((0 : Int) ≤ (0 : Int)) ∧
      ((0 : Int) < (((List.length s) : Nat) : Int))))) ∧
    ((((!(selB (selB (selB (decide (s = ([] : List UInt8))) true (decide ((12 : Int) < (((List.length s) : Nat) : Int)))) true r1) true (decide ((((UInt8.toNat (List.getD s (Int.toNat (0 : Int)) (0 : UInt8))) : Nat) : Int) < (97 : Int))))) = true) →
      ((!(selB (selB (selB (decide (s = ([] : List UInt8))) true (decide ((12 : Int) < (((List.length s) : Nat) : Int)))) true r1) true (decide ((((UInt8.toNat (List.getD s (Int.toNat (0 : Int)) (0 : UInt8))) : Nat) : Int) < (97 : Int))))) = true)) ∧
    ((((selB (selB (selB (decide (s = ([] : List UInt8))) true (decide ((12 : Int) < (((List.length s) : Nat) : Int)))) true r1) true (decide ((((UInt8.toNat (List.getD s (Int.toNat (0 : Int)) (0 : UInt8))) : Nat) : Int) < (97 : Int)))) = false) →
      ((!(selB (selB (selB (decide (s = ([] : List UInt8))) true (decide ((12 : Int) < (((List.length s) : Nat) : Int)))) true r1) true (decide ((((UInt8.toNat (List.getD s (Int.toNat (0 : Int)) (0 : UInt8))) : Nat) : Int) < (97 : Int))))) = true)) ∧
    ((((selB (selB (selB (selB (decide (s = ([] : List UInt8))) true (decide ((12 : Int) < (((List.length s) : Nat) : Int)))) true r1) true (decide ((((UInt8.toNat (List.getD s (Int.toNat (0 : Int)) (0 : UInt8))) : Nat) : Int) < (97 : Int)))) true (decide ((122 : Int) < (((UInt8.toNat (List.getD s (Int.toNat (0 : Int)) (0 : UInt8))) : Nat) : Int)))) = true) →
      (R false)) ∧
    (((selB (selB (selB (selB (decide (s = ([] : List UInt8))) true (decide ((12 : Int) < (((List.length s) : Nat) : Int)))) true r1) true (decide ((((UInt8.toNat (List.getD s (Int.toNat (0 : Int)) (0 : UInt8))) : Nat) : Int) < (97 : Int)))) true (decide ((122 : Int) < (((UInt8.toNat (List.getD s (Int.toNat (0 : Int)) (0 : UInt8))) : Nat) : Int)))) = false) →
      ∃ I : ((Bool × (Int × Unit)) → Prop),
      ∃ μ : ((Bool × (Int × Unit)) → Nat),
      ((I (true, ((0 : Int), ()))) ∧
      ∀ x : (Bool × (Int × Unit)),
      ((WF Ty.bool x.1 ∧
        (WF (Ty.int Go.IntKind.i64) x.2.1 ∧
        True)) →
        ((I x) →
          ((((decide (x.2.1 < (((List.length (bytesI s)) : Nat) : Int))) = true) →
            ((((0 : Int) ≤ x.2.1) ∧
            (x.2.1 < (((List.length (bytesI s)) : Nat) : Int))) ∧
            ((((decide ((97 : Int) ≤ (List.getD (bytesI s) (Int.toNat x.2.1) (0 : Int)))) = true) →
              ((decide ((97 : Int) ≤ (List.getD (bytesI s) (Int.toNat x.2.1) (0 : Int)))) = true)) ∧
            ((((decide ((97 : Int) ≤ (List.getD (bytesI s) (Int.toNat x.2.1) (0 : Int)))) = true) →
              ((decide ((97 : Int) ≤ (List.getD (bytesI s) (Int.toNat x.2.1) (0 : Int)))) = true)) ∧
            ((((selB (decide ((97 : Int) ≤ (List.getD (bytesI s) (Int.toNat x.2.1) (0 : Int)))) (decide ((List.getD (bytesI s) (Int.toNat x.2.1) (0 : Int)) ≤ (122 : Int))) false) = true) →
              ((((selB (decide ((97 : Int) ≤ (List.getD (bytesI s) (Int.toNat x.2.1) (0 : Int)))) (decide ((List.getD (bytesI s) (Int.toNat x.2.1) (0 : Int)) ≤ (122 : Int))) false) = true) →
                (inK Go.IntKind.i64 (x.2.1 + (1 : Int)) ∧
                ((I (x.1, ((x.2.1 + (1 : Int)), ()))) ∧
                ((μ (x.1, ((x.2.1 + (1 : Int)), ()))) < (μ x))))) ∧
              (((selB (decide ((97 : Int) ≤ (List.getD (bytesI s) (Int.toNat x.2.1) (0 : Int)))) (decide ((List.getD (bytesI s) (Int.toNat x.2.1) (0 : Int)) ≤ (122 : Int))) false) = false) →
                (R false)))) ∧
            (((selB (decide ((97 : Int) ≤ (List.getD (bytesI s) (Int.toNat x.2.1) (0 : Int)))) (decide ((List.getD (bytesI s) (Int.toNat x.2.1) (0 : Int)) ≤ (122 : Int))) false) = false) →
              ((((decide ((48 : Int) ≤ (List.getD (bytesI s) (Int.toNat x.2.1) (0 : Int)))) = true) →
                ((decide ((48 : Int) ≤ (List.getD (bytesI s) (Int.toNat x.2.1) (0 : Int)))) = true)) ∧
              ((((decide ((48 : Int) ≤ (List.getD (bytesI s) (Int.toNat x.2.1) (0 : Int)))) = true) →
                ((decide ((48 : Int) ≤ (List.getD (bytesI s) (Int.toNat x.2.1) (0 : Int)))) = true)) ∧
              ((((selB (decide ((48 : Int) ≤ (List.getD (bytesI s) (Int.toNat x.2.1) (0 : Int)))) (decide ((List.getD (bytesI s) (Int.toNat x.2.1) (0 : Int)) ≤ (57 : Int))) false) = true) →
                ((((selB (decide ((48 : Int) ≤ (List.getD (bytesI s) (Int.toNat x.2.1) (0 : Int)))) (decide ((List.getD (bytesI s) (Int.toNat x.2.1) (0 : Int)) ≤ (57 : Int))) false) = true) →
                  (inK Go.IntKind.i64 (x.2.1 + (1 : Int)) ∧
                  ((I (x.1, ((x.2.1 + (1 : Int)), ()))) ∧
                  ((μ (x.1, ((x.2.1 + (1 : Int)), ()))) < (μ x))))) ∧
                (((selB (decide ((48 : Int) ≤ (List.getD (bytesI s) (Int.toNat x.2.1) (0 : Int)))) (decide ((List.getD (bytesI s) (Int.toNat x.2.1) (0 : Int)) ≤ (57 : Int))) false) = false) →
                  (R false)))) ∧
              (((selB (decide ((48 : Int) ≤ (List.getD (bytesI s) (Int.toNat x.2.1) (0 : Int)))) (decide ((List.getD (bytesI s) (Int.toNat x.2.1) (0 : Int)) ≤ (57 : Int))) false) = false) →
                ((((decide ((List.getD (bytesI s) (Int.toNat x.2.1) (0 : Int)) = (95 : Int))) = true) →
                  (inK Go.IntKind.i64 (x.2.1 + (1 : Int)) ∧
                  ((I (x.1, ((x.2.1 + (1 : Int)), ()))) ∧
                  ((μ (x.1, ((x.2.1 + (1 : Int)), ()))) < (μ x))))) ∧
                (((decide ((List.getD (bytesI s) (Int.toNat x.2.1) (0 : Int)) = (95 : Int))) = false) →
                  (R false))))))))))))) ∧
          (((decide (x.2.1 < (((List.length (bytesI s)) : Nat) : Int))) = false) →
            (R x.1))))))))))))))))))))) : CallP Tryd.prog tT 15 [.d .str s] .bool r :=
  callP_of (cx := cx15) (d := 6) mixed tab_ok inl_ok Tryd.func15 ⟨fun _ _ => by kernel_rfl⟩ rfl rfl fun wf => Eq.mpr (by kernel_rfl) (h (fun x => x = r) (fun _ => Iff.rfl) (wf.1 rfl))
set_option maxRecDepth 1000000 in
theorem sf15 (s : (Ty.T .str)) (r : Ty.T .bool) (h : ∀ R : Ty.T .bool → Prop, (∀ x, R x ↔ x = r) → WF .str s → 
    (∃ r : (List (List UInt8)),
    (((¬ (s = ([] : List UInt8))) → ((((List.length s) : Nat) : Int) ≤ (12 : Int)) →
      CallP Tryd.prog tT (37 : Nat) [(AV.c (Cap.d Ty.str [(105 : UInt8), (110 : UInt8), (112 : UInt8), (117 : UInt8), (116 : UInt8), (32 : UInt8), (111 : UInt8), (117 : UInt8), (116 : UInt8), (112 : UInt8), (117 : UInt8), (116 : UInt8), (32 : UInt8), (112 : UInt8), (97 : UInt8), (114 : UInt8), (116 : UInt8), (32 : UInt8), (97 : UInt8), (115 : UInt8), (115 : UInt8), (117 : UInt8), (109 : UInt8), (101 : UInt8), (32 : UInt8), (103 : UInt8), (117 : UInt8), (97 : UInt8), (114 : UInt8), (97 : UInt8), (110 : UInt8), (116 : UInt8), (101 : UInt8), (101 : UInt8), (32 : UInt8), (116 : UInt8), (114 : UInt8), (117 : UInt8), (101 : UInt8), (32 : UInt8), (102 : UInt8), (97 : UInt8), (108 : UInt8), (115 : UInt8), (101 : UInt8), (32 : UInt8), (97 : UInt8), (100 : UInt8), (100 : UInt8), (32 : UInt8), (100 : UInt8), (114 : UInt8), (111 : UInt8), (112 : UInt8), (32 : UInt8), (114 : UInt8), (101 : UInt8), (112 : UInt8), (108 : UInt8), (97 : UInt8), (99 : UInt8), (101 : UInt8)]))] (Ty.sl Ty.str) r) ∧
    (∃ r1 : Bool,
    (((¬ (s = ([] : List UInt8))) → ((((List.length s) : Nat) : Int) ≤ (12 : Int)) →
      CallP Tryd.prog tT (36 : Nat) [(AV.c (Cap.d (Ty.sl Ty.str) r)), (AV.c (Cap.d Ty.str s))] Ty.bool r1) ∧
    (((¬ (s = ([] : List UInt8))) → ((((List.length s) : Nat) : Int) ≤ (12 : Int)) → (r1 = false) →
      ((0 : Int) < (((List.length s) : Nat) : Int))) ∧
    (((((((s = ([] : List UInt8)) ∨ ((12 : Int) < (((List.length s) : Nat) : Int))) ∨ (r1 = true)) ∨ ((((UInt8.toNat (List.getD s (Int.toNat (0 : Int)) (0 : UInt8))) : Nat) : Int) < (97 : Int))) ∨ ((122 : Int) < (((UInt8.toNat (List.getD s (Int.toNat (0 : Int)) (0 : UInt8))) : Nat) : Int))) →
      (R false)) ∧
    ((¬ (s = ([] : List UInt8))) → ((((List.length s) : Nat) : Int) ≤ (12 : Int)) → (r1 = false) → ((97 : Int) ≤ (((UInt8.toNat (List.getD s (Int.toNat (0 : Int)) (0 : UInt8))) : Nat) : Int)) → ((((UInt8.toNat (List.getD s (Int.toNat (0 : Int)) (0 : UInt8))) : Nat) : Int) ≤ (122 : Int)) →
      (∃ I : ((Bool × (Int × Unit)) → Prop),
      (∃ μ : ((Bool × (Int × Unit)) → Nat),
      ((I (true, ((0 : Int), ()))) ∧
      (∀ x : (Bool × (Int × Unit)),
      ((WF Ty.bool x.1 ∧
        (WF (Ty.int Go.IntKind.i64) x.2.1 ∧
        True)) →
        ((I x) →
          (((x.2.1 < (((List.length (bytesI s)) : Nat) : Int)) →
            (((0 : Int) ≤ x.2.1) ∧
            ((((97 : Int) ≤ (List.getD (bytesI s) (Int.toNat x.2.1) (0 : Int))) → ((List.getD (bytesI s) (Int.toNat x.2.1) (0 : Int)) ≤ (122 : Int)) →
              ((((97 : Int) ≤ (List.getD (bytesI s) (Int.toNat x.2.1) (0 : Int))) → ((List.getD (bytesI s) (Int.toNat x.2.1) (0 : Int)) ≤ (122 : Int)) →
                (inK Go.IntKind.i64 (x.2.1 + (1 : Int)) ∧
                ((I (x.1, ((x.2.1 + (1 : Int)), ()))) ∧
                ((μ (x.1, ((x.2.1 + (1 : Int)), ()))) < (μ x))))) ∧
              ((((List.getD (bytesI s) (Int.toNat x.2.1) (0 : Int)) < (97 : Int)) ∨ ((122 : Int) < (List.getD (bytesI s) (Int.toNat x.2.1) (0 : Int)))) →
                (R false)))) ∧
            ((((List.getD (bytesI s) (Int.toNat x.2.1) (0 : Int)) < (97 : Int)) ∨ ((122 : Int) < (List.getD (bytesI s) (Int.toNat x.2.1) (0 : Int)))) →
              ((((48 : Int) ≤ (List.getD (bytesI s) (Int.toNat x.2.1) (0 : Int))) → ((List.getD (bytesI s) (Int.toNat x.2.1) (0 : Int)) ≤ (57 : Int)) →
                ((((48 : Int) ≤ (List.getD (bytesI s) (Int.toNat x.2.1) (0 : Int))) → ((List.getD (bytesI s) (Int.toNat x.2.1) (0 : Int)) ≤ (57 : Int)) →
                  (inK Go.IntKind.i64 (x.2.1 + (1 : Int)) ∧
                  ((I (x.1, ((x.2.1 + (1 : Int)), ()))) ∧
                  ((μ (x.1, ((x.2.1 + (1 : Int)), ()))) < (μ x))))) ∧
                ((((List.getD (bytesI s) (Int.toNat x.2.1) (0 : Int)) < (48 : Int)) ∨ ((57 : Int) < (List.getD (bytesI s) (Int.toNat x.2.1) (0 : Int)))) →
                  (R false)))) ∧
              ((((List.getD (bytesI s) (Int.toNat x.2.1) (0 : Int)) < (48 : Int)) ∨ ((57 : Int) < (List.getD (bytesI s) (Int.toNat x.2.1) (0 : Int)))) →
                ((((List.getD (bytesI s) (Int.toNat x.2.1) (0 : Int)) = (95 : Int)) →
                  (inK Go.IntKind.i64 (x.2.1 + (1 : Int)) ∧
                  ((I (x.1, ((x.2.1 + (1 : Int)), ()))) ∧
                  ((μ (x.1, ((x.2.1 + (1 : Int)), ()))) < (μ x))))) ∧
                ((¬ ((List.getD (bytesI s) (Int.toNat x.2.1) (0 : Int)) = (95 : Int))) →
                  (R false))))))))) ∧
          (((((List.length (bytesI s)) : Nat) : Int) ≤ x.2.1) →
            (R x.1))))))))))))))))) : CallP Tryd.prog tT 15 [.d .str s] .bool r :=
  of15 s r fun R hR w0_ => have p := h R hR w0_
    ⟨(fun h4 => h4), ⟨(fun h7 => h7), ⟨(fun h9 => (bnot_t2 h9)), (Exists.elim p fun r q10 => Exists.intro r ⟨(fun h16 => (q10.1 (of_decide_eq_false (selB_of (bnot_t h16)).1) (Int.not_lt.1 (of_decide_eq_false (selB_of (bnot_t h16)).2)))), (Exists.elim q10.2 fun r1 q17 => Exists.intro r1 ⟨(fun h23 => ⟨⟨h23, h23⟩, (q17.1 (of_decide_eq_false (selB_of (bnot_t h23)).1) (Int.not_lt.1 (of_decide_eq_false (selB_of (bnot_t h23)).2)))⟩), ⟨(fun h26 => (bnot_t2 h26)), ⟨(fun h32 => ⟨h32, ⟨(Int.le_refl _), (q17.2.1 (of_decide_eq_false (selB_of (selB_of (bnot_t h32)).1).1) (Int.not_lt.1 (of_decide_eq_false (selB_of (selB_of (bnot_t h32)).1).2)) ((selB_of (bnot_t h32)).2))⟩⟩), ⟨(fun h39 => h39), ⟨(fun h45 => (bnot_t2 h45)), ⟨(fun h50 => ⟨h50, ⟨(Int.le_refl _), (q17.2.1 ((of_decide_eq_false (selB_of (selB_of (selB_of (bnot_t h50)).1).1).1)) ((Int.not_lt.1 (of_decide_eq_false (selB_of (selB_of (selB_of (bnot_t h50)).1).1).2))) ((selB_of (selB_of (bnot_t h50)).1).2))⟩⟩), ⟨(fun h54 => h54), ⟨(fun h57 => (bnot_t2 h57)), ⟨(fun h63 => (q17.2.2.1 (Or.imp (fun h => (Or.imp (fun h => (Or.imp (fun h => (Or.imp (fun h => (of_decide_eq_true h)) (fun h => (of_decide_eq_true h)) (selB_ot h))) (fun h => h) (selB_ot h))) (fun h => (of_decide_eq_true h)) (selB_ot h))) (fun h => (of_decide_eq_true h)) (selB_ot h63)))), (fun h65 => (Exists.elim (q17.2.2.2 (of_decide_eq_false (selB_of (selB_of (selB_of (selB_of h65).1).1).1).1) (Int.not_lt.1 (of_decide_eq_false (selB_of (selB_of (selB_of (selB_of h65).1).1).1).2)) ((selB_of (selB_of (selB_of h65).1).1).2) (Int.not_lt.1 (of_decide_eq_false (selB_of (selB_of h65).1).2)) (Int.not_lt.1 (of_decide_eq_false (selB_of h65).2))) fun I q66 => Exists.intro I (Exists.elim q66 fun μ q67 => Exists.intro μ ⟨q67.1, (fun x => (fun h68 => (fun h69 => ⟨(fun h162 => ⟨⟨((((q67.2 x) h68) h69).1 (of_decide_eq_true h162)).1, (of_decide_eq_true h162)⟩, ⟨(fun h167 => h167), ⟨(fun h171 => h171), ⟨(fun h189 => ⟨(fun h195 => ⟨((((((q67.2 x) h68) h69).1 (of_decide_eq_true h162)).2.1 (of_decide_eq_true (selB_at h189).1) (of_decide_eq_true (selB_at h189).2)).1 (of_decide_eq_true (selB_at h195).1) (of_decide_eq_true (selB_at h195).2)).1, ⟨((((((q67.2 x) h68) h69).1 (of_decide_eq_true h162)).2.1 (of_decide_eq_true (selB_at h189).1) (of_decide_eq_true (selB_at h189).2)).1 (of_decide_eq_true (selB_at h195).1) (of_decide_eq_true (selB_at h195).2)).2.1, ((((((q67.2 x) h68) h69).1 (of_decide_eq_true h162)).2.1 (of_decide_eq_true (selB_at h189).1) (of_decide_eq_true (selB_at h189).2)).1 (of_decide_eq_true (selB_at h195).1) (of_decide_eq_true (selB_at h195).2)).2.2⟩⟩), (fun h197 => ((((((q67.2 x) h68) h69).1 (of_decide_eq_true h162)).2.1 (of_decide_eq_true (selB_at h189).1) (of_decide_eq_true (selB_at h189).2)).2 (Or.imp (fun h => (Int.not_le.1 (of_decide_eq_false h))) (fun h => (Int.not_le.1 (of_decide_eq_false h))) (selB_af h197))))⟩), (fun h203 => ⟨(fun h208 => h208), ⟨(fun h212 => h212), ⟨(fun h230 => ⟨(fun h236 => ⟨(((((((q67.2 x) h68) h69).1 (of_decide_eq_true h162)).2.2 (Or.imp (fun h => (Int.not_le.1 (of_decide_eq_false h))) (fun h => (Int.not_le.1 (of_decide_eq_false h))) (selB_af h203))).1 (of_decide_eq_true (selB_at h230).1) (of_decide_eq_true (selB_at h230).2)).1 (of_decide_eq_true (selB_at h236).1) (of_decide_eq_true (selB_at h236).2)).1, ⟨(((((((q67.2 x) h68) h69).1 (of_decide_eq_true h162)).2.2 (Or.imp (fun h => (Int.not_le.1 (of_decide_eq_false h))) (fun h => (Int.not_le.1 (of_decide_eq_false h))) (selB_af h203))).1 (of_decide_eq_true (selB_at h230).1) (of_decide_eq_true (selB_at h230).2)).1 (of_decide_eq_true (selB_at h236).1) (of_decide_eq_true (selB_at h236).2)).2.1, (((((((q67.2 x) h68) h69).1 (of_decide_eq_true h162)).2.2 (Or.imp (fun h => (Int.not_le.1 (of_decide_eq_false h))) (fun h => (Int.not_le.1 (of_decide_eq_false h))) (selB_af h203))).1 (of_decide_eq_true (selB_at h230).1) (of_decide_eq_true (selB_at h230).2)).1 (of_decide_eq_true (selB_at h236).1) (of_decide_eq_true (selB_at h236).2)).2.2⟩⟩), (fun h238 => (((((((q67.2 x) h68) h69).1 (of_decide_eq_true h162)).2.2 (Or.imp (fun h => (Int.not_le.1 (of_decide_eq_false h))) (fun h => (Int.not_le.1 (of_decide_eq_false h))) (selB_af h203))).1 (of_decide_eq_true (selB_at h230).1) (of_decide_eq_true (selB_at h230).2)).2 (Or.imp (fun h => (Int.not_le.1 (of_decide_eq_false h))) (fun h => (Int.not_le.1 (of_decide_eq_false h))) (selB_af h238))))⟩), (fun h241 => ⟨(fun h247 => ⟨(((((((q67.2 x) h68) h69).1 (of_decide_eq_true h162)).2.2 (Or.imp (fun h => (Int.not_le.1 (of_decide_eq_false h))) (fun h => (Int.not_le.1 (of_decide_eq_false h))) (selB_af h203))).2 (Or.imp (fun h => (Int.not_le.1 (of_decide_eq_false h))) (fun h => (Int.not_le.1 (of_decide_eq_false h))) (selB_af h241))).1 (of_decide_eq_true h247)).1, ⟨(((((((q67.2 x) h68) h69).1 (of_decide_eq_true h162)).2.2 (Or.imp (fun h => (Int.not_le.1 (of_decide_eq_false h))) (fun h => (Int.not_le.1 (of_decide_eq_false h))) (selB_af h203))).2 (Or.imp (fun h => (Int.not_le.1 (of_decide_eq_false h))) (fun h => (Int.not_le.1 (of_decide_eq_false h))) (selB_af h241))).1 (of_decide_eq_true h247)).2.1, (((((((q67.2 x) h68) h69).1 (of_decide_eq_true h162)).2.2 (Or.imp (fun h => (Int.not_le.1 (of_decide_eq_false h))) (fun h => (Int.not_le.1 (of_decide_eq_false h))) (selB_af h203))).2 (Or.imp (fun h => (Int.not_le.1 (of_decide_eq_false h))) (fun h => (Int.not_le.1 (of_decide_eq_false h))) (selB_af h241))).1 (of_decide_eq_true h247)).2.2⟩⟩), (fun h249 => (((((((q67.2 x) h68) h69).1 (of_decide_eq_true h162)).2.2 (Or.imp (fun h => (Int.not_le.1 (of_decide_eq_false h))) (fun h => (Int.not_le.1 (of_decide_eq_false h))) (selB_af h203))).2 (Or.imp (fun h => (Int.not_le.1 (of_decide_eq_false h))) (fun h => (Int.not_le.1 (of_decide_eq_false h))) (selB_af h241))).2 (of_decide_eq_false h249)))⟩)⟩⟩⟩)⟩⟩⟩⟩), (fun h251 => ((((q67.2 x) h68) h69).2 (Int.not_lt.1 (of_decide_eq_false h251))))⟩)))⟩)))⟩⟩⟩⟩⟩⟩⟩⟩⟩)⟩)⟩⟩⟩
/- foresight/foresightref01.Name -/
def cx16 : Cx := { T := tT, own := ownT, frz := [], loops := [(160005, 183, ⟨[.val 3 (.int .i64)], 0⟩)], cuts := [], inl := inlT }
set_option maxRecDepth 1000000 in
theorem of16 (s : (Ty.T .str)) (r : Ty.T .bool) (h : ∀ R : Ty.T .bool → Prop, (∀ x, R x ↔ x = r) → WF .str s → 
    ((((!(decide ((((List.length s) : Nat) : Int) < (1 : Int)))) = true) →
      ((!(decide ((((List.length s) : Nat) : Int) < (1 : Int)))) = true)) ∧
    ((((!(decide ((((List.length s) : Nat) : Int) < (1 : Int)))) = true) →
      ((!(decide ((((List.length s) : Nat) : Int) < (1 : Int)))) = true)) ∧
    ((((decide ((((List.length s) : Nat) : Int) < (1 : Int))) = false) →
      ((!(decide ((((List.length s) : Nat) : Int) < (1 : Int)))) = true)) ∧
    ∃ r : (List (List UInt8)),
    ((((!(selB (decide ((((List.length s) : Nat) : Int) < (1 : Int))) true (decide ((12 : Int) < (((List.length s) : Nat) : Int))))) = true) →
      CallP Tryd.prog tT (39 : Nat) [] (Ty.sl Ty.str) r) ∧
    ∃ r1 : Bool,
    ((((!(selB (decide ((((List.length s) : Nat) : Int) < (1 : Int))) true (decide ((12 : Int) < (((List.length s) : Nat) : Int))))) = true) →
      ((((!(selB (decide ((((List.length s) : Nat) : Int) < (1 : Int))) true (decide ((12 : Int) < (((List.length s) : Nat) : Int))))) = true) ∧
      ((!(selB (decide ((((List.length s) : Nat) : Int) < (1 : Int))) true (decide ((12 : Int) < (((List.length s) : Nat) : Int))))) = true)) ∧
      CallP Tryd.prog tT (38 : Nat) [(AV.c (Cap.d (Ty.sl Ty.str) r)), (AV.c (Cap.d Ty.str s))] Ty.bool r1)) ∧
    ((((selB (decide ((((List.length s) : Nat) : Int) < (1 : Int))) true (decide ((12 : Int) < (((List.length s) : Nat) : Int)))) = false) →
      ((!(selB (decide ((((List.length s) : Nat) : Int) < (1 : Int))) true (decide ((12 : Int) < (((List.length s) : Nat) : Int))))) = true)) ∧
    ((((selB (selB (decide ((((List.length s) : Nat) : Int) < (1 : Int))) true (decide ((12 : Int) < (((List.length s) : Nat) : Int)))) true r1) = true) →
      (R false)) ∧
    (((selB (selB (decide ((((List.length s) : Nat) : Int) < (1 : Int))) true (decide ((12 : Int) < (((List.length s) : Nat) : Int)))) true r1) = false) →
      ∃ I : ((Int × Unit) → Prop),
      ∃ μ : ((Int × Unit) → Nat),
      ((I ((0 : Int), ())) ∧
      ∀ x : (Int × Unit),
      ((WF (Ty.int Go.IntKind.i64) x.1 ∧
        True) →
        ((I x) →
          ((((decide (x.1 < (((List.length s) : Nat) : Int))) = true) →
            ((((0 : Int) ≤ x.1) ∧
            (x.1 < (((List.length s) : Nat) : Int))) ∧
            ((((decide ((97 : Int) ≤ (((UInt8.toNat (List.getD s (Int.toNat x.1) (0 : UInt8))) : Nat) : Int))) = true) →
              ((((decide ((97 : Int) ≤ (((UInt8.toNat (List.getD s (Int.toNat x.1) (0 : UInt8))) : Nat) : Int))) = true) ∧
              ((decide ((97 : Int) ≤ (((UInt8.toNat (List.getD s (Int.toNat x.1) (0 : UInt8))) : Nat) : Int))) = true)) ∧
              (((0 : Int) ≤ x.1) ∧
              (x.1 < (((List.length s) : Nat) : Int))))) ∧
            ((((decide ((97 : Int) ≤ (((UInt8.toNat (List.getD s (Int.toNat x.1) (0 : UInt8))) : Nat) : Int))) = true) →
              ((decide ((97 : Int) ≤ (((UInt8.toNat (List.getD s (Int.toNat x.1) (0 : UInt8))) : Nat) : Int))) = true)) ∧
            ((((decide ((97 : Int) ≤ (((UInt8.toNat (List.getD s (Int.toNat x.1) (0 : UInt8))) : Nat) : Int))) = true) →
              ((decide ((97 : Int) ≤ (((UInt8.toNat (List.getD s (Int.toNat x.1) (0 : UInt8))) : Nat) : Int))) = true)) ∧
            ((((0 : Int) ≤ x.1) ∧
            (x.1 < (((List.length s) : Nat) : Int))) ∧
            ((((decide ((48 : Int) ≤ (((UInt8.toNat (List.getD s (Int.toNat x.1) (0 : UInt8))) : Nat) : Int))) = true) →
              ((((decide ((48 : Int) ≤ (((UInt8.toNat (List.getD s (Int.toNat x.1) (0 : UInt8))) : Nat) : Int))) = true) ∧
              ((decide ((48 : Int) ≤ (((UInt8.toNat (List.getD s (Int.toNat x.1) (0 : UInt8))) : Nat) : Int))) = true)) ∧
              (((0 : Int) ≤ x.1) ∧
              (x.1 < (((List.length s) : Nat) : Int))))) ∧
            ((((decide ((48 : Int) ≤ (((UInt8.toNat (List.getD s (Int.toNat x.1) (0 : UInt8))) : Nat) : Int))) = true) →
              ((decide ((48 : Int) ≤ (((UInt8.toNat (List.getD s (Int.toNat x.1) (0 : UInt8))) : Nat) : Int))) = true)) ∧
            ((((decide ((48 : Int) ≤ (((UInt8.toNat (List.getD s (Int.toNat x.1) (0 : UInt8))) : Nat) : Int))) = true) →
              ((decide ((48 : Int) ≤ (((UInt8.toNat (List.getD s (Int.toNat x.1) (0 : UInt8))) : Nat) : Int))) = true)) ∧
            ((((!(selB (decide ((48 : Int) ≤ (((UInt8.toNat (List.getD s (Int.toNat x.1) (0 : UInt8))) : Nat) : Int))) (decide ((((UInt8.toNat (List.getD s (Int.toNat x.1) (0 : UInt8))) : Nat) : Int) ≤ (57 : Int))) false)) = true) →
              ((((!(selB (decide ((48 : Int) ≤ (((UInt8.toNat (List.getD s (Int.toNat x.1) (0 : UInt8))) : Nat) : Int))) (decide ((((UInt8.toNat (List.getD s (Int.toNat x.1) (0 : UInt8))) : Nat) : Int) ≤ (57 : Int))) false)) = true) ∧
              ((!(selB (decide ((48 : Int) ≤ (((UInt8.toNat (List.getD s (Int.toNat x.1) (0 : UInt8))) : Nat) : Int))) (decide ((((UInt8.toNat (List.getD s (Int.toNat x.1) (0 : UInt8))) : Nat) : Int) ≤ (57 : Int))) false)) = true)) ∧
              (((0 : Int) ≤ x.1) ∧
              (x.1 < (((List.length s) : Nat) : Int))))) ∧
            ((((!(selB (decide ((48 : Int) ≤ (((UInt8.toNat (List.getD s (Int.toNat x.1) (0 : UInt8))) : Nat) : Int))) (decide ((((UInt8.toNat (List.getD s (Int.toNat x.1) (0 : UInt8))) : Nat) : Int) ≤ (57 : Int))) false)) = true) →
              ((!(selB (decide ((48 : Int) ≤ (((UInt8.toNat (List.getD s (Int.toNat x.1) (0 : UInt8))) : Nat) : Int))) (decide ((((UInt8.toNat (List.getD s (Int.toNat x.1) (0 : UInt8))) : Nat) : Int) ≤ (57 : Int))) false)) = true)) ∧
            ((((selB (decide ((48 : Int) ≤ (((UInt8.toNat (List.getD s (Int.toNat x.1) (0 : UInt8))) : Nat) : Int))) (decide ((((UInt8.toNat (List.getD s (Int.toNat x.1) (0 : UInt8))) : Nat) : Int) ≤ (57 : Int))) false) = false) →
              ((!(selB (decide ((48 : Int) ≤ (((UInt8.toNat (List.getD s (Int.toNat x.1) (0 : UInt8))) : Nat) : Int))) (decide ((((UInt8.toNat (List.getD s (Int.toNat x.1) (0 : UInt8))) : Nat) : Int) ≤ (57 : Int))) false)) = true)) ∧
            ((((!(selB (decide ((97 : Int) ≤ (((UInt8.toNat (List.getD s (Int.toNat x.1) (0 : UInt8))) : Nat) : Int))) (decide ((((UInt8.toNat (List.getD s (Int.toNat x.1) (0 : UInt8))) : Nat) : Int) ≤ (122 : Int))) false)) = true) →
              ((!(selB (decide ((97 : Int) ≤ (((UInt8.toNat (List.getD s (Int.toNat x.1) (0 : UInt8))) : Nat) : Int))) (decide ((((UInt8.toNat (List.getD s (Int.toNat x.1) (0 : UInt8))) : Nat) : Int) ≤ (122 : Int))) false)) = true)) ∧
            ((((!(selB (decide ((97 : Int) ≤ (((UInt8.toNat (List.getD s (Int.toNat x.1) (0 : UInt8))) : Nat) : Int))) (decide ((((UInt8.toNat (List.getD s (Int.toNat x.1) (0 : UInt8))) : Nat) : Int) ≤ (122 : Int))) false)) = true) →
              ((!(selB (decide ((97 : Int) ≤ (((UInt8.toNat (List.getD s (Int.toNat x.1) (0 : UInt8))) : Nat) : Int))) (decide ((((UInt8.toNat (List.getD s (Int.toNat x.1) (0 : UInt8))) : Nat) : Int) ≤ (122 : Int))) false)) = true)) ∧
            (((((!(selB (decide ((97 : Int) ≤ (((UInt8.toNat (List.getD s (Int.toNat x.1) (0 : UInt8))) : Nat) : Int))) (decide ((((UInt8.toNat (List.getD s (Int.toNat x.1) (0 : UInt8))) : Nat) : Int) ≤ (122 : Int))) false)) && (!(decide (x.1 = (0 : Int))))) = true) →
              (((!(selB (decide ((97 : Int) ≤ (((UInt8.toNat (List.getD s (Int.toNat x.1) (0 : UInt8))) : Nat) : Int))) (decide ((((UInt8.toNat (List.getD s (Int.toNat x.1) (0 : UInt8))) : Nat) : Int) ≤ (122 : Int))) false)) && (!(decide (x.1 = (0 : Int))))) = true)) ∧
            ((((!(selB (decide ((97 : Int) ≤ (((UInt8.toNat (List.getD s (Int.toNat x.1) (0 : UInt8))) : Nat) : Int))) (decide ((((UInt8.toNat (List.getD s (Int.toNat x.1) (0 : UInt8))) : Nat) : Int) ≤ (122 : Int))) false)) = true) →
              (((!(selB (decide ((97 : Int) ≤ (((UInt8.toNat (List.getD s (Int.toNat x.1) (0 : UInt8))) : Nat) : Int))) (decide ((((UInt8.toNat (List.getD s (Int.toNat x.1) (0 : UInt8))) : Nat) : Int) ≤ (122 : Int))) false)) = true) ∧
              (((decide (x.1 = (0 : Int))) = false) →
                (((!(selB (decide ((97 : Int) ≤ (((UInt8.toNat (List.getD s (Int.toNat x.1) (0 : UInt8))) : Nat) : Int))) (decide ((((UInt8.toNat (List.getD s (Int.toNat x.1) (0 : UInt8))) : Nat) : Int) ≤ (122 : Int))) false)) && (!(decide (x.1 = (0 : Int))))) = true)))) ∧
            ((((!(selB (decide ((97 : Int) ≤ (((UInt8.toNat (List.getD s (Int.toNat x.1) (0 : UInt8))) : Nat) : Int))) (decide ((((UInt8.toNat (List.getD s (Int.toNat x.1) (0 : UInt8))) : Nat) : Int) ≤ (122 : Int))) false)) = true) →
              ((!(selB (decide ((97 : Int) ≤ (((UInt8.toNat (List.getD s (Int.toNat x.1) (0 : UInt8))) : Nat) : Int))) (decide ((((UInt8.toNat (List.getD s (Int.toNat x.1) (0 : UInt8))) : Nat) : Int) ≤ (122 : Int))) false)) = true)) ∧
            ((((selB (!(selB (decide ((97 : Int) ≤ (((UInt8.toNat (List.getD s (Int.toNat x.1) (0 : UInt8))) : Nat) : Int))) (decide ((((UInt8.toNat (List.getD s (Int.toNat x.1) (0 : UInt8))) : Nat) : Int) ≤ (122 : Int))) false)) (selB (decide (x.1 = (0 : Int))) true (!(selB (selB (decide ((48 : Int) ≤ (((UInt8.toNat (List.getD s (Int.toNat x.1) (0 : UInt8))) : Nat) : Int))) (decide ((((UInt8.toNat (List.getD s (Int.toNat x.1) (0 : UInt8))) : Nat) : Int) ≤ (57 : Int))) false) true (decide ((((UInt8.toNat (List.getD s (Int.toNat x.1) (0 : UInt8))) : Nat) : Int) = (95 : Int)))))) false) = true) →
              (R false)) ∧
            (((selB (!(selB (decide ((97 : Int) ≤ (((UInt8.toNat (List.getD s (Int.toNat x.1) (0 : UInt8))) : Nat) : Int))) (decide ((((UInt8.toNat (List.getD s (Int.toNat x.1) (0 : UInt8))) : Nat) : Int) ≤ (122 : Int))) false)) (selB (decide (x.1 = (0 : Int))) true (!(selB (selB (decide ((48 : Int) ≤ (((UInt8.toNat (List.getD s (Int.toNat x.1) (0 : UInt8))) : Nat) : Int))) (decide ((((UInt8.toNat (List.getD s (Int.toNat x.1) (0 : UInt8))) : Nat) : Int) ≤ (57 : Int))) false) true (decide ((((UInt8.toNat (List.getD s (Int.toNat x.1) (0 : UInt8))) : Nat) : Int) = (95 : Int)))))) false) = false) →
              (inK Go.IntKind.i64 (x.1 + (1 : Int)) ∧
              ((I ((x.1 + (1 : Int)), ())) ∧
              ((μ ((x.1 + (1 : Int)), ())) < (μ x))))))))))))))))))))))) ∧
          (((decide (x.1 < (((List.length s) : Nat) : Int))) = false) →
            (R true))))))))))))))) : CallP Tryd.prog tT 16 [.d .str s] .bool r :=
  callP_of (cx := cx16) (d := 6) mixed tab_ok inl_ok Tryd.func16 ⟨fun _ _ => by kernel_rfl⟩ rfl rfl fun wf => Eq.mpr (by kernel_rfl) (h (fun x => x = r) (fun _ => Iff.rfl) (wf.1 rfl))
set_option maxRecDepth 1000000 in
theorem sf16 (s : (Ty.T .str)) (r : Ty.T .bool) (h : ∀ R : Ty.T .bool → Prop, (∀ x, R x ↔ x = r) → WF .str s → 
    (∃ r : (List (List UInt8)),
    ((((1 : Int) ≤ (((List.length s) : Nat) : Int)) → ((((List.length s) : Nat) : Int) ≤ (12 : Int)) →
      CallP Tryd.prog tT (39 : Nat) [] (Ty.sl Ty.str) r) ∧
    (∃ r1 : Bool,
    ((((1 : Int) ≤ (((List.length s) : Nat) : Int)) → ((((List.length s) : Nat) : Int) ≤ (12 : Int)) →
      CallP Tryd.prog tT (38 : Nat) [(AV.c (Cap.d (Ty.sl Ty.str) r)), (AV.c (Cap.d Ty.str s))] Ty.bool r1) ∧
    ((((((((List.length s) : Nat) : Int) < (1 : Int)) ∨ ((12 : Int) < (((List.length s) : Nat) : Int))) ∨ (r1 = true)) →
      (R false)) ∧
    (((1 : Int) ≤ (((List.length s) : Nat) : Int)) → ((((List.length s) : Nat) : Int) ≤ (12 : Int)) → (r1 = false) →
      (∃ I : ((Int × Unit) → Prop),
      (∃ μ : ((Int × Unit) → Nat),
      ((I ((0 : Int), ())) ∧
      (∀ x : (Int × Unit),
      ((WF (Ty.int Go.IntKind.i64) x.1 ∧
        True) →
        ((I x) →
          (((x.1 < (((List.length s) : Nat) : Int)) →
            (((0 : Int) ≤ x.1) ∧
            (((((((UInt8.toNat (List.getD s (Int.toNat x.1) (0 : UInt8))) : Nat) : Int) < (97 : Int)) ∨ ((122 : Int) < (((UInt8.toNat (List.getD s (Int.toNat x.1) (0 : UInt8))) : Nat) : Int))) → ((x.1 = (0 : Int)) ∨ ((((((UInt8.toNat (List.getD s (Int.toNat x.1) (0 : UInt8))) : Nat) : Int) < (48 : Int)) ∨ ((57 : Int) < (((UInt8.toNat (List.getD s (Int.toNat x.1) (0 : UInt8))) : Nat) : Int))) ∧ (¬ ((((UInt8.toNat (List.getD s (Int.toNat x.1) (0 : UInt8))) : Nat) : Int) = (95 : Int))))) →
              (R false)) ∧
            (((((97 : Int) ≤ (((UInt8.toNat (List.getD s (Int.toNat x.1) (0 : UInt8))) : Nat) : Int)) ∧ ((((UInt8.toNat (List.getD s (Int.toNat x.1) (0 : UInt8))) : Nat) : Int) ≤ (122 : Int))) ∨ ((¬ (x.1 = (0 : Int))) ∧ ((((48 : Int) ≤ (((UInt8.toNat (List.getD s (Int.toNat x.1) (0 : UInt8))) : Nat) : Int)) ∧ ((((UInt8.toNat (List.getD s (Int.toNat x.1) (0 : UInt8))) : Nat) : Int) ≤ (57 : Int))) ∨ ((((UInt8.toNat (List.getD s (Int.toNat x.1) (0 : UInt8))) : Nat) : Int) = (95 : Int))))) →
              (inK Go.IntKind.i64 (x.1 + (1 : Int)) ∧
              ((I ((x.1 + (1 : Int)), ())) ∧
              ((μ ((x.1 + (1 : Int)), ())) < (μ x)))))))) ∧
          (((((List.length s) : Nat) : Int) ≤ x.1) →
            (R true)))))))))))))))) : CallP Tryd.prog tT 16 [.d .str s] .bool r :=
  of16 s r fun R hR w0_ => have p := h R hR w0_
    ⟨(fun h4 => h4), ⟨(fun h7 => h7), ⟨(fun h9 => (bnot_t2 h9)), (Exists.elim p fun r q10 => Exists.intro r ⟨(fun h16 => (q10.1 (Int.not_lt.1 (of_decide_eq_false (selB_of (bnot_t h16)).1)) (Int.not_lt.1 (of_decide_eq_false (selB_of (bnot_t h16)).2)))), (Exists.elim q10.2 fun r1 q17 => Exists.intro r1 ⟨(fun h23 => ⟨⟨h23, h23⟩, (q17.1 (Int.not_lt.1 (of_decide_eq_false (selB_of (bnot_t h23)).1)) (Int.not_lt.1 (of_decide_eq_false (selB_of (bnot_t h23)).2)))⟩), ⟨(fun h26 => (bnot_t2 h26)), ⟨(fun h32 => (q17.2.1 (Or.imp (fun h => (Or.imp (fun h => (of_decide_eq_true h)) (fun h => (of_decide_eq_true h)) (selB_ot h))) (fun h => h) (selB_ot h32)))), (fun h34 => (Exists.elim (q17.2.2 (Int.not_lt.1 (of_decide_eq_false (selB_of (selB_of h34).1).1)) (Int.not_lt.1 (of_decide_eq_false (selB_of (selB_of h34).1).2)) ((selB_of h34).2)) fun I q35 => Exists.intro I (Exists.elim q35 fun μ q36 => Exists.intro μ ⟨q36.1, (fun x => (fun h37 => (fun h38 => ⟨(fun h212 => ⟨⟨((((q36.2 x) h37) h38).1 (of_decide_eq_true h212)).1, (of_decide_eq_true h212)⟩, ⟨(fun h229 => ⟨⟨h229, h229⟩, ⟨((((q36.2 x) h37) h38).1 (of_decide_eq_true h212)).1, (of_decide_eq_true h212)⟩⟩), ⟨(fun h245 => h245), ⟨(fun h260 => h260), ⟨⟨((((q36.2 x) h37) h38).1 (of_decide_eq_true h212)).1, (of_decide_eq_true h212)⟩, ⟨(fun h287 => ⟨⟨h287, h287⟩, ⟨((((q36.2 x) h37) h38).1 (of_decide_eq_true h212)).1, (of_decide_eq_true h212)⟩⟩), ⟨(fun h300 => h300), ⟨(fun h312 => h312), ⟨(fun h323 => ⟨⟨h323, h323⟩, ⟨((((q36.2 x) h37) h38).1 (of_decide_eq_true h212)).1, (of_decide_eq_true h212)⟩⟩), ⟨(fun h333 => h333), ⟨(fun h342 => (bnot_t2 h342)), ⟨(fun h350 => h350), ⟨(fun h357 => h357), ⟨(fun h363 => h363), ⟨(fun h368 => ⟨h368, (fun h369 => (and_at2 h368 (bnot_t2 h369)))⟩), ⟨(fun h372 => h372), ⟨(fun h378 => (((((q36.2 x) h37) h38).1 (of_decide_eq_true h212)).2.1 (Or.imp (fun h => (Int.not_le.1 (of_decide_eq_false h))) (fun h => (Int.not_le.1 (of_decide_eq_false h))) (selB_af (bnot_t (selB_at h378).1))) (Or.imp (fun h => (of_decide_eq_true h)) (fun h => ⟨(Or.imp (fun h => (Int.not_le.1 (of_decide_eq_false h))) (fun h => (Int.not_le.1 (of_decide_eq_false h))) (selB_af (selB_of (bnot_t h)).1)), (of_decide_eq_false (selB_of (bnot_t h)).2)⟩) (selB_ot (selB_at h378).2)))), (fun h380 => ⟨(((((q36.2 x) h37) h38).1 (of_decide_eq_true h212)).2.2 (Or.imp (fun h => ⟨(of_decide_eq_true (selB_at (bnot_f h)).1), (of_decide_eq_true (selB_at (bnot_f h)).2)⟩) (fun h => ⟨(of_decide_eq_false (selB_of h).1), (Or.imp (fun h => ⟨(of_decide_eq_true (selB_at h).1), (of_decide_eq_true (selB_at h).2)⟩) (fun h => (of_decide_eq_true h)) (selB_ot (bnot_f (selB_of h).2)))⟩) (selB_af h380))).1, ⟨(((((q36.2 x) h37) h38).1 (of_decide_eq_true h212)).2.2 (Or.imp (fun h => ⟨(of_decide_eq_true (selB_at (bnot_f h)).1), (of_decide_eq_true (selB_at (bnot_f h)).2)⟩) (fun h => ⟨(of_decide_eq_false (selB_of h).1), (Or.imp (fun h => ⟨(of_decide_eq_true (selB_at h).1), (of_decide_eq_true (selB_at h).2)⟩) (fun h => (of_decide_eq_true h)) (selB_ot (bnot_f (selB_of h).2)))⟩) (selB_af h380))).2.1, (((((q36.2 x) h37) h38).1 (of_decide_eq_true h212)).2.2 (Or.imp (fun h => ⟨(of_decide_eq_true (selB_at (bnot_f h)).1), (of_decide_eq_true (selB_at (bnot_f h)).2)⟩) (fun h => ⟨(of_decide_eq_false (selB_of h).1), (Or.imp (fun h => ⟨(of_decide_eq_true (selB_at h).1), (of_decide_eq_true (selB_at h).2)⟩) (fun h => (of_decide_eq_true h)) (selB_ot (bnot_f (selB_of h).2)))⟩) (selB_af h380))).2.2⟩⟩)⟩⟩⟩⟩⟩⟩⟩⟩⟩⟩⟩⟩⟩⟩⟩⟩⟩), (fun h382 => ((((q36.2 x) h37) h38).2 (Int.not_lt.1 (of_decide_eq_false h382))))⟩)))⟩)))⟩⟩⟩)⟩)⟩⟩⟩
/- foresight/signal.Find -/
def cx17 : Cx := { T := tT, own := ownT, frz := [], loops := [], cuts := [], inl := inlT }
set_option maxRecDepth 1000000 in
theorem of17 (l : (Ty.T (.sl (.st (.pair .str (.pair .bool (.pair (.int .i64) .unit))))))) (name : (Ty.T .str)) (r : Ty.T (.int .i64)) (h : ∀ R : Ty.T (.int .i64) → Prop, (∀ x, R x ↔ x = r) → WF (.sl (.st (.pair .str (.pair .bool (.pair (.int .i64) .unit))))) l → WF .str name → 
    ∃ r : Int,
    (CallP Tryd.prog tT (40 : Nat) [(AV.c (Cap.d (Ty.sl (Ty.st (Ty.pair Ty.str (Ty.pair Ty.bool (Ty.pair (Ty.int Go.IntKind.i64) Ty.unit))))) l)), (AV.fn (41 : Nat) [(Cap.kp Ty.str name)])] (Ty.int Go.IntKind.i64) r ∧
    (R r))) : CallP Tryd.prog tT 17 [.d (.sl (.st (.pair .str (.pair .bool (.pair (.int .i64) .unit))))) l, .d .str name] (.int .i64) r :=
  callP_of (cx := cx17) (d := 6) mixed tab_ok inl_ok Tryd.func17 ⟨fun _ _ => by kernel_rfl⟩ rfl rfl fun wf => Eq.mpr (by kernel_rfl) (h (fun x => x = r) (fun _ => Iff.rfl) (wf.1 rfl) (wf.2.1 rfl))
/- foresight/foresightref01.Find -/
def cx18 : Cx := { T := tT, own := ownT, frz := [], loops := [(180003, 40, ⟨[.val 5 (.int .i64)], 0⟩)], cuts := [], inl := inlT }
set_option maxRecDepth 1000000 in
theorem of18 (l : (Ty.T (.sl (.st (.pair .str (.pair .bool (.pair (.int .i64) .unit))))))) (name : (Ty.T .str)) (r : Ty.T (.int .i64)) (h : ∀ R : Ty.T (.int .i64) → Prop, (∀ x, R x ↔ x = r) → WF (.sl (.st (.pair .str (.pair .bool (.pair (.int .i64) .unit))))) l → WF .str name → 
    ∃ I : ((Int × Unit) → Prop),
    ∃ μ : ((Int × Unit) → Nat),
    ((I ((0 : Int), ())) ∧
    ∀ x : (Int × Unit),
    ((WF (Ty.int Go.IntKind.i64) x.1 ∧
      True) →
      ((I x) →
        ((((decide (x.1 < (((List.length l) : Nat) : Int))) = true) →
          ((((0 : Int) ≤ x.1) ∧
          (x.1 < (((List.length l) : Nat) : Int))) ∧
          ((((decide ((List.getD l (Int.toNat x.1) (([] : List UInt8), (false, ((0 : Int), ())))).1 = name)) = true) →
            (R x.1)) ∧
          (((decide ((List.getD l (Int.toNat x.1) (([] : List UInt8), (false, ((0 : Int), ())))).1 = name)) = false) →
            (inK Go.IntKind.i64 (x.1 + (1 : Int)) ∧
            ((I ((x.1 + (1 : Int)), ())) ∧
            ((μ ((x.1 + (1 : Int)), ())) < (μ x)))))))) ∧
        (((decide (x.1 < (((List.length l) : Nat) : Int))) = false) →
          (R (-(1 : Int))))))))) : CallP Tryd.prog tT 18 [.d (.sl (.st (.pair .str (.pair .bool (.pair (.int .i64) .unit))))) l, .d .str name] (.int .i64) r :=
  callP_of (cx := cx18) (d := 6) mixed tab_ok inl_ok Tryd.func18 ⟨fun _ _ => by kernel_rfl⟩ rfl rfl fun wf => Eq.mpr (by kernel_rfl) (h (fun x => x = r) (fun _ => Iff.rfl) (wf.1 rfl) (wf.2.1 rfl))
set_option maxRecDepth 1000000 in
theorem sf18 (l : (Ty.T (.sl (.st (.pair .str (.pair .bool (.pair (.int .i64) .unit))))))) (name : (Ty.T .str)) (r : Ty.T (.int .i64)) (h : ∀ R : Ty.T (.int .i64) → Prop, (∀ x, R x ↔ x = r) → WF (.sl (.st (.pair .str (.pair .bool (.pair (.int .i64) .unit))))) l → WF .str name → 
    (∃ I : ((Int × Unit) → Prop),
    (∃ μ : ((Int × Unit) → Nat),
    ((I ((0 : Int), ())) ∧
    (∀ x : (Int × Unit),
    ((WF (Ty.int Go.IntKind.i64) x.1 ∧
      True) →
      ((I x) →
        (((x.1 < (((List.length l) : Nat) : Int)) →
          (((0 : Int) ≤ x.1) ∧
          ((((List.getD l (Int.toNat x.1) (([] : List UInt8), (false, ((0 : Int), ())))).1 = name) →
            (R x.1)) ∧
          ((¬ ((List.getD l (Int.toNat x.1) (([] : List UInt8), (false, ((0 : Int), ())))).1 = name)) →
            (inK Go.IntKind.i64 (x.1 + (1 : Int)) ∧
            ((I ((x.1 + (1 : Int)), ())) ∧
            ((μ ((x.1 + (1 : Int)), ())) < (μ x)))))))) ∧
        (((((List.length l) : Nat) : Int) ≤ x.1) →
          (R (-(1 : Int)))))))))))) : CallP Tryd.prog tT 18 [.d (.sl (.st (.pair .str (.pair .bool (.pair (.int .i64) .unit))))) l, .d .str name] (.int .i64) r :=
  of18 l name r fun R hR w0_ w1_ => have p := h R hR w0_ w1_
    (Exists.elim p fun I q1 => Exists.intro I (Exists.elim q1 fun μ q2 => Exists.intro μ ⟨q2.1, (fun x => (fun h3 => (fun h4 => ⟨(fun h18 => ⟨⟨((((q2.2 x) h3) h4).1 (of_decide_eq_true h18)).1, (of_decide_eq_true h18)⟩, ⟨(fun h24 => (((((q2.2 x) h3) h4).1 (of_decide_eq_true h18)).2.1 (of_decide_eq_true h24))), (fun h26 => ⟨(((((q2.2 x) h3) h4).1 (of_decide_eq_true h18)).2.2 (of_decide_eq_false h26)).1, ⟨(((((q2.2 x) h3) h4).1 (of_decide_eq_true h18)).2.2 (of_decide_eq_false h26)).2.1, (((((q2.2 x) h3) h4).1 (of_decide_eq_true h18)).2.2 (of_decide_eq_false h26)).2.2⟩⟩)⟩⟩), (fun h28 => ((((q2.2 x) h3) h4).2 (Int.not_lt.1 (of_decide_eq_false h28))))⟩)))⟩))
/- foresight/signal.Letters -/
def cx19 : Cx := { T := tT, own := ownT, frz := [], loops := [], cuts := [], inl := inlT }
set_option maxRecDepth 1000000 in
theorem of19 (l : (Ty.T (.sl (.st (.pair .str (.pair .bool (.pair (.int .i64) .unit))))))) (r : Ty.T (.int .i64)) (h : ∀ R : Ty.T (.int .i64) → Prop, (∀ x, R x ↔ x = r) → WF (.sl (.st (.pair .str (.pair .bool (.pair (.int .i64) .unit))))) l → 
    ∃ r : Int,
    (CallP Tryd.prog tT (42 : Nat) [(AV.c (Cap.d (Ty.sl (Ty.st (Ty.pair Ty.str (Ty.pair Ty.bool (Ty.pair (Ty.int Go.IntKind.i64) Ty.unit))))) l)), (AV.fn (43 : Nat) ([] : List Go.Proofs.YtlkgkjpnphdhdaaDoor.Cap))] (Ty.int Go.IntKind.i64) r ∧
    (R r))) : CallP Tryd.prog tT 19 [.d (.sl (.st (.pair .str (.pair .bool (.pair (.int .i64) .unit))))) l] (.int .i64) r :=
  callP_of (cx := cx19) (d := 6) mixed tab_ok inl_ok Tryd.func19 ⟨fun _ _ => by kernel_rfl⟩ rfl rfl fun wf => Eq.mpr (by kernel_rfl) (h (fun x => x = r) (fun _ => Iff.rfl) (wf.1 rfl))
/- foresight/foresightref01.Letters -/
def cx20 : Cx := { T := tT, own := ownT, frz := [], loops := [], cuts := [], inl := inlT }
set_option maxRecDepth 1000000 in
theorem of20 (l : (Ty.T (.sl (.st (.pair .str (.pair .bool (.pair (.int .i64) .unit))))))) (r : Ty.T (.int .i64)) (h : ∀ R : Ty.T (.int .i64) → Prop, (∀ x, R x ↔ x = r) → WF (.sl (.st (.pair .str (.pair .bool (.pair (.int .i64) .unit))))) l → 
    ∃ r : Int,
    (CallP Tryd.prog tT (22 : Nat) [(AV.c (Cap.d (Ty.sl (Ty.st (Ty.pair Ty.str (Ty.pair Ty.bool (Ty.pair (Ty.int Go.IntKind.i64) Ty.unit))))) l))] (Ty.int Go.IntKind.i64) r ∧
    ∃ r1 : Int,
    (CallP Tryd.prog tT (24 : Nat) [(AV.c (Cap.d (Ty.sl (Ty.st (Ty.pair Ty.str (Ty.pair Ty.bool (Ty.pair (Ty.int Go.IntKind.i64) Ty.unit))))) l))] (Ty.int Go.IntKind.i64) r1 ∧
    (inK Go.IntKind.i64 (r * r1) ∧
    (R (r * r1)))))) : CallP Tryd.prog tT 20 [.d (.sl (.st (.pair .str (.pair .bool (.pair (.int .i64) .unit))))) l] (.int .i64) r :=
  callP_of (cx := cx20) (d := 6) mixed tab_ok inl_ok Tryd.func20 ⟨fun _ _ => by kernel_rfl⟩ rfl rfl fun wf => Eq.mpr (by kernel_rfl) (h (fun x => x = r) (fun _ => Iff.rfl) (wf.1 rfl))
set_option maxRecDepth 1000000 in
theorem sf20 (l : (Ty.T (.sl (.st (.pair .str (.pair .bool (.pair (.int .i64) .unit))))))) (r : Ty.T (.int .i64)) (h : ∀ R : Ty.T (.int .i64) → Prop, (∀ x, R x ↔ x = r) → WF (.sl (.st (.pair .str (.pair .bool (.pair (.int .i64) .unit))))) l → 
    (∃ r : Int,
    (CallP Tryd.prog tT (22 : Nat) [(AV.c (Cap.d (Ty.sl (Ty.st (Ty.pair Ty.str (Ty.pair Ty.bool (Ty.pair (Ty.int Go.IntKind.i64) Ty.unit))))) l))] (Ty.int Go.IntKind.i64) r ∧
    (∃ r1 : Int,
    (CallP Tryd.prog tT (24 : Nat) [(AV.c (Cap.d (Ty.sl (Ty.st (Ty.pair Ty.str (Ty.pair Ty.bool (Ty.pair (Ty.int Go.IntKind.i64) Ty.unit))))) l))] (Ty.int Go.IntKind.i64) r1 ∧
    (inK Go.IntKind.i64 (r * r1) ∧
    (R (r * r1)))))))) : CallP Tryd.prog tT 20 [.d (.sl (.st (.pair .str (.pair .bool (.pair (.int .i64) .unit))))) l] (.int .i64) r :=
  of20 l r fun R hR w0_ => have p := h R hR w0_
    (Exists.elim p fun r q1 => Exists.intro r ⟨q1.1, (Exists.elim q1.2 fun r1 q2 => Exists.intro r1 ⟨q2.1, ⟨q2.2.1, q2.2.2⟩⟩)⟩)
/- foresight/signal.Inputs -/
def cx21 : Cx := { T := tT, own := ownT, frz := [], loops := [], cuts := [], inl := inlT }
set_option maxRecDepth 1000000 in
theorem of21 (l : (Ty.T (.sl (.st (.pair .str (.pair .bool (.pair (.int .i64) .unit))))))) (r : Ty.T (.int .i64)) (h : ∀ R : Ty.T (.int .i64) → Prop, (∀ x, R x ↔ x = r) → WF (.sl (.st (.pair .str (.pair .bool (.pair (.int .i64) .unit))))) l → 
    ∃ r : Int,
    (CallP Tryd.prog tT (42 : Nat) [(AV.c (Cap.d (Ty.sl (Ty.st (Ty.pair Ty.str (Ty.pair Ty.bool (Ty.pair (Ty.int Go.IntKind.i64) Ty.unit))))) l)), (AV.fn (44 : Nat) ([] : List Go.Proofs.YtlkgkjpnphdhdaaDoor.Cap))] (Ty.int Go.IntKind.i64) r ∧
    (R r))) : CallP Tryd.prog tT 21 [.d (.sl (.st (.pair .str (.pair .bool (.pair (.int .i64) .unit))))) l] (.int .i64) r :=
  callP_of (cx := cx21) (d := 6) mixed tab_ok inl_ok Tryd.func21 ⟨fun _ _ => by kernel_rfl⟩ rfl rfl fun wf => Eq.mpr (by kernel_rfl) (h (fun x => x = r) (fun _ => Iff.rfl) (wf.1 rfl))
/- foresight/foresightref01.Inputs -/
def cx22 : Cx := { T := tT, own := ownT, frz := [], loops := [], cuts := [], inl := inlT }
set_option maxRecDepth 1000000 in
theorem of22 (l : (Ty.T (.sl (.st (.pair .str (.pair .bool (.pair (.int .i64) .unit))))))) (r : Ty.T (.int .i64)) (h : ∀ R : Ty.T (.int .i64) → Prop, (∀ x, R x ↔ x = r) → WF (.sl (.st (.pair .str (.pair .bool (.pair (.int .i64) .unit))))) l → 
    ∃ r : Int,
    (CallP Tryd.prog tT (45 : Nat) [(AV.c (Cap.d (Ty.sl (Ty.st (Ty.pair Ty.str (Ty.pair Ty.bool (Ty.pair (Ty.int Go.IntKind.i64) Ty.unit))))) l)), (AV.c (Cap.d Ty.bool true))] (Ty.int Go.IntKind.i64) r ∧
    (R r))) : CallP Tryd.prog tT 22 [.d (.sl (.st (.pair .str (.pair .bool (.pair (.int .i64) .unit))))) l] (.int .i64) r :=
  callP_of (cx := cx22) (d := 6) mixed tab_ok inl_ok Tryd.func22 ⟨fun _ _ => by kernel_rfl⟩ rfl rfl fun wf => Eq.mpr (by kernel_rfl) (h (fun x => x = r) (fun _ => Iff.rfl) (wf.1 rfl))
/- foresight/signal.Outputs -/
def cx23 : Cx := { T := tT, own := ownT, frz := [], loops := [], cuts := [], inl := inlT }
set_option maxRecDepth 1000000 in
theorem of23 (l : (Ty.T (.sl (.st (.pair .str (.pair .bool (.pair (.int .i64) .unit))))))) (r : Ty.T (.int .i64)) (h : ∀ R : Ty.T (.int .i64) → Prop, (∀ x, R x ↔ x = r) → WF (.sl (.st (.pair .str (.pair .bool (.pair (.int .i64) .unit))))) l → 
    ∃ r : Int,
    (CallP Tryd.prog tT (42 : Nat) [(AV.c (Cap.d (Ty.sl (Ty.st (Ty.pair Ty.str (Ty.pair Ty.bool (Ty.pair (Ty.int Go.IntKind.i64) Ty.unit))))) l)), (AV.fn (46 : Nat) ([] : List Go.Proofs.YtlkgkjpnphdhdaaDoor.Cap))] (Ty.int Go.IntKind.i64) r ∧
    (R r))) : CallP Tryd.prog tT 23 [.d (.sl (.st (.pair .str (.pair .bool (.pair (.int .i64) .unit))))) l] (.int .i64) r :=
  callP_of (cx := cx23) (d := 6) mixed tab_ok inl_ok Tryd.func23 ⟨fun _ _ => by kernel_rfl⟩ rfl rfl fun wf => Eq.mpr (by kernel_rfl) (h (fun x => x = r) (fun _ => Iff.rfl) (wf.1 rfl))
/- foresight/foresightref01.Outputs -/
def cx24 : Cx := { T := tT, own := ownT, frz := [], loops := [], cuts := [], inl := inlT }
set_option maxRecDepth 1000000 in
theorem of24 (l : (Ty.T (.sl (.st (.pair .str (.pair .bool (.pair (.int .i64) .unit))))))) (r : Ty.T (.int .i64)) (h : ∀ R : Ty.T (.int .i64) → Prop, (∀ x, R x ↔ x = r) → WF (.sl (.st (.pair .str (.pair .bool (.pair (.int .i64) .unit))))) l → 
    ∃ r : Int,
    (CallP Tryd.prog tT (45 : Nat) [(AV.c (Cap.d (Ty.sl (Ty.st (Ty.pair Ty.str (Ty.pair Ty.bool (Ty.pair (Ty.int Go.IntKind.i64) Ty.unit))))) l)), (AV.c (Cap.d Ty.bool false))] (Ty.int Go.IntKind.i64) r ∧
    (R r))) : CallP Tryd.prog tT 24 [.d (.sl (.st (.pair .str (.pair .bool (.pair (.int .i64) .unit))))) l] (.int .i64) r :=
  callP_of (cx := cx24) (d := 6) mixed tab_ok inl_ok Tryd.func24 ⟨fun _ _ => by kernel_rfl⟩ rfl rfl fun wf => Eq.mpr (by kernel_rfl) (h (fun x => x = r) (fun _ => Iff.rfl) (wf.1 rfl))
/- foresight/signal.Value -/
def cx25 : Cx := { T := tT, own := ownT, frz := [], loops := [(540004, 158, ⟨[.val 4 (.int .i64), .val 18 (.int .i64), .obj 6 [.d (.int .i64)], .lp 48], 0⟩)], cuts := [], inl := inlT }
abbrev vt25 (l : (Ty.T (.sl (.st (.pair .str (.pair .bool (.pair (.int .i64) .unit))))))) (letter : (Ty.T (.int .i64))) (i : (Ty.T (.int .i64))) (R : Ty.T (.int .i64) → Prop) : Prop := (
    ∃ r : Int,
    ((((!(decide (letter < (0 : Int)))) = true) →
      (((!(decide (letter < (0 : Int)))) = true) ∧
      CallP Tryd.prog tT (19 : Nat) [(AV.c (Cap.d (Ty.sl (Ty.st (Ty.pair Ty.str (Ty.pair Ty.bool (Ty.pair (Ty.int Go.IntKind.i64) Ty.unit))))) l))] (Ty.int Go.IntKind.i64) r)) ∧
    ((((!(decide (letter < (0 : Int)))) = true) →
      (((!(decide (letter < (0 : Int)))) = true) ∧
      ((!(decide (letter < (0 : Int)))) = true))) ∧
    ((((decide (letter < (0 : Int))) = false) →
      ((!(decide (letter < (0 : Int)))) = true)) ∧
    ((((selB (decide (letter < (0 : Int))) true (decide (r ≤ letter))) = true) →
      (R (0 : Int))) ∧
    (((selB (decide (letter < (0 : Int))) true (decide (r ≤ letter))) = false) →
      ∃ I : ((Int × (Int × ((Int × Unit) × Unit))) → Prop),
      ∃ μ : ((Int × (Int × ((Int × Unit) × Unit))) → Nat),
      ((I (letter, ((0 : Int), (((0 : Int), ()), ())))) ∧
      ∀ x : (Int × (Int × ((Int × Unit) × Unit))),
      ((WF (Ty.int Go.IntKind.i64) x.1 ∧
        (WF (Ty.int Go.IntKind.i64) x.2.1 ∧
        (WF (Ty.pair (Ty.int Go.IntKind.i64) Ty.unit) x.2.2.1 ∧
        True))) →
        ((I x) →
          ((((decide (x.2.1 < (((List.length l) : Nat) : Int))) = true) →
            ((((0 : Int) ≤ x.2.1) ∧
            (x.2.1 < (((List.length l) : Nat) : Int))) ∧
            ((((0 : Int) ≤ x.1) ∧
            ((0 : Int) < (List.getD l (Int.toNat x.2.1) (([] : List UInt8), (false, ((0 : Int), ())))).2.2.1)) ∧
            ((((decide (x.2.1 = i)) = true) →
              ((((!false) = true) →
                (R (x.1 % (List.getD l (Int.toNat x.2.1) (([] : List UInt8), (false, ((0 : Int), ())))).2.2.1))) ∧
              (((!false) = false) →
                ((((0 : Int) ≤ x.1) ∧
                ((0 : Int) < (List.getD l (Int.toNat x.2.1) (([] : List UInt8), (false, ((0 : Int), ())))).2.2.1)) ∧
                (inK Go.IntKind.i64 (x.2.1 + (1 : Int)) ∧
                False))))) ∧
            (((decide (x.2.1 = i)) = false) →
              ((((!true) = true) →
                (R (0 : Int))) ∧
              (((!true) = false) →
                ((((0 : Int) ≤ x.1) ∧
                ((0 : Int) < (List.getD l (Int.toNat x.2.1) (([] : List UInt8), (false, ((0 : Int), ())))).2.2.1)) ∧
                (inK Go.IntKind.i64 (x.2.1 + (1 : Int)) ∧
                ((I ((x.1 / (List.getD l (Int.toNat x.2.1) (([] : List UInt8), (false, ((0 : Int), ())))).2.2.1), ((x.2.1 + (1 : Int)), ((x.2.2.1.1, ()), ())))) ∧
                ((μ ((x.1 / (List.getD l (Int.toNat x.2.1) (([] : List UInt8), (false, ((0 : Int), ())))).2.2.1), ((x.2.1 + (1 : Int)), ((x.2.2.1.1, ()), ())))) < (μ x)))))))))))) ∧
          (((decide (x.2.1 < (((List.length l) : Nat) : Int))) = false) →
            (R (0 : Int)))))))))))))
set_option maxRecDepth 1000000 in
theorem vc25_eq (l : (Ty.T (.sl (.st (.pair .str (.pair .bool (.pair (.int .i64) .unit))))))) (letter : (Ty.T (.int .i64))) (i : (Ty.T (.int .i64))) (R : Ty.T (.int .i64) → Prop) : vcFn Tryd.prog cx25 6 25 Tryd.f25 [.d (.sl (.st (.pair .str (.pair .bool (.pair (.int .i64) .unit))))) l, .d (.int .i64) letter, .d (.int .i64) i] (.int .i64) R = vt25 l letter i R := by kernel_rfl
set_option maxRecDepth 1000000 in
theorem of25 (l : (Ty.T (.sl (.st (.pair .str (.pair .bool (.pair (.int .i64) .unit))))))) (letter : (Ty.T (.int .i64))) (i : (Ty.T (.int .i64))) (r : Ty.T (.int .i64)) (h : ∀ R : Ty.T (.int .i64) → Prop, (∀ x, R x ↔ x = r) → WF (.sl (.st (.pair .str (.pair .bool (.pair (.int .i64) .unit))))) l → WF (.int .i64) letter → WF (.int .i64) i → 
    vt25 l letter i R) : CallP Tryd.prog tT 25 [.d (.sl (.st (.pair .str (.pair .bool (.pair (.int .i64) .unit))))) l, .d (.int .i64) letter, .d (.int .i64) i] (.int .i64) r :=
  callP_of (cx := cx25) (d := 6) mixed tab_ok inl_ok Tryd.func25 ⟨fun _ _ => by kernel_rfl⟩ rfl rfl fun wf => by rw [vc25_eq]; exact (h (fun x => x = r) (fun _ => Iff.rfl) (wf.1 rfl) (wf.2.1 rfl) (wf.2.2.1 rfl))
set_option maxRecDepth 1000000 in
theorem sf25 (l : (Ty.T (.sl (.st (.pair .str (.pair .bool (.pair (.int .i64) .unit))))))) (letter : (Ty.T (.int .i64))) (i : (Ty.T (.int .i64))) (r : Ty.T (.int .i64)) (h : ∀ R : Ty.T (.int .i64) → Prop, (∀ x, R x ↔ x = r) → WF (.sl (.st (.pair .str (.pair .bool (.pair (.int .i64) .unit))))) l → WF (.int .i64) letter → WF (.int .i64) i → 
    (∃ r : Int,
    ((((0 : Int) ≤ letter) →
      CallP Tryd.prog tT (19 : Nat) [(AV.c (Cap.d (Ty.sl (Ty.st (Ty.pair Ty.str (Ty.pair Ty.bool (Ty.pair (Ty.int Go.IntKind.i64) Ty.unit))))) l))] (Ty.int Go.IntKind.i64) r) ∧
    ((((letter < (0 : Int)) ∨ (r ≤ letter)) →
      (R (0 : Int))) ∧
    (((0 : Int) ≤ letter) → (letter < r) →
      (∃ I : ((Int × (Int × ((Int × Unit) × Unit))) → Prop),
      (∃ μ : ((Int × (Int × ((Int × Unit) × Unit))) → Nat),
      ((I (letter, ((0 : Int), (((0 : Int), ()), ())))) ∧
      (∀ x : (Int × (Int × ((Int × Unit) × Unit))),
      ((WF (Ty.int Go.IntKind.i64) x.1 ∧
        (WF (Ty.int Go.IntKind.i64) x.2.1 ∧
        (WF (Ty.pair (Ty.int Go.IntKind.i64) Ty.unit) x.2.2.1 ∧
        True))) →
        ((I x) →
          (((x.2.1 < (((List.length l) : Nat) : Int)) →
            (((0 : Int) ≤ x.2.1) ∧
            ((((0 : Int) ≤ x.1) ∧
            ((0 : Int) < (List.getD l (Int.toNat x.2.1) (([] : List UInt8), (false, ((0 : Int), ())))).2.2.1)) ∧
            (((x.2.1 = i) →
              (((false = false) →
                (R (x.1 % (List.getD l (Int.toNat x.2.1) (([] : List UInt8), (false, ((0 : Int), ())))).2.2.1))) ∧
              ((false = true) →
                (inK Go.IntKind.i64 (x.2.1 + (1 : Int)) ∧
                False)))) ∧
            ((¬ (x.2.1 = i)) →
              (((true = false) →
                (R (0 : Int))) ∧
              ((true = true) →
                (inK Go.IntKind.i64 (x.2.1 + (1 : Int)) ∧
                ((I ((x.1 / (List.getD l (Int.toNat x.2.1) (([] : List UInt8), (false, ((0 : Int), ())))).2.2.1), ((x.2.1 + (1 : Int)), ((x.2.2.1.1, ()), ())))) ∧
                ((μ ((x.1 / (List.getD l (Int.toNat x.2.1) (([] : List UInt8), (false, ((0 : Int), ())))).2.2.1), ((x.2.1 + (1 : Int)), ((x.2.2.1.1, ()), ())))) < (μ x))))))))))) ∧
          (((((List.length l) : Nat) : Int) ≤ x.2.1) →
            (R (0 : Int))))))))))))))) : CallP Tryd.prog tT 25 [.d (.sl (.st (.pair .str (.pair .bool (.pair (.int .i64) .unit))))) l, .d (.int .i64) letter, .d (.int .i64) i] (.int .i64) r :=
  of25 l letter i r fun R hR w0_ w1_ w2_ => have p := h R hR w0_ w1_ w2_
    (Exists.elim p fun r q1 => Exists.intro r ⟨(fun h7 => ⟨h7, (q1.1 (Int.not_lt.1 (of_decide_eq_false (bnot_t h7))))⟩), ⟨(fun h11 => ⟨h11, h11⟩), ⟨(fun h14 => (bnot_t2 h14)), ⟨(fun h20 => (q1.2.1 (Or.imp (fun h => (of_decide_eq_true h)) (fun h => (of_decide_eq_true h)) (selB_ot h20)))), (fun h22 => (Exists.elim (q1.2.2 (Int.not_lt.1 (of_decide_eq_false (selB_of h22).1)) (Int.not_le.1 (of_decide_eq_false (selB_of h22).2))) fun I q23 => Exists.intro I (Exists.elim q23 fun μ q24 => Exists.intro μ ⟨q24.1, (fun x => (fun h25 => (fun h26 => ⟨(fun h69 => ⟨⟨((((q24.2 x) h25) h26).1 (of_decide_eq_true h69)).1, (of_decide_eq_true h69)⟩, ⟨⟨((((q24.2 x) h25) h26).1 (of_decide_eq_true h69)).2.1.1, ((((q24.2 x) h25) h26).1 (of_decide_eq_true h69)).2.1.2⟩, ⟨(fun h87 => ⟨(fun h93 => ((((((q24.2 x) h25) h26).1 (of_decide_eq_true h69)).2.2.1 (of_decide_eq_true h87)).1 (bnot_t h93))), (fun h95 => ⟨⟨((((q24.2 x) h25) h26).1 (of_decide_eq_true h69)).2.1.1, ((((q24.2 x) h25) h26).1 (of_decide_eq_true h69)).2.1.2⟩, ⟨((((((q24.2 x) h25) h26).1 (of_decide_eq_true h69)).2.2.1 (of_decide_eq_true h87)).2 (bnot_f h95)).1, ((((((q24.2 x) h25) h26).1 (of_decide_eq_true h69)).2.2.1 (of_decide_eq_true h87)).2 (bnot_f h95)).2⟩⟩)⟩), (fun h98 => ⟨(fun h104 => ((((((q24.2 x) h25) h26).1 (of_decide_eq_true h69)).2.2.2 (of_decide_eq_false h98)).1 (bnot_t h104))), (fun h106 => ⟨⟨((((q24.2 x) h25) h26).1 (of_decide_eq_true h69)).2.1.1, ((((q24.2 x) h25) h26).1 (of_decide_eq_true h69)).2.1.2⟩, ⟨((((((q24.2 x) h25) h26).1 (of_decide_eq_true h69)).2.2.2 (of_decide_eq_false h98)).2 (bnot_f h106)).1, ⟨((((((q24.2 x) h25) h26).1 (of_decide_eq_true h69)).2.2.2 (of_decide_eq_false h98)).2 (bnot_f h106)).2.1, ((((((q24.2 x) h25) h26).1 (of_decide_eq_true h69)).2.2.2 (of_decide_eq_false h98)).2 (bnot_f h106)).2.2⟩⟩⟩)⟩)⟩⟩⟩), (fun h108 => ((((q24.2 x) h25) h26).2 (Int.not_lt.1 (of_decide_eq_false h108))))⟩)))⟩)))⟩⟩⟩⟩)
/- foresight/foresightref01.Value -/
def cx26 : Cx := { T := tT, own := ownT, frz := [], loops := [], cuts := [], inl := inlT }
set_option maxRecDepth 1000000 in
theorem of26 (l : (Ty.T (.sl (.st (.pair .str (.pair .bool (.pair (.int .i64) .unit))))))) (letter : (Ty.T (.int .i64))) (i : (Ty.T (.int .i64))) (r : Ty.T (.int .i64)) (h : ∀ R : Ty.T (.int .i64) → Prop, (∀ x, R x ↔ x = r) → WF (.sl (.st (.pair .str (.pair .bool (.pair (.int .i64) .unit))))) l → WF (.int .i64) letter → WF (.int .i64) i → 
    ∃ r : (List Int),
    (CallP Tryd.prog tT (48 : Nat) [(AV.c (Cap.d (Ty.sl (Ty.st (Ty.pair Ty.str (Ty.pair Ty.bool (Ty.pair (Ty.int Go.IntKind.i64) Ty.unit))))) l)), (AV.c (Cap.d (Ty.int Go.IntKind.i64) letter))] (Ty.sl (Ty.int Go.IntKind.i64)) r ∧
    ((((!(decide (i < (0 : Int)))) = true) →
      ((!(decide (i < (0 : Int)))) = true)) ∧
    ((((!(decide (i < (0 : Int)))) = true) →
      (((!(decide (i < (0 : Int)))) = true) ∧
      ((!(decide (i < (0 : Int)))) = true))) ∧
    ((((decide (i < (0 : Int))) = false) →
      ((!(decide (i < (0 : Int)))) = true)) ∧
    ((((selB (decide (i < (0 : Int))) true (decide ((((List.length r) : Nat) : Int) ≤ i))) = true) →
      (R (0 : Int))) ∧
    (((selB (decide (i < (0 : Int))) true (decide ((((List.length r) : Nat) : Int) ≤ i))) = false) →
      ((((0 : Int) ≤ i) ∧
      (i < (((List.length r) : Nat) : Int))) ∧
      (R (List.getD r (Int.toNat i) (0 : Int))))))))))) : CallP Tryd.prog tT 26 [.d (.sl (.st (.pair .str (.pair .bool (.pair (.int .i64) .unit))))) l, .d (.int .i64) letter, .d (.int .i64) i] (.int .i64) r :=
  callP_of (cx := cx26) (d := 6) mixed tab_ok inl_ok Tryd.func26 ⟨fun _ _ => by kernel_rfl⟩ rfl rfl fun wf => Eq.mpr (by kernel_rfl) (h (fun x => x = r) (fun _ => Iff.rfl) (wf.1 rfl) (wf.2.1 rfl) (wf.2.2.1 rfl))
set_option maxRecDepth 1000000 in
theorem sf26 (l : (Ty.T (.sl (.st (.pair .str (.pair .bool (.pair (.int .i64) .unit))))))) (letter : (Ty.T (.int .i64))) (i : (Ty.T (.int .i64))) (r : Ty.T (.int .i64)) (h : ∀ R : Ty.T (.int .i64) → Prop, (∀ x, R x ↔ x = r) → WF (.sl (.st (.pair .str (.pair .bool (.pair (.int .i64) .unit))))) l → WF (.int .i64) letter → WF (.int .i64) i → 
    (∃ r : (List Int),
    (CallP Tryd.prog tT (48 : Nat) [(AV.c (Cap.d (Ty.sl (Ty.st (Ty.pair Ty.str (Ty.pair Ty.bool (Ty.pair (Ty.int Go.IntKind.i64) Ty.unit))))) l)), (AV.c (Cap.d (Ty.int Go.IntKind.i64) letter))] (Ty.sl (Ty.int Go.IntKind.i64)) r ∧
    ((((i < (0 : Int)) ∨ ((((List.length r) : Nat) : Int) ≤ i)) →
      (R (0 : Int))) ∧
    (((0 : Int) ≤ i) → (i < (((List.length r) : Nat) : Int)) →
      (R (List.getD r (Int.toNat i) (0 : Int)))))))) : CallP Tryd.prog tT 26 [.d (.sl (.st (.pair .str (.pair .bool (.pair (.int .i64) .unit))))) l, .d (.int .i64) letter, .d (.int .i64) i] (.int .i64) r :=
  of26 l letter i r fun R hR w0_ w1_ w2_ => have p := h R hR w0_ w1_ w2_
    (Exists.elim p fun r q1 => Exists.intro r ⟨q1.1, ⟨(fun h6 => h6), ⟨(fun h10 => ⟨h10, h10⟩), ⟨(fun h13 => (bnot_t2 h13)), ⟨(fun h19 => (q1.2.1 (Or.imp (fun h => (of_decide_eq_true h)) (fun h => (of_decide_eq_true h)) (selB_ot h19)))), (fun h21 => ⟨⟨(Int.not_lt.1 (of_decide_eq_false (selB_of h21).1)), (Int.not_le.1 (of_decide_eq_false (selB_of h21).2))⟩, (q1.2.2 (Int.not_lt.1 (of_decide_eq_false (selB_of h21).1)) (Int.not_le.1 (of_decide_eq_false (selB_of h21).2)))⟩)⟩⟩⟩⟩⟩)
/- foresight/signal.In -/
def cx27 : Cx := { T := tT, own := ownT, frz := [], loops := [], cuts := [], inl := inlT }
set_option maxRecDepth 1000000 in
theorem of27 (l : (Ty.T (.sl (.st (.pair .str (.pair .bool (.pair (.int .i64) .unit))))))) (letter : (Ty.T (.int .i64))) (r : Ty.T (.int .i64)) (h : ∀ R : Ty.T (.int .i64) → Prop, (∀ x, R x ↔ x = r) → WF (.sl (.st (.pair .str (.pair .bool (.pair (.int .i64) .unit))))) l → WF (.int .i64) letter → 
    ∃ r : Int,
    (CallP Tryd.prog tT (49 : Nat) [(AV.c (Cap.d (Ty.sl (Ty.st (Ty.pair Ty.str (Ty.pair Ty.bool (Ty.pair (Ty.int Go.IntKind.i64) Ty.unit))))) l)), (AV.c (Cap.d (Ty.int Go.IntKind.i64) letter)), (AV.c (Cap.d Ty.bool true))] (Ty.int Go.IntKind.i64) r ∧
    (R r))) : CallP Tryd.prog tT 27 [.d (.sl (.st (.pair .str (.pair .bool (.pair (.int .i64) .unit))))) l, .d (.int .i64) letter] (.int .i64) r :=
  callP_of (cx := cx27) (d := 6) mixed tab_ok inl_ok Tryd.func27 ⟨fun _ _ => by kernel_rfl⟩ rfl rfl fun wf => Eq.mpr (by kernel_rfl) (h (fun x => x = r) (fun _ => Iff.rfl) (wf.1 rfl) (wf.2.1 rfl))
/- foresight/foresightref01.Input -/
def cx28 : Cx := { T := tT, own := ownT, frz := [], loops := [], cuts := [], inl := inlT }
set_option maxRecDepth 1000000 in
theorem of28 (l : (Ty.T (.sl (.st (.pair .str (.pair .bool (.pair (.int .i64) .unit))))))) (letter : (Ty.T (.int .i64))) (r : Ty.T (.int .i64)) (h : ∀ R : Ty.T (.int .i64) → Prop, (∀ x, R x ↔ x = r) → WF (.sl (.st (.pair .str (.pair .bool (.pair (.int .i64) .unit))))) l → WF (.int .i64) letter → 
    ∃ r : Int,
    (CallP Tryd.prog tT (50 : Nat) [(AV.c (Cap.d (Ty.sl (Ty.st (Ty.pair Ty.str (Ty.pair Ty.bool (Ty.pair (Ty.int Go.IntKind.i64) Ty.unit))))) l)), (AV.c (Cap.d (Ty.int Go.IntKind.i64) letter)), (AV.c (Cap.d Ty.bool true))] (Ty.int Go.IntKind.i64) r ∧
    (R r))) : CallP Tryd.prog tT 28 [.d (.sl (.st (.pair .str (.pair .bool (.pair (.int .i64) .unit))))) l, .d (.int .i64) letter] (.int .i64) r :=
  callP_of (cx := cx28) (d := 6) mixed tab_ok inl_ok Tryd.func28 ⟨fun _ _ => by kernel_rfl⟩ rfl rfl fun wf => Eq.mpr (by kernel_rfl) (h (fun x => x = r) (fun _ => Iff.rfl) (wf.1 rfl) (wf.2.1 rfl))
/- foresight/signal.Out -/
def cx29 : Cx := { T := tT, own := ownT, frz := [], loops := [], cuts := [], inl := inlT }
set_option maxRecDepth 1000000 in
theorem of29 (l : (Ty.T (.sl (.st (.pair .str (.pair .bool (.pair (.int .i64) .unit))))))) (letter : (Ty.T (.int .i64))) (r : Ty.T (.int .i64)) (h : ∀ R : Ty.T (.int .i64) → Prop, (∀ x, R x ↔ x = r) → WF (.sl (.st (.pair .str (.pair .bool (.pair (.int .i64) .unit))))) l → WF (.int .i64) letter → 
    ∃ r : Int,
    (CallP Tryd.prog tT (49 : Nat) [(AV.c (Cap.d (Ty.sl (Ty.st (Ty.pair Ty.str (Ty.pair Ty.bool (Ty.pair (Ty.int Go.IntKind.i64) Ty.unit))))) l)), (AV.c (Cap.d (Ty.int Go.IntKind.i64) letter)), (AV.c (Cap.d Ty.bool false))] (Ty.int Go.IntKind.i64) r ∧
    (R r))) : CallP Tryd.prog tT 29 [.d (.sl (.st (.pair .str (.pair .bool (.pair (.int .i64) .unit))))) l, .d (.int .i64) letter] (.int .i64) r :=
  callP_of (cx := cx29) (d := 6) mixed tab_ok inl_ok Tryd.func29 ⟨fun _ _ => by kernel_rfl⟩ rfl rfl fun wf => Eq.mpr (by kernel_rfl) (h (fun x => x = r) (fun _ => Iff.rfl) (wf.1 rfl) (wf.2.1 rfl))
/- foresight/foresightref01.Output -/
def cx30 : Cx := { T := tT, own := ownT, frz := [], loops := [], cuts := [], inl := inlT }
set_option maxRecDepth 1000000 in
theorem of30 (l : (Ty.T (.sl (.st (.pair .str (.pair .bool (.pair (.int .i64) .unit))))))) (letter : (Ty.T (.int .i64))) (r : Ty.T (.int .i64)) (h : ∀ R : Ty.T (.int .i64) → Prop, (∀ x, R x ↔ x = r) → WF (.sl (.st (.pair .str (.pair .bool (.pair (.int .i64) .unit))))) l → WF (.int .i64) letter → 
    ∃ r : Int,
    (CallP Tryd.prog tT (50 : Nat) [(AV.c (Cap.d (Ty.sl (Ty.st (Ty.pair Ty.str (Ty.pair Ty.bool (Ty.pair (Ty.int Go.IntKind.i64) Ty.unit))))) l)), (AV.c (Cap.d (Ty.int Go.IntKind.i64) letter)), (AV.c (Cap.d Ty.bool false))] (Ty.int Go.IntKind.i64) r ∧
    (R r))) : CallP Tryd.prog tT 30 [.d (.sl (.st (.pair .str (.pair .bool (.pair (.int .i64) .unit))))) l, .d (.int .i64) letter] (.int .i64) r :=
  callP_of (cx := cx30) (d := 6) mixed tab_ok inl_ok Tryd.func30 ⟨fun _ _ => by kernel_rfl⟩ rfl rfl fun wf => Eq.mpr (by kernel_rfl) (h (fun x => x = r) (fun _ => Iff.rfl) (wf.1 rfl) (wf.2.1 rfl))
/- foresight/signal.Join -/
def cx31 : Cx := { T := tT, own := ownT, frz := [], loops := [(310006, 244, ⟨[.val 7 (.int .i64), .val 8 (.int .i64), .val 32 (.int .i64), .obj 5 [.d (.int .i64)], .obj 4 [.d (.int .i64)]], 0⟩)], cuts := [], inl := inlT }
set_option maxRecDepth 1000000 in
theorem of31 (l : (Ty.T (.sl (.st (.pair .str (.pair .bool (.pair (.int .i64) .unit))))))) (in_ : (Ty.T (.int .i64))) (out : (Ty.T (.int .i64))) (r : Ty.T (.int .i64)) (h : ∀ R : Ty.T (.int .i64) → Prop, (∀ x, R x ↔ x = r) → WF (.sl (.st (.pair .str (.pair .bool (.pair (.int .i64) .unit))))) l → WF (.int .i64) in_ → WF (.int .i64) out → 
    ∃ r : Int,
    ((((!(decide (in_ < (0 : Int)))) = true) →
      (((!(decide (in_ < (0 : Int)))) = true) ∧
      CallP Tryd.prog tT (21 : Nat) [(AV.c (Cap.d (Ty.sl (Ty.st (Ty.pair Ty.str (Ty.pair Ty.bool (Ty.pair (Ty.int Go.IntKind.i64) Ty.unit))))) l))] (Ty.int Go.IntKind.i64) r)) ∧
    ((((!(decide (in_ < (0 : Int)))) = true) →
      (((!(decide (in_ < (0 : Int)))) = true) ∧
      ((!(decide (in_ < (0 : Int)))) = true))) ∧
    ((((decide (in_ < (0 : Int))) = false) →
      ((!(decide (in_ < (0 : Int)))) = true)) ∧
    ((((!(selB (decide (in_ < (0 : Int))) true (decide (r ≤ in_)))) = true) →
      ((!(selB (decide (in_ < (0 : Int))) true (decide (r ≤ in_)))) = true)) ∧
    ((((selB (decide (in_ < (0 : Int))) true (decide (r ≤ in_))) = false) →
      ((!(selB (decide (in_ < (0 : Int))) true (decide (r ≤ in_)))) = true)) ∧
    ∃ r1 : Int,
    ((((!(selB (selB (decide (in_ < (0 : Int))) true (decide (r ≤ in_))) true (decide (out < (0 : Int))))) = true) →
      (((!(selB (selB (decide (in_ < (0 : Int))) true (decide (r ≤ in_))) true (decide (out < (0 : Int))))) = true) ∧
      CallP Tryd.prog tT (23 : Nat) [(AV.c (Cap.d (Ty.sl (Ty.st (Ty.pair Ty.str (Ty.pair Ty.bool (Ty.pair (Ty.int Go.IntKind.i64) Ty.unit))))) l))] (Ty.int Go.IntKind.i64) r1)) ∧
    ((((!(selB (selB (decide (in_ < (0 : Int))) true (decide (r ≤ in_))) true (decide (out < (0 : Int))))) = true) →
      (((!(selB (selB (decide (in_ < (0 : Int))) true (decide (r ≤ in_))) true (decide (out < (0 : Int))))) = true) ∧
      ((!(selB (selB (decide (in_ < (0 : Int))) true (decide (r ≤ in_))) true (decide (out < (0 : Int))))) = true))) ∧
    ((((selB (selB (decide (in_ < (0 : Int))) true (decide (r ≤ in_))) true (decide (out < (0 : Int)))) = false) →
      ((!(selB (selB (decide (in_ < (0 : Int))) true (decide (r ≤ in_))) true (decide (out < (0 : Int))))) = true)) ∧
    ((((selB (selB (selB (decide (in_ < (0 : Int))) true (decide (r ≤ in_))) true (decide (out < (0 : Int)))) true (decide (r1 ≤ out))) = true) →
      (R (0 : Int))) ∧
    (((selB (selB (selB (decide (in_ < (0 : Int))) true (decide (r ≤ in_))) true (decide (out < (0 : Int)))) true (decide (r1 ≤ out))) = false) →
      ∃ I : ((Int × (Int × (Int × ((Int × Unit) × ((Int × Unit) × Unit))))) → Prop),
      ∃ μ : ((Int × (Int × (Int × ((Int × Unit) × ((Int × Unit) × Unit))))) → Nat),
      ((I ((0 : Int), ((1 : Int), ((0 : Int), ((out, ()), ((in_, ()), ())))))) ∧
      ∀ x : (Int × (Int × (Int × ((Int × Unit) × ((Int × Unit) × Unit))))),
      ((WF (Ty.int Go.IntKind.i64) x.1 ∧
        (WF (Ty.int Go.IntKind.i64) x.2.1 ∧
        (WF (Ty.int Go.IntKind.i64) x.2.2.1 ∧
        (WF (Ty.pair (Ty.int Go.IntKind.i64) Ty.unit) x.2.2.2.1 ∧
        (WF (Ty.pair (Ty.int Go.IntKind.i64) Ty.unit) x.2.2.2.2.1 ∧
        True))))) →
        ((I x) →
          ((((decide (x.2.2.1 < (((List.length l) : Nat) : Int))) = true) →
            ((((0 : Int) ≤ x.2.2.1) ∧
            (x.2.2.1 < (((List.length l) : Nat) : Int))) ∧
            ((((List.getD l (Int.toNat x.2.2.1) (([] : List UInt8), (false, ((0 : Int), ())))).2.1 = true) →
              ((((0 : Int) ≤ x.2.2.2.2.1.1) ∧
              ((0 : Int) < (List.getD l (Int.toNat x.2.2.1) (([] : List UInt8), (false, ((0 : Int), ())))).2.2.1)) ∧
              (inK Go.IntKind.i64 (x.2.1 * (x.2.2.2.2.1.1 % (List.getD l (Int.toNat x.2.2.1) (([] : List UInt8), (false, ((0 : Int), ())))).2.2.1)) ∧
              (inK Go.IntKind.i64 (x.1 + (x.2.1 * (x.2.2.2.2.1.1 % (List.getD l (Int.toNat x.2.2.1) (([] : List UInt8), (false, ((0 : Int), ())))).2.2.1))) ∧
              ((((0 : Int) ≤ x.2.2.2.2.1.1) ∧
              ((0 : Int) < (List.getD l (Int.toNat x.2.2.1) (([] : List UInt8), (false, ((0 : Int), ())))).2.2.1)) ∧
              (inK Go.IntKind.i64 (x.2.1 * (List.getD l (Int.toNat x.2.2.1) (([] : List UInt8), (false, ((0 : Int), ())))).2.2.1) ∧
              (inK Go.IntKind.i64 (x.2.2.1 + (1 : Int)) ∧
              ((I ((x.1 + (x.2.1 * (x.2.2.2.2.1.1 % (List.getD l (Int.toNat x.2.2.1) (([] : List UInt8), (false, ((0 : Int), ())))).2.2.1))), ((x.2.1 * (List.getD l (Int.toNat x.2.2.1) (([] : List UInt8), (false, ((0 : Int), ())))).2.2.1), ((x.2.2.1 + (1 : Int)), ((x.2.2.2.1.1, ()), (((x.2.2.2.2.1.1 / (List.getD l (Int.toNat x.2.2.1) (([] : List UInt8), (false, ((0 : Int), ())))).2.2.1), ()), ())))))) ∧
              ((μ ((x.1 + (x.2.1 * (x.2.2.2.2.1.1 % (List.getD l (Int.toNat x.2.2.1) (([] : List UInt8), (false, ((0 : Int), ())))).2.2.1))), ((x.2.1 * (List.getD l (Int.toNat x.2.2.1) (([] : List UInt8), (false, ((0 : Int), ())))).2.2.1), ((x.2.2.1 + (1 : Int)), ((x.2.2.2.1.1, ()), (((x.2.2.2.2.1.1 / (List.getD l (Int.toNat x.2.2.1) (([] : List UInt8), (false, ((0 : Int), ())))).2.2.1), ()), ())))))) < (μ x)))))))))) ∧
            (((List.getD l (Int.toNat x.2.2.1) (([] : List UInt8), (false, ((0 : Int), ())))).2.1 = false) →
              ((((0 : Int) ≤ x.2.2.2.1.1) ∧
              ((0 : Int) < (List.getD l (Int.toNat x.2.2.1) (([] : List UInt8), (false, ((0 : Int), ())))).2.2.1)) ∧
              (inK Go.IntKind.i64 (x.2.1 * (x.2.2.2.1.1 % (List.getD l (Int.toNat x.2.2.1) (([] : List UInt8), (false, ((0 : Int), ())))).2.2.1)) ∧
              (inK Go.IntKind.i64 (x.1 + (x.2.1 * (x.2.2.2.1.1 % (List.getD l (Int.toNat x.2.2.1) (([] : List UInt8), (false, ((0 : Int), ())))).2.2.1))) ∧
              ((((0 : Int) ≤ x.2.2.2.1.1) ∧
              ((0 : Int) < (List.getD l (Int.toNat x.2.2.1) (([] : List UInt8), (false, ((0 : Int), ())))).2.2.1)) ∧
              (inK Go.IntKind.i64 (x.2.1 * (List.getD l (Int.toNat x.2.2.1) (([] : List UInt8), (false, ((0 : Int), ())))).2.2.1) ∧
              (inK Go.IntKind.i64 (x.2.2.1 + (1 : Int)) ∧
              ((I ((x.1 + (x.2.1 * (x.2.2.2.1.1 % (List.getD l (Int.toNat x.2.2.1) (([] : List UInt8), (false, ((0 : Int), ())))).2.2.1))), ((x.2.1 * (List.getD l (Int.toNat x.2.2.1) (([] : List UInt8), (false, ((0 : Int), ())))).2.2.1), ((x.2.2.1 + (1 : Int)), (((x.2.2.2.1.1 / (List.getD l (Int.toNat x.2.2.1) (([] : List UInt8), (false, ((0 : Int), ())))).2.2.1), ()), ((x.2.2.2.2.1.1, ()), ())))))) ∧
              ((μ ((x.1 + (x.2.1 * (x.2.2.2.1.1 % (List.getD l (Int.toNat x.2.2.1) (([] : List UInt8), (false, ((0 : Int), ())))).2.2.1))), ((x.2.1 * (List.getD l (Int.toNat x.2.2.1) (([] : List UInt8), (false, ((0 : Int), ())))).2.2.1), ((x.2.2.1 + (1 : Int)), (((x.2.2.2.1.1 / (List.getD l (Int.toNat x.2.2.1) (([] : List UInt8), (false, ((0 : Int), ())))).2.2.1), ()), ((x.2.2.2.2.1.1, ()), ())))))) < (μ x))))))))))))) ∧
          (((decide (x.2.2.1 < (((List.length l) : Nat) : Int))) = false) →
            (R x.1))))))))))))))))) : CallP Tryd.prog tT 31 [.d (.sl (.st (.pair .str (.pair .bool (.pair (.int .i64) .unit))))) l, .d (.int .i64) in_, .d (.int .i64) out] (.int .i64) r :=
  callP_of (cx := cx31) (d := 6) mixed tab_ok inl_ok Tryd.func31 ⟨fun _ _ => by kernel_rfl⟩ rfl rfl fun wf => Eq.mpr (by kernel_rfl) (h (fun x => x = r) (fun _ => Iff.rfl) (wf.1 rfl) (wf.2.1 rfl) (wf.2.2.1 rfl))
set_option maxRecDepth 1000000 in
theorem sf31 (l : (Ty.T (.sl (.st (.pair .str (.pair .bool (.pair (.int .i64) .unit))))))) (in_ : (Ty.T (.int .i64))) (out : (Ty.T (.int .i64))) (r : Ty.T (.int .i64)) (h : ∀ R : Ty.T (.int .i64) → Prop, (∀ x, R x ↔ x = r) → WF (.sl (.st (.pair .str (.pair .bool (.pair (.int .i64) .unit))))) l → WF (.int .i64) in_ → WF (.int .i64) out → 
    (∃ r : Int,
    ((((0 : Int) ≤ in_) →
      CallP Tryd.prog tT (21 : Nat) [(AV.c (Cap.d (Ty.sl (Ty.st (Ty.pair Ty.str (Ty.pair Ty.bool (Ty.pair (Ty.int Go.IntKind.i64) Ty.unit))))) l))] (Ty.int Go.IntKind.i64) r) ∧
    (∃ r1 : Int,
    ((((0 : Int) ≤ in_) → (in_ < r) → ((0 : Int) ≤ out) →
      CallP Tryd.prog tT (23 : Nat) [(AV.c (Cap.d (Ty.sl (Ty.st (Ty.pair Ty.str (Ty.pair Ty.bool (Ty.pair (Ty.int Go.IntKind.i64) Ty.unit))))) l))] (Ty.int Go.IntKind.i64) r1) ∧
    ((((((in_ < (0 : Int)) ∨ (r ≤ in_)) ∨ (out < (0 : Int))) ∨ (r1 ≤ out)) →
      (R (0 : Int))) ∧
    (((0 : Int) ≤ in_) → (in_ < r) → ((0 : Int) ≤ out) → (out < r1) →
      (∃ I : ((Int × (Int × (Int × ((Int × Unit) × ((Int × Unit) × Unit))))) → Prop),
      (∃ μ : ((Int × (Int × (Int × ((Int × Unit) × ((Int × Unit) × Unit))))) → Nat),
      ((I ((0 : Int), ((1 : Int), ((0 : Int), ((out, ()), ((in_, ()), ())))))) ∧
      (∀ x : (Int × (Int × (Int × ((Int × Unit) × ((Int × Unit) × Unit))))),
      ((WF (Ty.int Go.IntKind.i64) x.1 ∧
        (WF (Ty.int Go.IntKind.i64) x.2.1 ∧
        (WF (Ty.int Go.IntKind.i64) x.2.2.1 ∧
        (WF (Ty.pair (Ty.int Go.IntKind.i64) Ty.unit) x.2.2.2.1 ∧
        (WF (Ty.pair (Ty.int Go.IntKind.i64) Ty.unit) x.2.2.2.2.1 ∧
        True))))) →
        ((I x) →
          (((x.2.2.1 < (((List.length l) : Nat) : Int)) →
            (((0 : Int) ≤ x.2.2.1) ∧
            ((((List.getD l (Int.toNat x.2.2.1) (([] : List UInt8), (false, ((0 : Int), ())))).2.1 = true) →
              ((((0 : Int) ≤ x.2.2.2.2.1.1) ∧
              ((0 : Int) < (List.getD l (Int.toNat x.2.2.1) (([] : List UInt8), (false, ((0 : Int), ())))).2.2.1)) ∧
              (inK Go.IntKind.i64 (x.2.1 * (x.2.2.2.2.1.1 % (List.getD l (Int.toNat x.2.2.1) (([] : List UInt8), (false, ((0 : Int), ())))).2.2.1)) ∧
              (inK Go.IntKind.i64 (x.1 + (x.2.1 * (x.2.2.2.2.1.1 % (List.getD l (Int.toNat x.2.2.1) (([] : List UInt8), (false, ((0 : Int), ())))).2.2.1))) ∧
              (inK Go.IntKind.i64 (x.2.1 * (List.getD l (Int.toNat x.2.2.1) (([] : List UInt8), (false, ((0 : Int), ())))).2.2.1) ∧
              (inK Go.IntKind.i64 (x.2.2.1 + (1 : Int)) ∧
              ((I ((x.1 + (x.2.1 * (x.2.2.2.2.1.1 % (List.getD l (Int.toNat x.2.2.1) (([] : List UInt8), (false, ((0 : Int), ())))).2.2.1))), ((x.2.1 * (List.getD l (Int.toNat x.2.2.1) (([] : List UInt8), (false, ((0 : Int), ())))).2.2.1), ((x.2.2.1 + (1 : Int)), ((x.2.2.2.1.1, ()), (((x.2.2.2.2.1.1 / (List.getD l (Int.toNat x.2.2.1) (([] : List UInt8), (false, ((0 : Int), ())))).2.2.1), ()), ())))))) ∧
              ((μ ((x.1 + (x.2.1 * (x.2.2.2.2.1.1 % (List.getD l (Int.toNat x.2.2.1) (([] : List UInt8), (false, ((0 : Int), ())))).2.2.1))), ((x.2.1 * (List.getD l (Int.toNat x.2.2.1) (([] : List UInt8), (false, ((0 : Int), ())))).2.2.1), ((x.2.2.1 + (1 : Int)), ((x.2.2.2.1.1, ()), (((x.2.2.2.2.1.1 / (List.getD l (Int.toNat x.2.2.1) (([] : List UInt8), (false, ((0 : Int), ())))).2.2.1), ()), ())))))) < (μ x))))))))) ∧
            (((List.getD l (Int.toNat x.2.2.1) (([] : List UInt8), (false, ((0 : Int), ())))).2.1 = false) →
              ((((0 : Int) ≤ x.2.2.2.1.1) ∧
              ((0 : Int) < (List.getD l (Int.toNat x.2.2.1) (([] : List UInt8), (false, ((0 : Int), ())))).2.2.1)) ∧
              (inK Go.IntKind.i64 (x.2.1 * (x.2.2.2.1.1 % (List.getD l (Int.toNat x.2.2.1) (([] : List UInt8), (false, ((0 : Int), ())))).2.2.1)) ∧
              (inK Go.IntKind.i64 (x.1 + (x.2.1 * (x.2.2.2.1.1 % (List.getD l (Int.toNat x.2.2.1) (([] : List UInt8), (false, ((0 : Int), ())))).2.2.1))) ∧
              (inK Go.IntKind.i64 (x.2.1 * (List.getD l (Int.toNat x.2.2.1) (([] : List UInt8), (false, ((0 : Int), ())))).2.2.1) ∧
              (inK Go.IntKind.i64 (x.2.2.1 + (1 : Int)) ∧
              ((I ((x.1 + (x.2.1 * (x.2.2.2.1.1 % (List.getD l (Int.toNat x.2.2.1) (([] : List UInt8), (false, ((0 : Int), ())))).2.2.1))), ((x.2.1 * (List.getD l (Int.toNat x.2.2.1) (([] : List UInt8), (false, ((0 : Int), ())))).2.2.1), ((x.2.2.1 + (1 : Int)), (((x.2.2.2.1.1 / (List.getD l (Int.toNat x.2.2.1) (([] : List UInt8), (false, ((0 : Int), ())))).2.2.1), ()), ((x.2.2.2.2.1.1, ()), ())))))) ∧
              ((μ ((x.1 + (x.2.1 * (x.2.2.2.1.1 % (List.getD l (Int.toNat x.2.2.1) (([] : List UInt8), (false, ((0 : Int), ())))).2.2.1))), ((x.2.1 * (List.getD l (Int.toNat x.2.2.1) (([] : List UInt8), (false, ((0 : Int), ())))).2.2.1), ((x.2.2.1 + (1 : Int)), (((x.2.2.2.1.1 / (List.getD l (Int.toNat x.2.2.1) (([] : List UInt8), (false, ((0 : Int), ())))).2.2.1), ()), ((x.2.2.2.2.1.1, ()), ())))))) < (μ x)))))))))))) ∧
          (((((List.length l) : Nat) : Int) ≤ x.2.2.1) →
            (R x.1)))))))))))))))) : CallP Tryd.prog tT 31 [.d (.sl (.st (.pair .str (.pair .bool (.pair (.int .i64) .unit))))) l, .d (.int .i64) in_, .d (.int .i64) out] (.int .i64) r :=
  of31 l in_ out r fun R hR w0_ w1_ w2_ => have p := h R hR w0_ w1_ w2_
    (Exists.elim p fun r q1 => Exists.intro r ⟨(fun h7 => ⟨h7, (q1.1 (Int.not_lt.1 (of_decide_eq_false (bnot_t h7))))⟩), ⟨(fun h12 => ⟨h12, h12⟩), ⟨(fun h16 => (bnot_t2 h16)), ⟨(fun h19 => h19), ⟨(fun h21 => (bnot_t2 h21)), (Exists.elim q1.2 fun r1 q22 => Exists.intro r1 ⟨(fun h28 => ⟨h28, (q22.1 (Int.not_lt.1 (of_decide_eq_false (selB_of (selB_of (bnot_t h28)).1).1)) (Int.not_le.1 (of_decide_eq_false (selB_of (selB_of (bnot_t h28)).1).2)) (Int.not_lt.1 (of_decide_eq_false (selB_of (bnot_t h28)).2)))⟩), ⟨(fun h32 => ⟨h32, h32⟩), ⟨(fun h35 => (bnot_t2 h35)), ⟨(fun h41 => (q22.2.1 (Or.imp (fun h => (Or.imp (fun h => (Or.imp (fun h => (of_decide_eq_true h)) (fun h => (of_decide_eq_true h)) (selB_ot h))) (fun h => (of_decide_eq_true h)) (selB_ot h))) (fun h => (of_decide_eq_true h)) (selB_ot h41)))), (fun h43 => (Exists.elim (q22.2.2 (Int.not_lt.1 (of_decide_eq_false (selB_of (selB_of (selB_of h43).1).1).1)) (Int.not_le.1 (of_decide_eq_false (selB_of (selB_of (selB_of h43).1).1).2)) (Int.not_lt.1 (of_decide_eq_false (selB_of (selB_of h43).1).2)) (Int.not_le.1 (of_decide_eq_false (selB_of h43).2))) fun I q44 => Exists.intro I (Exists.elim q44 fun μ q45 => Exists.intro μ ⟨q45.1, (fun x => (fun h46 => (fun h47 => ⟨(fun h61 => ⟨⟨((((q45.2 x) h46) h47).1 (of_decide_eq_true h61)).1, (of_decide_eq_true h61)⟩, ⟨(fun h67 => ⟨⟨(((((q45.2 x) h46) h47).1 (of_decide_eq_true h61)).2.1 h67).1.1, (((((q45.2 x) h46) h47).1 (of_decide_eq_true h61)).2.1 h67).1.2⟩, ⟨(((((q45.2 x) h46) h47).1 (of_decide_eq_true h61)).2.1 h67).2.1, ⟨(((((q45.2 x) h46) h47).1 (of_decide_eq_true h61)).2.1 h67).2.2.1, ⟨⟨(((((q45.2 x) h46) h47).1 (of_decide_eq_true h61)).2.1 h67).1.1, (((((q45.2 x) h46) h47).1 (of_decide_eq_true h61)).2.1 h67).1.2⟩, ⟨(((((q45.2 x) h46) h47).1 (of_decide_eq_true h61)).2.1 h67).2.2.2.1, ⟨(((((q45.2 x) h46) h47).1 (of_decide_eq_true h61)).2.1 h67).2.2.2.2.1, ⟨(((((q45.2 x) h46) h47).1 (of_decide_eq_true h61)).2.1 h67).2.2.2.2.2.1, (((((q45.2 x) h46) h47).1 (of_decide_eq_true h61)).2.1 h67).2.2.2.2.2.2⟩⟩⟩⟩⟩⟩⟩), (fun h69 => ⟨⟨(((((q45.2 x) h46) h47).1 (of_decide_eq_true h61)).2.2 h69).1.1, (((((q45.2 x) h46) h47).1 (of_decide_eq_true h61)).2.2 h69).1.2⟩, ⟨(((((q45.2 x) h46) h47).1 (of_decide_eq_true h61)).2.2 h69).2.1, ⟨(((((q45.2 x) h46) h47).1 (of_decide_eq_true h61)).2.2 h69).2.2.1, ⟨⟨(((((q45.2 x) h46) h47).1 (of_decide_eq_true h61)).2.2 h69).1.1, (((((q45.2 x) h46) h47).1 (of_decide_eq_true h61)).2.2 h69).1.2⟩, ⟨(((((q45.2 x) h46) h47).1 (of_decide_eq_true h61)).2.2 h69).2.2.2.1, ⟨(((((q45.2 x) h46) h47).1 (of_decide_eq_true h61)).2.2 h69).2.2.2.2.1, ⟨(((((q45.2 x) h46) h47).1 (of_decide_eq_true h61)).2.2 h69).2.2.2.2.2.1, (((((q45.2 x) h46) h47).1 (of_decide_eq_true h61)).2.2 h69).2.2.2.2.2.2⟩⟩⟩⟩⟩⟩⟩)⟩⟩), (fun h71 => ((((q45.2 x) h46) h47).2 (Int.not_lt.1 (of_decide_eq_false h71))))⟩)))⟩)))⟩⟩⟩⟩)⟩⟩⟩⟩⟩)
/- foresight/foresightref01.Join -/
def cx32 : Cx := { T := tT, own := ownT, frz := [], loops := [(320007, 415, ⟨[.val 1 (.int .i64), .val 2 (.int .i64), .val 7 (.int .i64), .val 8 (.int .i64), .val 9 (.int .i64)], 0⟩)], cuts := [], inl := inlT }
set_option maxRecDepth 1000000 in
theorem of32 (l : (Ty.T (.sl (.st (.pair .str (.pair .bool (.pair (.int .i64) .unit))))))) (in_ : (Ty.T (.int .i64))) (out : (Ty.T (.int .i64))) (r : Ty.T (.int .i64)) (h : ∀ R : Ty.T (.int .i64) → Prop, (∀ x, R x ↔ x = r) → WF (.sl (.st (.pair .str (.pair .bool (.pair (.int .i64) .unit))))) l → WF (.int .i64) in_ → WF (.int .i64) out → 
    ∃ r : Int,
    ((((!(decide (in_ < (0 : Int)))) = true) →
      (((!(decide (in_ < (0 : Int)))) = true) ∧
      CallP Tryd.prog tT (22 : Nat) [(AV.c (Cap.d (Ty.sl (Ty.st (Ty.pair Ty.str (Ty.pair Ty.bool (Ty.pair (Ty.int Go.IntKind.i64) Ty.unit))))) l))] (Ty.int Go.IntKind.i64) r)) ∧
    ((((!(decide (in_ < (0 : Int)))) = true) →
      (((!(decide (in_ < (0 : Int)))) = true) ∧
      ((!(decide (in_ < (0 : Int)))) = true))) ∧
    ((((decide (in_ < (0 : Int))) = false) →
      ((!(decide (in_ < (0 : Int)))) = true)) ∧
    ((((!(selB (decide (in_ < (0 : Int))) true (decide (r ≤ in_)))) = true) →
      ((!(selB (decide (in_ < (0 : Int))) true (decide (r ≤ in_)))) = true)) ∧
    ((((selB (decide (in_ < (0 : Int))) true (decide (r ≤ in_))) = false) →
      ((!(selB (decide (in_ < (0 : Int))) true (decide (r ≤ in_)))) = true)) ∧
    ∃ r1 : Int,
    ((((!(selB (selB (decide (in_ < (0 : Int))) true (decide (r ≤ in_))) true (decide (out < (0 : Int))))) = true) →
      (((!(selB (selB (decide (in_ < (0 : Int))) true (decide (r ≤ in_))) true (decide (out < (0 : Int))))) = true) ∧
      CallP Tryd.prog tT (24 : Nat) [(AV.c (Cap.d (Ty.sl (Ty.st (Ty.pair Ty.str (Ty.pair Ty.bool (Ty.pair (Ty.int Go.IntKind.i64) Ty.unit))))) l))] (Ty.int Go.IntKind.i64) r1)) ∧
    ((((!(selB (selB (decide (in_ < (0 : Int))) true (decide (r ≤ in_))) true (decide (out < (0 : Int))))) = true) →
      (((!(selB (selB (decide (in_ < (0 : Int))) true (decide (r ≤ in_))) true (decide (out < (0 : Int))))) = true) ∧
      ((!(selB (selB (decide (in_ < (0 : Int))) true (decide (r ≤ in_))) true (decide (out < (0 : Int))))) = true))) ∧
    ((((selB (selB (decide (in_ < (0 : Int))) true (decide (r ≤ in_))) true (decide (out < (0 : Int)))) = false) →
      ((!(selB (selB (decide (in_ < (0 : Int))) true (decide (r ≤ in_))) true (decide (out < (0 : Int))))) = true)) ∧
    ((((selB (selB (selB (decide (in_ < (0 : Int))) true (decide (r ≤ in_))) true (decide (out < (0 : Int)))) true (decide (r1 ≤ out))) = true) →
      (R (0 : Int))) ∧
    (((selB (selB (selB (decide (in_ < (0 : Int))) true (decide (r ≤ in_))) true (decide (out < (0 : Int)))) true (decide (r1 ≤ out))) = false) →
      ∃ I : ((Int × (Int × (Int × (Int × (Int × Unit))))) → Prop),
      ∃ μ : ((Int × (Int × (Int × (Int × (Int × Unit))))) → Nat),
      ((I (in_, (out, ((0 : Int), ((1 : Int), ((0 : Int), ())))))) ∧
      ∀ x : (Int × (Int × (Int × (Int × (Int × Unit))))),
      ((WF (Ty.int Go.IntKind.i64) x.1 ∧
        (WF (Ty.int Go.IntKind.i64) x.2.1 ∧
        (WF (Ty.int Go.IntKind.i64) x.2.2.1 ∧
        (WF (Ty.int Go.IntKind.i64) x.2.2.2.1 ∧
        (WF (Ty.int Go.IntKind.i64) x.2.2.2.2.1 ∧
        True))))) →
        ((I x) →
          ((((decide (x.2.2.2.2.1 < (((List.length l) : Nat) : Int))) = true) →
            ((((0 : Int) ≤ x.2.2.2.2.1) ∧
            (x.2.2.2.2.1 < (((List.length l) : Nat) : Int))) ∧
            ((((List.getD l (Int.toNat x.2.2.2.2.1) (([] : List UInt8), (false, ((0 : Int), ())))).2.1 = true) →
              ((((0 : Int) ≤ x.2.2.2.2.1) ∧
              (x.2.2.2.2.1 < (((List.length l) : Nat) : Int))) ∧
              ((((0 : Int) ≤ x.1) ∧
              ((0 : Int) < (List.getD l (Int.toNat x.2.2.2.2.1) (([] : List UInt8), (false, ((0 : Int), ())))).2.2.1)) ∧
              (inK Go.IntKind.i64 (x.2.2.2.1 * (x.1 % (List.getD l (Int.toNat x.2.2.2.2.1) (([] : List UInt8), (false, ((0 : Int), ())))).2.2.1)) ∧
              (inK Go.IntKind.i64 (x.2.2.1 + (x.2.2.2.1 * (x.1 % (List.getD l (Int.toNat x.2.2.2.2.1) (([] : List UInt8), (false, ((0 : Int), ())))).2.2.1))) ∧
              ((((0 : Int) ≤ x.2.2.2.2.1) ∧
              (x.2.2.2.2.1 < (((List.length l) : Nat) : Int))) ∧
              ((((0 : Int) ≤ x.1) ∧
              ((0 : Int) < (List.getD l (Int.toNat x.2.2.2.2.1) (([] : List UInt8), (false, ((0 : Int), ())))).2.2.1)) ∧
              ((((0 : Int) ≤ x.2.2.2.2.1) ∧
              (x.2.2.2.2.1 < (((List.length l) : Nat) : Int))) ∧
              (inK Go.IntKind.i64 (x.2.2.2.1 * (List.getD l (Int.toNat x.2.2.2.2.1) (([] : List UInt8), (false, ((0 : Int), ())))).2.2.1) ∧
              (inK Go.IntKind.i64 (x.2.2.2.2.1 + (1 : Int)) ∧
              ((I ((x.1 / (List.getD l (Int.toNat x.2.2.2.2.1) (([] : List UInt8), (false, ((0 : Int), ())))).2.2.1), (x.2.1, ((x.2.2.1 + (x.2.2.2.1 * (x.1 % (List.getD l (Int.toNat x.2.2.2.2.1) (([] : List UInt8), (false, ((0 : Int), ())))).2.2.1))), ((x.2.2.2.1 * (List.getD l (Int.toNat x.2.2.2.2.1) (([] : List UInt8), (false, ((0 : Int), ())))).2.2.1), ((x.2.2.2.2.1 + (1 : Int)), ())))))) ∧
              ((μ ((x.1 / (List.getD l (Int.toNat x.2.2.2.2.1) (([] : List UInt8), (false, ((0 : Int), ())))).2.2.1), (x.2.1, ((x.2.2.1 + (x.2.2.2.1 * (x.1 % (List.getD l (Int.toNat x.2.2.2.2.1) (([] : List UInt8), (false, ((0 : Int), ())))).2.2.1))), ((x.2.2.2.1 * (List.getD l (Int.toNat x.2.2.2.2.1) (([] : List UInt8), (false, ((0 : Int), ())))).2.2.1), ((x.2.2.2.2.1 + (1 : Int)), ())))))) < (μ x))))))))))))) ∧
            (((List.getD l (Int.toNat x.2.2.2.2.1) (([] : List UInt8), (false, ((0 : Int), ())))).2.1 = false) →
              ((((0 : Int) ≤ x.2.2.2.2.1) ∧
              (x.2.2.2.2.1 < (((List.length l) : Nat) : Int))) ∧
              ((((0 : Int) ≤ x.2.1) ∧
              ((0 : Int) < (List.getD l (Int.toNat x.2.2.2.2.1) (([] : List UInt8), (false, ((0 : Int), ())))).2.2.1)) ∧
              (inK Go.IntKind.i64 (x.2.2.2.1 * (x.2.1 % (List.getD l (Int.toNat x.2.2.2.2.1) (([] : List UInt8), (false, ((0 : Int), ())))).2.2.1)) ∧
              (inK Go.IntKind.i64 (x.2.2.1 + (x.2.2.2.1 * (x.2.1 % (List.getD l (Int.toNat x.2.2.2.2.1) (([] : List UInt8), (false, ((0 : Int), ())))).2.2.1))) ∧
              ((((0 : Int) ≤ x.2.2.2.2.1) ∧
              (x.2.2.2.2.1 < (((List.length l) : Nat) : Int))) ∧
              ((((0 : Int) ≤ x.2.1) ∧
              ((0 : Int) < (List.getD l (Int.toNat x.2.2.2.2.1) (([] : List UInt8), (false, ((0 : Int), ())))).2.2.1)) ∧
              ((((0 : Int) ≤ x.2.2.2.2.1) ∧
              (x.2.2.2.2.1 < (((List.length l) : Nat) : Int))) ∧
              (inK Go.IntKind.i64 (x.2.2.2.1 * (List.getD l (Int.toNat x.2.2.2.2.1) (([] : List UInt8), (false, ((0 : Int), ())))).2.2.1) ∧
              (inK Go.IntKind.i64 (x.2.2.2.2.1 + (1 : Int)) ∧
              ((I (x.1, ((x.2.1 / (List.getD l (Int.toNat x.2.2.2.2.1) (([] : List UInt8), (false, ((0 : Int), ())))).2.2.1), ((x.2.2.1 + (x.2.2.2.1 * (x.2.1 % (List.getD l (Int.toNat x.2.2.2.2.1) (([] : List UInt8), (false, ((0 : Int), ())))).2.2.1))), ((x.2.2.2.1 * (List.getD l (Int.toNat x.2.2.2.2.1) (([] : List UInt8), (false, ((0 : Int), ())))).2.2.1), ((x.2.2.2.2.1 + (1 : Int)), ())))))) ∧
              ((μ (x.1, ((x.2.1 / (List.getD l (Int.toNat x.2.2.2.2.1) (([] : List UInt8), (false, ((0 : Int), ())))).2.2.1), ((x.2.2.1 + (x.2.2.2.1 * (x.2.1 % (List.getD l (Int.toNat x.2.2.2.2.1) (([] : List UInt8), (false, ((0 : Int), ())))).2.2.1))), ((x.2.2.2.1 * (List.getD l (Int.toNat x.2.2.2.2.1) (([] : List UInt8), (false, ((0 : Int), ())))).2.2.1), ((x.2.2.2.2.1 + (1 : Int)), ())))))) < (μ x)))))))))))))))) ∧
          (((decide (x.2.2.2.2.1 < (((List.length l) : Nat) : Int))) = false) →
            (R x.2.2.1))))))))))))))))) : CallP Tryd.prog tT 32 [.d (.sl (.st (.pair .str (.pair .bool (.pair (.int .i64) .unit))))) l, .d (.int .i64) in_, .d (.int .i64) out] (.int .i64) r :=
  callP_of (cx := cx32) (d := 6) mixed tab_ok inl_ok Tryd.func32 ⟨fun _ _ => by kernel_rfl⟩ rfl rfl fun wf => Eq.mpr (by kernel_rfl) (h (fun x => x = r) (fun _ => Iff.rfl) (wf.1 rfl) (wf.2.1 rfl) (wf.2.2.1 rfl))
set_option maxRecDepth 1000000 in
theorem sf32 (l : (Ty.T (.sl (.st (.pair .str (.pair .bool (.pair (.int .i64) .unit))))))) (in_ : (Ty.T (.int .i64))) (out : (Ty.T (.int .i64))) (r : Ty.T (.int .i64)) (h : ∀ R : Ty.T (.int .i64) → Prop, (∀ x, R x ↔ x = r) → WF (.sl (.st (.pair .str (.pair .bool (.pair (.int .i64) .unit))))) l → WF (.int .i64) in_ → WF (.int .i64) out → 
    (∃ r : Int,
    ((((0 : Int) ≤ in_) →
      CallP Tryd.prog tT (22 : Nat) [(AV.c (Cap.d (Ty.sl (Ty.st (Ty.pair Ty.str (Ty.pair Ty.bool (Ty.pair (Ty.int Go.IntKind.i64) Ty.unit))))) l))] (Ty.int Go.IntKind.i64) r) ∧
    (∃ r1 : Int,
    ((((0 : Int) ≤ in_) → (in_ < r) → ((0 : Int) ≤ out) →
      CallP Tryd.prog tT (24 : Nat) [(AV.c (Cap.d (Ty.sl (Ty.st (Ty.pair Ty.str (Ty.pair Ty.bool (Ty.pair (Ty.int Go.IntKind.i64) Ty.unit))))) l))] (Ty.int Go.IntKind.i64) r1) ∧
    ((((((in_ < (0 : Int)) ∨ (r ≤ in_)) ∨ (out < (0 : Int))) ∨ (r1 ≤ out)) →
      (R (0 : Int))) ∧
    (((0 : Int) ≤ in_) → (in_ < r) → ((0 : Int) ≤ out) → (out < r1) →
      (∃ I : ((Int × (Int × (Int × (Int × (Int × Unit))))) → Prop),
      (∃ μ : ((Int × (Int × (Int × (Int × (Int × Unit))))) → Nat),
      ((I (in_, (out, ((0 : Int), ((1 : Int), ((0 : Int), ())))))) ∧
      (∀ x : (Int × (Int × (Int × (Int × (Int × Unit))))),
      ((WF (Ty.int Go.IntKind.i64) x.1 ∧
        (WF (Ty.int Go.IntKind.i64) x.2.1 ∧
        (WF (Ty.int Go.IntKind.i64) x.2.2.1 ∧
        (WF (Ty.int Go.IntKind.i64) x.2.2.2.1 ∧
        (WF (Ty.int Go.IntKind.i64) x.2.2.2.2.1 ∧
        True))))) →
        ((I x) →
          (((x.2.2.2.2.1 < (((List.length l) : Nat) : Int)) →
            (((0 : Int) ≤ x.2.2.2.2.1) ∧
            ((((List.getD l (Int.toNat x.2.2.2.2.1) (([] : List UInt8), (false, ((0 : Int), ())))).2.1 = true) →
              ((((0 : Int) ≤ x.1) ∧
              ((0 : Int) < (List.getD l (Int.toNat x.2.2.2.2.1) (([] : List UInt8), (false, ((0 : Int), ())))).2.2.1)) ∧
              (inK Go.IntKind.i64 (x.2.2.2.1 * (x.1 % (List.getD l (Int.toNat x.2.2.2.2.1) (([] : List UInt8), (false, ((0 : Int), ())))).2.2.1)) ∧
              (inK Go.IntKind.i64 (x.2.2.1 + (x.2.2.2.1 * (x.1 % (List.getD l (Int.toNat x.2.2.2.2.1) (([] : List UInt8), (false, ((0 : Int), ())))).2.2.1))) ∧
              (inK Go.IntKind.i64 (x.2.2.2.1 * (List.getD l (Int.toNat x.2.2.2.2.1) (([] : List UInt8), (false, ((0 : Int), ())))).2.2.1) ∧
              (inK Go.IntKind.i64 (x.2.2.2.2.1 + (1 : Int)) ∧
              ((I ((x.1 / (List.getD l (Int.toNat x.2.2.2.2.1) (([] : List UInt8), (false, ((0 : Int), ())))).2.2.1), (x.2.1, ((x.2.2.1 + (x.2.2.2.1 * (x.1 % (List.getD l (Int.toNat x.2.2.2.2.1) (([] : List UInt8), (false, ((0 : Int), ())))).2.2.1))), ((x.2.2.2.1 * (List.getD l (Int.toNat x.2.2.2.2.1) (([] : List UInt8), (false, ((0 : Int), ())))).2.2.1), ((x.2.2.2.2.1 + (1 : Int)), ())))))) ∧
              ((μ ((x.1 / (List.getD l (Int.toNat x.2.2.2.2.1) (([] : List UInt8), (false, ((0 : Int), ())))).2.2.1), (x.2.1, ((x.2.2.1 + (x.2.2.2.1 * (x.1 % (List.getD l (Int.toNat x.2.2.2.2.1) (([] : List UInt8), (false, ((0 : Int), ())))).2.2.1))), ((x.2.2.2.1 * (List.getD l (Int.toNat x.2.2.2.2.1) (([] : List UInt8), (false, ((0 : Int), ())))).2.2.1), ((x.2.2.2.2.1 + (1 : Int)), ())))))) < (μ x))))))))) ∧
            (((List.getD l (Int.toNat x.2.2.2.2.1) (([] : List UInt8), (false, ((0 : Int), ())))).2.1 = false) →
              ((((0 : Int) ≤ x.2.1) ∧
              ((0 : Int) < (List.getD l (Int.toNat x.2.2.2.2.1) (([] : List UInt8), (false, ((0 : Int), ())))).2.2.1)) ∧
              (inK Go.IntKind.i64 (x.2.2.2.1 * (x.2.1 % (List.getD l (Int.toNat x.2.2.2.2.1) (([] : List UInt8), (false, ((0 : Int), ())))).2.2.1)) ∧
              (inK Go.IntKind.i64 (x.2.2.1 + (x.2.2.2.1 * (x.2.1 % (List.getD l (Int.toNat x.2.2.2.2.1) (([] : List UInt8), (false, ((0 : Int), ())))).2.2.1))) ∧
              (inK Go.IntKind.i64 (x.2.2.2.1 * (List.getD l (Int.toNat x.2.2.2.2.1) (([] : List UInt8), (false, ((0 : Int), ())))).2.2.1) ∧
              (inK Go.IntKind.i64 (x.2.2.2.2.1 + (1 : Int)) ∧
              ((I (x.1, ((x.2.1 / (List.getD l (Int.toNat x.2.2.2.2.1) (([] : List UInt8), (false, ((0 : Int), ())))).2.2.1), ((x.2.2.1 + (x.2.2.2.1 * (x.2.1 % (List.getD l (Int.toNat x.2.2.2.2.1) (([] : List UInt8), (false, ((0 : Int), ())))).2.2.1))), ((x.2.2.2.1 * (List.getD l (Int.toNat x.2.2.2.2.1) (([] : List UInt8), (false, ((0 : Int), ())))).2.2.1), ((x.2.2.2.2.1 + (1 : Int)), ())))))) ∧
              ((μ (x.1, ((x.2.1 / (List.getD l (Int.toNat x.2.2.2.2.1) (([] : List UInt8), (false, ((0 : Int), ())))).2.2.1), ((x.2.2.1 + (x.2.2.2.1 * (x.2.1 % (List.getD l (Int.toNat x.2.2.2.2.1) (([] : List UInt8), (false, ((0 : Int), ())))).2.2.1))), ((x.2.2.2.1 * (List.getD l (Int.toNat x.2.2.2.2.1) (([] : List UInt8), (false, ((0 : Int), ())))).2.2.1), ((x.2.2.2.2.1 + (1 : Int)), ())))))) < (μ x)))))))))))) ∧
          (((((List.length l) : Nat) : Int) ≤ x.2.2.2.2.1) →
            (R x.2.2.1)))))))))))))))) : CallP Tryd.prog tT 32 [.d (.sl (.st (.pair .str (.pair .bool (.pair (.int .i64) .unit))))) l, .d (.int .i64) in_, .d (.int .i64) out] (.int .i64) r :=
  of32 l in_ out r fun R hR w0_ w1_ w2_ => have p := h R hR w0_ w1_ w2_
    (Exists.elim p fun r q1 => Exists.intro r ⟨(fun h7 => ⟨h7, (q1.1 (Int.not_lt.1 (of_decide_eq_false (bnot_t h7))))⟩), ⟨(fun h12 => ⟨h12, h12⟩), ⟨(fun h16 => (bnot_t2 h16)), ⟨(fun h19 => h19), ⟨(fun h21 => (bnot_t2 h21)), (Exists.elim q1.2 fun r1 q22 => Exists.intro r1 ⟨(fun h28 => ⟨h28, (q22.1 (Int.not_lt.1 (of_decide_eq_false (selB_of (selB_of (bnot_t h28)).1).1)) (Int.not_le.1 (of_decide_eq_false (selB_of (selB_of (bnot_t h28)).1).2)) (Int.not_lt.1 (of_decide_eq_false (selB_of (bnot_t h28)).2)))⟩), ⟨(fun h32 => ⟨h32, h32⟩), ⟨(fun h35 => (bnot_t2 h35)), ⟨(fun h41 => (q22.2.1 (Or.imp (fun h => (Or.imp (fun h => (Or.imp (fun h => (of_decide_eq_true h)) (fun h => (of_decide_eq_true h)) (selB_ot h))) (fun h => (of_decide_eq_true h)) (selB_ot h))) (fun h => (of_decide_eq_true h)) (selB_ot h41)))), (fun h43 => (Exists.elim (q22.2.2 (Int.not_lt.1 (of_decide_eq_false (selB_of (selB_of (selB_of h43).1).1).1)) (Int.not_le.1 (of_decide_eq_false (selB_of (selB_of (selB_of h43).1).1).2)) (Int.not_lt.1 (of_decide_eq_false (selB_of (selB_of h43).1).2)) (Int.not_le.1 (of_decide_eq_false (selB_of h43).2))) fun I q44 => Exists.intro I (Exists.elim q44 fun μ q45 => Exists.intro μ ⟨q45.1, (fun x => (fun h46 => (fun h47 => ⟨(fun h61 => ⟨⟨((((q45.2 x) h46) h47).1 (of_decide_eq_true h61)).1, (of_decide_eq_true h61)⟩, ⟨(fun h67 => ⟨⟨((((q45.2 x) h46) h47).1 (of_decide_eq_true h61)).1, (of_decide_eq_true h61)⟩, ⟨⟨(((((q45.2 x) h46) h47).1 (of_decide_eq_true h61)).2.1 h67).1.1, (((((q45.2 x) h46) h47).1 (of_decide_eq_true h61)).2.1 h67).1.2⟩, ⟨(((((q45.2 x) h46) h47).1 (of_decide_eq_true h61)).2.1 h67).2.1, ⟨(((((q45.2 x) h46) h47).1 (of_decide_eq_true h61)).2.1 h67).2.2.1, ⟨⟨((((q45.2 x) h46) h47).1 (of_decide_eq_true h61)).1, (of_decide_eq_true h61)⟩, ⟨⟨(((((q45.2 x) h46) h47).1 (of_decide_eq_true h61)).2.1 h67).1.1, (((((q45.2 x) h46) h47).1 (of_decide_eq_true h61)).2.1 h67).1.2⟩, ⟨⟨((((q45.2 x) h46) h47).1 (of_decide_eq_true h61)).1, (of_decide_eq_true h61)⟩, ⟨(((((q45.2 x) h46) h47).1 (of_decide_eq_true h61)).2.1 h67).2.2.2.1, ⟨(((((q45.2 x) h46) h47).1 (of_decide_eq_true h61)).2.1 h67).2.2.2.2.1, ⟨(((((q45.2 x) h46) h47).1 (of_decide_eq_true h61)).2.1 h67).2.2.2.2.2.1, (((((q45.2 x) h46) h47).1 (of_decide_eq_true h61)).2.1 h67).2.2.2.2.2.2⟩⟩⟩⟩⟩⟩⟩⟩⟩⟩), (fun h69 => ⟨⟨((((q45.2 x) h46) h47).1 (of_decide_eq_true h61)).1, (of_decide_eq_true h61)⟩, ⟨⟨(((((q45.2 x) h46) h47).1 (of_decide_eq_true h61)).2.2 h69).1.1, (((((q45.2 x) h46) h47).1 (of_decide_eq_true h61)).2.2 h69).1.2⟩, ⟨(((((q45.2 x) h46) h47).1 (of_decide_eq_true h61)).2.2 h69).2.1, ⟨(((((q45.2 x) h46) h47).1 (of_decide_eq_true h61)).2.2 h69).2.2.1, ⟨⟨((((q45.2 x) h46) h47).1 (of_decide_eq_true h61)).1, (of_decide_eq_true h61)⟩, ⟨⟨(((((q45.2 x) h46) h47).1 (of_decide_eq_true h61)).2.2 h69).1.1, (((((q45.2 x) h46) h47).1 (of_decide_eq_true h61)).2.2 h69).1.2⟩, ⟨⟨((((q45.2 x) h46) h47).1 (of_decide_eq_true h61)).1, (of_decide_eq_true h61)⟩, ⟨(((((q45.2 x) h46) h47).1 (of_decide_eq_true h61)).2.2 h69).2.2.2.1, ⟨(((((q45.2 x) h46) h47).1 (of_decide_eq_true h61)).2.2 h69).2.2.2.2.1, ⟨(((((q45.2 x) h46) h47).1 (of_decide_eq_true h61)).2.2 h69).2.2.2.2.2.1, (((((q45.2 x) h46) h47).1 (of_decide_eq_true h61)).2.2 h69).2.2.2.2.2.2⟩⟩⟩⟩⟩⟩⟩⟩⟩⟩)⟩⟩), (fun h71 => ((((q45.2 x) h46) h47).2 (Int.not_lt.1 (of_decide_eq_false h71))))⟩)))⟩)))⟩⟩⟩⟩)⟩⟩⟩⟩⟩)
/- foresight/foresightlaw01.values -/
def cx33 : Cx := { T := tT, own := ownT, frz := [], loops := [(330004, 66, ⟨[.own 5 0 3 (.int .i64), .val 6 (.int .i64)], 1⟩)], cuts := [], inl := inlT }
set_option maxRecDepth 1000000 in
theorem of33 (l : (Ty.T (.sl (.st (.pair .str (.pair .bool (.pair (.int .i64) .unit))))))) (letter : (Ty.T (.int .i64))) (r : Ty.T (.sl (.int .i64))) (h : ∀ R : Ty.T (.sl (.int .i64)) → Prop, (∀ x, R x ↔ x = r) → WF (.sl (.st (.pair .str (.pair .bool (.pair (.int .i64) .unit))))) l → WF (.int .i64) letter → 
    ∃ I : (((List Int) × (Int × Unit)) → Prop),
    ∃ μ : (((List Int) × (Int × Unit)) → Nat),
    ((I (([] : List Int), ((0 : Int), ()))) ∧
    ∀ x : ((List Int) × (Int × Unit)),
    ((WF (Ty.sl (Ty.int Go.IntKind.i64)) x.1 ∧
      (WF (Ty.int Go.IntKind.i64) x.2.1 ∧
      True)) →
      ((I x) →
        ((((decide (x.2.1 < (((List.length l) : Nat) : Int))) = true) →
          ∃ r : Int,
          (CallP Tryd.prog tT (25 : Nat) [(AV.c (Cap.d (Ty.sl (Ty.st (Ty.pair Ty.str (Ty.pair Ty.bool (Ty.pair (Ty.int Go.IntKind.i64) Ty.unit))))) l)), (AV.c (Cap.d (Ty.int Go.IntKind.i64) letter)), (AV.c (Cap.d (Ty.int Go.IntKind.i64) x.2.1))] (Ty.int Go.IntKind.i64) r ∧
          (((((((List.length x.1) + (List.length [r])) : Nat) : Int) * (((8 : Nat) : Nat) : Int)) ≤ (140737488355328 : Int)) ∧
          (inK Go.IntKind.i64 (x.2.1 + (1 : Int)) ∧
          ((I ((x.1 ++ [r]), ((x.2.1 + (1 : Int)), ()))) ∧
          ((μ ((x.1 ++ [r]), ((x.2.1 + (1 : Int)), ()))) < (μ x))))))) ∧
        (((decide (x.2.1 < (((List.length l) : Nat) : Int))) = false) →
          (R x.1))))))) : CallP Tryd.prog tT 33 [.d (.sl (.st (.pair .str (.pair .bool (.pair (.int .i64) .unit))))) l, .d (.int .i64) letter] (.sl (.int .i64)) r :=
  callP_of (cx := cx33) (d := 6) mixed tab_ok inl_ok Tryd.func33 ⟨fun _ _ => by kernel_rfl⟩ rfl rfl fun wf => Eq.mpr (by kernel_rfl) (h (fun x => x = r) (fun _ => Iff.rfl) (wf.1 rfl) (wf.2.1 rfl))
set_option maxRecDepth 1000000 in
theorem sf33 (l : (Ty.T (.sl (.st (.pair .str (.pair .bool (.pair (.int .i64) .unit))))))) (letter : (Ty.T (.int .i64))) (r : Ty.T (.sl (.int .i64))) (h : ∀ R : Ty.T (.sl (.int .i64)) → Prop, (∀ x, R x ↔ x = r) → WF (.sl (.st (.pair .str (.pair .bool (.pair (.int .i64) .unit))))) l → WF (.int .i64) letter → 
    (∃ I : (((List Int) × (Int × Unit)) → Prop),
    (∃ μ : (((List Int) × (Int × Unit)) → Nat),
    ((I (([] : List Int), ((0 : Int), ()))) ∧
    (∀ x : ((List Int) × (Int × Unit)),
    ((WF (Ty.sl (Ty.int Go.IntKind.i64)) x.1 ∧
      (WF (Ty.int Go.IntKind.i64) x.2.1 ∧
      True)) →
      ((I x) →
        (((x.2.1 < (((List.length l) : Nat) : Int)) →
          (∃ r : Int,
          (CallP Tryd.prog tT (25 : Nat) [(AV.c (Cap.d (Ty.sl (Ty.st (Ty.pair Ty.str (Ty.pair Ty.bool (Ty.pair (Ty.int Go.IntKind.i64) Ty.unit))))) l)), (AV.c (Cap.d (Ty.int Go.IntKind.i64) letter)), (AV.c (Cap.d (Ty.int Go.IntKind.i64) x.2.1))] (Ty.int Go.IntKind.i64) r ∧
          (((((((List.length x.1) + (List.length [r])) : Nat) : Int) * (((8 : Nat) : Nat) : Int)) ≤ (140737488355328 : Int)) ∧
          (inK Go.IntKind.i64 (x.2.1 + (1 : Int)) ∧
          ((I ((x.1 ++ [r]), ((x.2.1 + (1 : Int)), ()))) ∧
          ((μ ((x.1 ++ [r]), ((x.2.1 + (1 : Int)), ()))) < (μ x)))))))) ∧
        (((((List.length l) : Nat) : Int) ≤ x.2.1) →
          (R x.1)))))))))) : CallP Tryd.prog tT 33 [.d (.sl (.st (.pair .str (.pair .bool (.pair (.int .i64) .unit))))) l, .d (.int .i64) letter] (.sl (.int .i64)) r :=
  of33 l letter r fun R hR w0_ w1_ => have p := h R hR w0_ w1_
    (Exists.elim p fun I q1 => Exists.intro I (Exists.elim q1 fun μ q2 => Exists.intro μ ⟨q2.1, (fun x => (fun h3 => (fun h4 => ⟨(fun h11 => (Exists.elim ((((q2.2 x) h3) h4).1 (of_decide_eq_true h11)) fun r q12 => Exists.intro r ⟨q12.1, ⟨q12.2.1, ⟨q12.2.2.1, ⟨q12.2.2.2.1, q12.2.2.2.2⟩⟩⟩⟩)), (fun h14 => ((((q2.2 x) h3) h4).2 (Int.not_lt.1 (of_decide_eq_false h14))))⟩)))⟩))
/- foresight/foresightref01.Ints -/
def cx34 : Cx := { T := tT, own := ownT, frz := [], loops := [(340005, 78, ⟨[.val 5 (.int .i64)], 0⟩)], cuts := [], inl := inlT }
set_option maxRecDepth 1000000 in
theorem of34 (a : (Ty.T (.sl (.int .i64)))) (b : (Ty.T (.sl (.int .i64)))) (r : Ty.T .bool) (h : ∀ R : Ty.T .bool → Prop, (∀ x, R x ↔ x = r) → WF (.sl (.int .i64)) a → WF (.sl (.int .i64)) b → 
    ((((!(decide ((((List.length a) : Nat) : Int) = (((List.length b) : Nat) : Int)))) = true) →
      (R false)) ∧
    (((!(decide ((((List.length a) : Nat) : Int) = (((List.length b) : Nat) : Int)))) = false) →
      ∃ I : ((Int × Unit) → Prop),
      ∃ μ : ((Int × Unit) → Nat),
      ((I ((0 : Int), ())) ∧
      ∀ x : (Int × Unit),
      ((WF (Ty.int Go.IntKind.i64) x.1 ∧
        True) →
        ((I x) →
          ((((decide (x.1 < (((List.length a) : Nat) : Int))) = true) →
            ((((0 : Int) ≤ x.1) ∧
            (x.1 < (((List.length a) : Nat) : Int))) ∧
            ((((0 : Int) ≤ x.1) ∧
            (x.1 < (((List.length b) : Nat) : Int))) ∧
            ((((!(decide ((List.getD a (Int.toNat x.1) (0 : Int)) = (List.getD b (Int.toNat x.1) (0 : Int))))) = true) →
              (R false)) ∧
            (((!(decide ((List.getD a (Int.toNat x.1) (0 : Int)) = (List.getD b (Int.toNat x.1) (0 : Int))))) = false) →
              (inK Go.IntKind.i64 (x.1 + (1 : Int)) ∧
              ((I ((x.1 + (1 : Int)), ())) ∧
              ((μ ((x.1 + (1 : Int)), ())) < (μ x))))))))) ∧
          (((decide (x.1 < (((List.length a) : Nat) : Int))) = false) →
            (R true))))))))) : CallP Tryd.prog tT 34 [.d (.sl (.int .i64)) a, .d (.sl (.int .i64)) b] .bool r :=
  callP_of (cx := cx34) (d := 6) mixed tab_ok inl_ok Tryd.func34 ⟨fun _ _ => by kernel_rfl⟩ rfl rfl fun wf => Eq.mpr (by kernel_rfl) (h (fun x => x = r) (fun _ => Iff.rfl) (wf.1 rfl) (wf.2.1 rfl))
set_option maxRecDepth 1000000 in
theorem sf34 (a : (Ty.T (.sl (.int .i64)))) (b : (Ty.T (.sl (.int .i64)))) (r : Ty.T .bool) (h : ∀ R : Ty.T .bool → Prop, (∀ x, R x ↔ x = r) → WF (.sl (.int .i64)) a → WF (.sl (.int .i64)) b → 
    (((¬ ((((List.length a) : Nat) : Int) = (((List.length b) : Nat) : Int))) →
      (R false)) ∧
    (((((List.length a) : Nat) : Int) = (((List.length b) : Nat) : Int)) →
      (∃ I : ((Int × Unit) → Prop),
      (∃ μ : ((Int × Unit) → Nat),
      ((I ((0 : Int), ())) ∧
      (∀ x : (Int × Unit),
      ((WF (Ty.int Go.IntKind.i64) x.1 ∧
        True) →
        ((I x) →
          (((x.1 < (((List.length a) : Nat) : Int)) →
            (((0 : Int) ≤ x.1) ∧
            ((x.1 < (((List.length b) : Nat) : Int)) ∧
            (((¬ ((List.getD a (Int.toNat x.1) (0 : Int)) = (List.getD b (Int.toNat x.1) (0 : Int)))) →
              (R false)) ∧
            (((List.getD a (Int.toNat x.1) (0 : Int)) = (List.getD b (Int.toNat x.1) (0 : Int))) →
              (inK Go.IntKind.i64 (x.1 + (1 : Int)) ∧
              ((I ((x.1 + (1 : Int)), ())) ∧
              ((μ ((x.1 + (1 : Int)), ())) < (μ x))))))))) ∧
          (((((List.length a) : Nat) : Int) ≤ x.1) →
            (R true)))))))))))) : CallP Tryd.prog tT 34 [.d (.sl (.int .i64)) a, .d (.sl (.int .i64)) b] .bool r :=
  of34 a b r fun R hR w0_ w1_ => have p := h R hR w0_ w1_
    ⟨(fun h6 => (p.1 (of_decide_eq_false (bnot_t h6)))), (fun h8 => (Exists.elim (p.2 (of_decide_eq_true (bnot_f h8))) fun I q9 => Exists.intro I (Exists.elim q9 fun μ q10 => Exists.intro μ ⟨q10.1, (fun x => (fun h11 => (fun h12 => ⟨(fun h26 => ⟨⟨((((q10.2 x) h11) h12).1 (of_decide_eq_true h26)).1, (of_decide_eq_true h26)⟩, ⟨⟨((((q10.2 x) h11) h12).1 (of_decide_eq_true h26)).1, ((((q10.2 x) h11) h12).1 (of_decide_eq_true h26)).2.1⟩, ⟨(fun h32 => (((((q10.2 x) h11) h12).1 (of_decide_eq_true h26)).2.2.1 (of_decide_eq_false (bnot_t h32)))), (fun h34 => ⟨(((((q10.2 x) h11) h12).1 (of_decide_eq_true h26)).2.2.2 (of_decide_eq_true (bnot_f h34))).1, ⟨(((((q10.2 x) h11) h12).1 (of_decide_eq_true h26)).2.2.2 (of_decide_eq_true (bnot_f h34))).2.1, (((((q10.2 x) h11) h12).1 (of_decide_eq_true h26)).2.2.2 (of_decide_eq_true (bnot_f h34))).2.2⟩⟩)⟩⟩⟩), (fun h36 => ((((q10.2 x) h11) h12).2 (Int.not_lt.1 (of_decide_eq_false h36))))⟩)))⟩)))⟩
/- foresight/foresightlaw01.Example -/
def cx35 : Cx := { T := tT, own := ownT, frz := [], loops := [], cuts := [], inl := inlT }
set_option maxRecDepth 1000000 in
theorem of35  (r : Ty.T (.sl (.st (.pair .str (.pair .bool (.pair (.int .i64) .unit)))))) (h : ∀ R : Ty.T (.sl (.st (.pair .str (.pair .bool (.pair (.int .i64) .unit))))) → Prop, (∀ x, R x ↔ x = r) → 
    (R [([(114 : UInt8)], (true, ((2 : Int), ()))), ([(109 : UInt8)], (false, ((3 : Int), ()))), ([(115 : UInt8)], (true, ((2 : Int), ())))])) : CallP Tryd.prog tT 35 [] (.sl (.st (.pair .str (.pair .bool (.pair (.int .i64) .unit))))) r :=
  callP_of (cx := cx35) (d := 6) mixed tab_ok inl_ok Tryd.func35 ⟨fun _ _ => by kernel_rfl⟩ rfl rfl fun wf => Eq.mpr (by kernel_rfl) (h (fun x => x = r) (fun _ => Iff.rfl) )
/- slices.Contains[[]string,string] -/
def cx36 : Cx := { T := tT, own := ownT, frz := [], loops := [], cuts := [], inl := inlT }
set_option maxRecDepth 1000000 in
theorem of36 (s : (Ty.T (.sl .str))) (v : (Ty.T .str)) (r : Ty.T .bool) (h : ∀ R : Ty.T .bool → Prop, (∀ x, R x ↔ x = r) → WF (.sl .str) s → WF .str v → 
    ∃ r : Int,
    (CallP Tryd.prog tT (51 : Nat) [(AV.c (Cap.d (Ty.sl Ty.str) s)), (AV.c (Cap.d Ty.str v))] (Ty.int Go.IntKind.i64) r ∧
    (R (decide ((0 : Int) ≤ r))))) : CallP Tryd.prog tT 36 [.d (.sl .str) s, .d .str v] .bool r :=
  callP_of (cx := cx36) (d := 6) mixed tab_ok inl_ok Tryd.func36 ⟨fun _ _ => by kernel_rfl⟩ rfl rfl fun wf => Eq.mpr (by kernel_rfl) (h (fun x => x = r) (fun _ => Iff.rfl) (wf.1 rfl) (wf.2.1 rfl))
/- foresight/foresightref01.In -/
def cx38 : Cx := { T := tT, own := ownT, frz := [], loops := [(380003, 36, ⟨[.val 5 (.int .i64)], 0⟩)], cuts := [], inl := inlT }
set_option maxRecDepth 1000000 in
theorem of38 (l : (Ty.T (.sl .str))) (s : (Ty.T .str)) (r : Ty.T .bool) (h : ∀ R : Ty.T .bool → Prop, (∀ x, R x ↔ x = r) → WF (.sl .str) l → WF .str s → 
    ∃ I : ((Int × Unit) → Prop),
    ∃ μ : ((Int × Unit) → Nat),
    ((I ((0 : Int), ())) ∧
    ∀ x : (Int × Unit),
    ((WF (Ty.int Go.IntKind.i64) x.1 ∧
      True) →
      ((I x) →
        ((((decide (x.1 < (((List.length l) : Nat) : Int))) = true) →
          ((((0 : Int) ≤ x.1) ∧
          (x.1 < (((List.length l) : Nat) : Int))) ∧
          ((((decide ((List.getD l (Int.toNat x.1) ([] : List UInt8)) = s)) = true) →
            (R true)) ∧
          (((decide ((List.getD l (Int.toNat x.1) ([] : List UInt8)) = s)) = false) →
            (inK Go.IntKind.i64 (x.1 + (1 : Int)) ∧
            ((I ((x.1 + (1 : Int)), ())) ∧
            ((μ ((x.1 + (1 : Int)), ())) < (μ x)))))))) ∧
        (((decide (x.1 < (((List.length l) : Nat) : Int))) = false) →
          (R false))))))) : CallP Tryd.prog tT 38 [.d (.sl .str) l, .d .str s] .bool r :=
  callP_of (cx := cx38) (d := 6) mixed tab_ok inl_ok Tryd.func38 ⟨fun _ _ => by kernel_rfl⟩ rfl rfl fun wf => Eq.mpr (by kernel_rfl) (h (fun x => x = r) (fun _ => Iff.rfl) (wf.1 rfl) (wf.2.1 rfl))
set_option maxRecDepth 1000000 in
theorem sf38 (l : (Ty.T (.sl .str))) (s : (Ty.T .str)) (r : Ty.T .bool) (h : ∀ R : Ty.T .bool → Prop, (∀ x, R x ↔ x = r) → WF (.sl .str) l → WF .str s → 
    (∃ I : ((Int × Unit) → Prop),
    (∃ μ : ((Int × Unit) → Nat),
    ((I ((0 : Int), ())) ∧
    (∀ x : (Int × Unit),
    ((WF (Ty.int Go.IntKind.i64) x.1 ∧
      True) →
      ((I x) →
        (((x.1 < (((List.length l) : Nat) : Int)) →
          (((0 : Int) ≤ x.1) ∧
          ((((List.getD l (Int.toNat x.1) ([] : List UInt8)) = s) →
            (R true)) ∧
          ((¬ ((List.getD l (Int.toNat x.1) ([] : List UInt8)) = s)) →
            (inK Go.IntKind.i64 (x.1 + (1 : Int)) ∧
            ((I ((x.1 + (1 : Int)), ())) ∧
            ((μ ((x.1 + (1 : Int)), ())) < (μ x)))))))) ∧
        (((((List.length l) : Nat) : Int) ≤ x.1) →
          (R false)))))))))) : CallP Tryd.prog tT 38 [.d (.sl .str) l, .d .str s] .bool r :=
  of38 l s r fun R hR w0_ w1_ => have p := h R hR w0_ w1_
    (Exists.elim p fun I q1 => Exists.intro I (Exists.elim q1 fun μ q2 => Exists.intro μ ⟨q2.1, (fun x => (fun h3 => (fun h4 => ⟨(fun h18 => ⟨⟨((((q2.2 x) h3) h4).1 (of_decide_eq_true h18)).1, (of_decide_eq_true h18)⟩, ⟨(fun h24 => (((((q2.2 x) h3) h4).1 (of_decide_eq_true h18)).2.1 (of_decide_eq_true h24))), (fun h26 => ⟨(((((q2.2 x) h3) h4).1 (of_decide_eq_true h18)).2.2 (of_decide_eq_false h26)).1, ⟨(((((q2.2 x) h3) h4).1 (of_decide_eq_true h18)).2.2 (of_decide_eq_false h26)).2.1, (((((q2.2 x) h3) h4).1 (of_decide_eq_true h18)).2.2 (of_decide_eq_false h26)).2.2⟩⟩)⟩⟩), (fun h28 => ((((q2.2 x) h3) h4).2 (Int.not_lt.1 (of_decide_eq_false h28))))⟩)))⟩))
/- foresight/foresightref01.Keywords -/
def cx39 : Cx := { T := tT, own := ownT, frz := [], loops := [], cuts := [], inl := inlT }
set_option maxRecDepth 1000000 in
theorem of39  (r : Ty.T (.sl .str)) (h : ∀ R : Ty.T (.sl .str) → Prop, (∀ x, R x ↔ x = r) → 
    (R [[(105 : UInt8), (110 : UInt8), (112 : UInt8), (117 : UInt8), (116 : UInt8)], [(111 : UInt8), (117 : UInt8), (116 : UInt8), (112 : UInt8), (117 : UInt8), (116 : UInt8)], [(112 : UInt8), (97 : UInt8), (114 : UInt8), (116 : UInt8)], [(97 : UInt8), (115 : UInt8), (115 : UInt8), (117 : UInt8), (109 : UInt8), (101 : UInt8)], [(103 : UInt8), (117 : UInt8), (97 : UInt8), (114 : UInt8), (97 : UInt8), (110 : UInt8), (116 : UInt8), (101 : UInt8), (101 : UInt8)], [(116 : UInt8), (114 : UInt8), (117 : UInt8), (101 : UInt8)], [(102 : UInt8), (97 : UInt8), (108 : UInt8), (115 : UInt8), (101 : UInt8)], [(97 : UInt8), (100 : UInt8), (100 : UInt8)], [(100 : UInt8), (114 : UInt8), (111 : UInt8), (112 : UInt8)], [(114 : UInt8), (101 : UInt8), (112 : UInt8), (108 : UInt8), (97 : UInt8), (99 : UInt8), (101 : UInt8)]])) : CallP Tryd.prog tT 39 [] (.sl .str) r :=
  callP_of (cx := cx39) (d := 6) mixed tab_ok inl_ok Tryd.func39 ⟨fun _ _ => by kernel_rfl⟩ rfl rfl fun wf => Eq.mpr (by kernel_rfl) (h (fun x => x = r) (fun _ => Iff.rfl) )
/- foresight/signal.Find 1 -/
def cx41 : Cx := { T := tT, own := ownT, frz := [], loops := [], cuts := [], inl := inlT }
set_option maxRecDepth 1000000 in
theorem of41 (x_ : (Ty.T (.st (.pair .str (.pair .bool (.pair (.int .i64) .unit)))))) (u : (Ty.T .str)) (r : Ty.T .bool) (h : ∀ R : Ty.T .bool → Prop, (∀ x, R x ↔ x = r) → WF (.st (.pair .str (.pair .bool (.pair (.int .i64) .unit)))) x_ → 
    (R (decide (x_.1 = u)))) : CallP Tryd.prog tT 41 [.d (.st (.pair .str (.pair .bool (.pair (.int .i64) .unit)))) x_, .kp .str u] .bool r :=
  callP_of (cx := cx41) (d := 6) mixed tab_ok inl_ok Tryd.func41 ⟨fun _ _ => by kernel_rfl⟩ rfl rfl fun wf => Eq.mpr (by kernel_rfl) (h (fun x => x = r) (fun _ => Iff.rfl) (wf.1 rfl))
/- slices.IndexFunc[[]foresight/api.Signal,foresight/api.Signal] -/
def cx40 : Cx := { T := tT, own := ownT, frz := [], loops := [(400003, 38, ⟨[.val 8 (.int .i64)], 0⟩)], cuts := [], inl := inlT }
set_option maxRecDepth 1000000 in
theorem of40 (s : (Ty.T (.sl (.st (.pair .str (.pair .bool (.pair (.int .i64) .unit))))))) (u : (Ty.T .str)) (r : Ty.T (.int .i64)) (h : ∀ R : Ty.T (.int .i64) → Prop, (∀ x, R x ↔ x = r) → WF (.sl (.st (.pair .str (.pair .bool (.pair (.int .i64) .unit))))) s → 
    ∃ I : ((Int × Unit) → Prop),
    ∃ μ : ((Int × Unit) → Nat),
    ((I ((0 : Int), ())) ∧
    ∀ x : (Int × Unit),
    ((WF (Ty.int Go.IntKind.i64) x.1 ∧
      True) →
      ((I x) →
        ((((decide (x.1 < (((List.length s) : Nat) : Int))) = true) →
          ((((0 : Int) ≤ x.1) ∧
          (x.1 < (((List.length s) : Nat) : Int))) ∧
          ∃ r : Bool,
          (CallP Tryd.prog tT (41 : Nat) [(AV.c (Cap.d (Ty.st (Ty.pair Ty.str (Ty.pair Ty.bool (Ty.pair (Ty.int Go.IntKind.i64) Ty.unit)))) (List.getD s (Int.toNat x.1) (([] : List UInt8), (false, ((0 : Int), ())))))), (AV.c (Cap.kp Ty.str u))] Ty.bool r ∧
          (((r = true) →
            (R x.1)) ∧
          ((r = false) →
            (inK Go.IntKind.i64 (x.1 + (1 : Int)) ∧
            ((I ((x.1 + (1 : Int)), ())) ∧
            ((μ ((x.1 + (1 : Int)), ())) < (μ x))))))))) ∧
        (((decide (x.1 < (((List.length s) : Nat) : Int))) = false) →
          (R (-(1 : Int))))))))) : CallP Tryd.prog tT 40 [.d (.sl (.st (.pair .str (.pair .bool (.pair (.int .i64) .unit))))) s, .fn 41 [.kp .str u]] (.int .i64) r :=
  callP_of (cx := cx40) (d := 6) mixed tab_ok inl_ok Tryd.func40 ⟨fun _ _ => by kernel_rfl⟩ rfl rfl fun wf => Eq.mpr (by kernel_rfl) (h (fun x => x = r) (fun _ => Iff.rfl) (wf.1 rfl))
set_option maxRecDepth 1000000 in
theorem sf40 (s : (Ty.T (.sl (.st (.pair .str (.pair .bool (.pair (.int .i64) .unit))))))) (u : (Ty.T .str)) (r : Ty.T (.int .i64)) (h : ∀ R : Ty.T (.int .i64) → Prop, (∀ x, R x ↔ x = r) → WF (.sl (.st (.pair .str (.pair .bool (.pair (.int .i64) .unit))))) s → 
    (∃ I : ((Int × Unit) → Prop),
    (∃ μ : ((Int × Unit) → Nat),
    ((I ((0 : Int), ())) ∧
    (∀ x : (Int × Unit),
    ((WF (Ty.int Go.IntKind.i64) x.1 ∧
      True) →
      ((I x) →
        (((x.1 < (((List.length s) : Nat) : Int)) →
          (((0 : Int) ≤ x.1) ∧
          (∃ r : Bool,
          (CallP Tryd.prog tT (41 : Nat) [(AV.c (Cap.d (Ty.st (Ty.pair Ty.str (Ty.pair Ty.bool (Ty.pair (Ty.int Go.IntKind.i64) Ty.unit)))) (List.getD s (Int.toNat x.1) (([] : List UInt8), (false, ((0 : Int), ())))))), (AV.c (Cap.kp Ty.str u))] Ty.bool r ∧
          (((r = true) →
            (R x.1)) ∧
          ((r = false) →
            (inK Go.IntKind.i64 (x.1 + (1 : Int)) ∧
            ((I ((x.1 + (1 : Int)), ())) ∧
            ((μ ((x.1 + (1 : Int)), ())) < (μ x)))))))))) ∧
        (((((List.length s) : Nat) : Int) ≤ x.1) →
          (R (-(1 : Int)))))))))))) : CallP Tryd.prog tT 40 [.d (.sl (.st (.pair .str (.pair .bool (.pair (.int .i64) .unit))))) s, .fn 41 [.kp .str u]] (.int .i64) r :=
  of40 s u r fun R hR w0_ => have p := h R hR w0_
    (Exists.elim p fun I q1 => Exists.intro I (Exists.elim q1 fun μ q2 => Exists.intro μ ⟨q2.1, (fun x => (fun h3 => (fun h4 => ⟨(fun h19 => ⟨⟨((((q2.2 x) h3) h4).1 (of_decide_eq_true h19)).1, (of_decide_eq_true h19)⟩, (Exists.elim ((((q2.2 x) h3) h4).1 (of_decide_eq_true h19)).2 fun r q20 => Exists.intro r ⟨q20.1, ⟨(fun h26 => (q20.2.1 h26)), (fun h28 => ⟨(q20.2.2 h28).1, ⟨(q20.2.2 h28).2.1, (q20.2.2 h28).2.2⟩⟩)⟩⟩)⟩), (fun h30 => ((((q2.2 x) h3) h4).2 (Int.not_lt.1 (of_decide_eq_false h30))))⟩)))⟩))
/- foresight/signal.count -/
def cxcntT : Cx := { T := tT, own := ownT, frz := [], loops := [(420006, 104, ⟨[.val 5 (.int .i64), .val 13 (.int .i64)], 0⟩)], cuts := [], inl := inlT }
set_option maxRecDepth 1000000 in
theorem ofcntT (l : (Ty.T (.sl (.st (.pair .str (.pair .bool (.pair (.int .i64) .unit))))))) (r : Ty.T (.int .i64)) (h : ∀ R : Ty.T (.int .i64) → Prop, (∀ x, R x ↔ x = r) → WF (.sl (.st (.pair .str (.pair .bool (.pair (.int .i64) .unit))))) l → 
    ∃ r : Bool,
    (CallP Tryd.prog tT (13 : Nat) [(AV.c (Cap.d (Ty.sl (Ty.st (Ty.pair Ty.str (Ty.pair Ty.bool (Ty.pair (Ty.int Go.IntKind.i64) Ty.unit))))) l))] Ty.bool r ∧
    ((((!r) = true) →
      (R (0 : Int))) ∧
    (((!r) = false) →
      ∃ I : ((Int × (Int × Unit)) → Prop),
      ∃ μ : ((Int × (Int × Unit)) → Nat),
      ((I ((1 : Int), ((0 : Int), ()))) ∧
      ∀ x : (Int × (Int × Unit)),
      ((WF (Ty.int Go.IntKind.i64) x.1 ∧
        (WF (Ty.int Go.IntKind.i64) x.2.1 ∧
        True)) →
        ((I x) →
          ((((decide (x.2.1 < (((List.length l) : Nat) : Int))) = true) →
            ((((0 : Int) ≤ x.2.1) ∧
            (x.2.1 < (((List.length l) : Nat) : Int))) ∧
            ∃ r1 : Bool,
            (CallP Tryd.prog tT (43 : Nat) [(AV.c (Cap.d (Ty.st (Ty.pair Ty.str (Ty.pair Ty.bool (Ty.pair (Ty.int Go.IntKind.i64) Ty.unit)))) ((List.getD l (Int.toNat x.2.1) (([] : List UInt8), (false, ((0 : Int), ())))).1, ((List.getD l (Int.toNat x.2.1) (([] : List UInt8), (false, ((0 : Int), ())))).2.1, ((List.getD l (Int.toNat x.2.1) (([] : List UInt8), (false, ((0 : Int), ())))).2.2.1, ())))))] Ty.bool r1 ∧
            (((r1 = true) →
              (inK Go.IntKind.i64 (x.1 * (List.getD l (Int.toNat x.2.1) (([] : List UInt8), (false, ((0 : Int), ())))).2.2.1) ∧
              (inK Go.IntKind.i64 (x.2.1 + (1 : Int)) ∧
              ((I ((x.1 * (List.getD l (Int.toNat x.2.1) (([] : List UInt8), (false, ((0 : Int), ())))).2.2.1), ((x.2.1 + (1 : Int)), ()))) ∧
              ((μ ((x.1 * (List.getD l (Int.toNat x.2.1) (([] : List UInt8), (false, ((0 : Int), ())))).2.2.1), ((x.2.1 + (1 : Int)), ()))) < (μ x)))))) ∧
            ((r1 = false) →
              (inK Go.IntKind.i64 (x.2.1 + (1 : Int)) ∧
              ((I (x.1, ((x.2.1 + (1 : Int)), ()))) ∧
              ((μ (x.1, ((x.2.1 + (1 : Int)), ()))) < (μ x))))))))) ∧
          (((decide (x.2.1 < (((List.length l) : Nat) : Int))) = false) →
            (R x.1)))))))))) : CallP Tryd.prog tT 42 [.d (.sl (.st (.pair .str (.pair .bool (.pair (.int .i64) .unit))))) l, .fn 43 []] (.int .i64) r :=
  callP_of (cx := cxcntT) (d := 6) mixed tab_ok inl_ok Tryd.func42 ⟨fun _ _ => by kernel_rfl⟩ rfl rfl fun wf => Eq.mpr (by kernel_rfl) (h (fun x => x = r) (fun _ => Iff.rfl) (wf.1 rfl))
set_option maxRecDepth 1000000 in
theorem sfcntT (l : (Ty.T (.sl (.st (.pair .str (.pair .bool (.pair (.int .i64) .unit))))))) (r : Ty.T (.int .i64)) (h : ∀ R : Ty.T (.int .i64) → Prop, (∀ x, R x ↔ x = r) → WF (.sl (.st (.pair .str (.pair .bool (.pair (.int .i64) .unit))))) l → 
    (∃ r : Bool,
    (CallP Tryd.prog tT (13 : Nat) [(AV.c (Cap.d (Ty.sl (Ty.st (Ty.pair Ty.str (Ty.pair Ty.bool (Ty.pair (Ty.int Go.IntKind.i64) Ty.unit))))) l))] Ty.bool r ∧
    (((r = false) →
      (R (0 : Int))) ∧
    ((r = true) →
      (∃ I : ((Int × (Int × Unit)) → Prop),
      (∃ μ : ((Int × (Int × Unit)) → Nat),
      ((I ((1 : Int), ((0 : Int), ()))) ∧
      (∀ x : (Int × (Int × Unit)),
      ((WF (Ty.int Go.IntKind.i64) x.1 ∧
        (WF (Ty.int Go.IntKind.i64) x.2.1 ∧
        True)) →
        ((I x) →
          (((x.2.1 < (((List.length l) : Nat) : Int)) →
            (((0 : Int) ≤ x.2.1) ∧
            (∃ r1 : Bool,
            (CallP Tryd.prog tT (43 : Nat) [(AV.c (Cap.d (Ty.st (Ty.pair Ty.str (Ty.pair Ty.bool (Ty.pair (Ty.int Go.IntKind.i64) Ty.unit)))) ((List.getD l (Int.toNat x.2.1) (([] : List UInt8), (false, ((0 : Int), ())))).1, ((List.getD l (Int.toNat x.2.1) (([] : List UInt8), (false, ((0 : Int), ())))).2.1, ((List.getD l (Int.toNat x.2.1) (([] : List UInt8), (false, ((0 : Int), ())))).2.2.1, ())))))] Ty.bool r1 ∧
            (((r1 = true) →
              (inK Go.IntKind.i64 (x.1 * (List.getD l (Int.toNat x.2.1) (([] : List UInt8), (false, ((0 : Int), ())))).2.2.1) ∧
              (inK Go.IntKind.i64 (x.2.1 + (1 : Int)) ∧
              ((I ((x.1 * (List.getD l (Int.toNat x.2.1) (([] : List UInt8), (false, ((0 : Int), ())))).2.2.1), ((x.2.1 + (1 : Int)), ()))) ∧
              ((μ ((x.1 * (List.getD l (Int.toNat x.2.1) (([] : List UInt8), (false, ((0 : Int), ())))).2.2.1), ((x.2.1 + (1 : Int)), ()))) < (μ x)))))) ∧
            ((r1 = false) →
              (inK Go.IntKind.i64 (x.2.1 + (1 : Int)) ∧
              ((I (x.1, ((x.2.1 + (1 : Int)), ()))) ∧
              ((μ (x.1, ((x.2.1 + (1 : Int)), ()))) < (μ x)))))))))) ∧
          (((((List.length l) : Nat) : Int) ≤ x.2.1) →
            (R x.1)))))))))))))) : CallP Tryd.prog tT 42 [.d (.sl (.st (.pair .str (.pair .bool (.pair (.int .i64) .unit))))) l, .fn 43 []] (.int .i64) r :=
  ofcntT l r fun R hR w0_ => have p := h R hR w0_
    (Exists.elim p fun r q1 => Exists.intro r ⟨q1.1, ⟨(fun h7 => (q1.2.1 (bnot_t h7))), (fun h9 => (Exists.elim (q1.2.2 (bnot_f h9)) fun I q10 => Exists.intro I (Exists.elim q10 fun μ q11 => Exists.intro μ ⟨q11.1, (fun x => (fun h12 => (fun h13 => ⟨(fun h28 => ⟨⟨((((q11.2 x) h12) h13).1 (of_decide_eq_true h28)).1, (of_decide_eq_true h28)⟩, (Exists.elim ((((q11.2 x) h12) h13).1 (of_decide_eq_true h28)).2 fun r1 q29 => Exists.intro r1 ⟨q29.1, ⟨(fun h35 => ⟨(q29.2.1 h35).1, ⟨(q29.2.1 h35).2.1, ⟨(q29.2.1 h35).2.2.1, (q29.2.1 h35).2.2.2⟩⟩⟩), (fun h37 => ⟨(q29.2.2 h37).1, ⟨(q29.2.2 h37).2.1, (q29.2.2 h37).2.2⟩⟩)⟩⟩)⟩), (fun h39 => ((((q11.2 x) h12) h13).2 (Int.not_lt.1 (of_decide_eq_false h39))))⟩)))⟩)))⟩⟩)
/- foresight/signal.count -/
def cxcntI : Cx := { T := tT, own := ownT, frz := [], loops := [(420006, 104, ⟨[.val 5 (.int .i64), .val 13 (.int .i64)], 0⟩)], cuts := [], inl := inlT }
set_option maxRecDepth 1000000 in
theorem ofcntI (l : (Ty.T (.sl (.st (.pair .str (.pair .bool (.pair (.int .i64) .unit))))))) (r : Ty.T (.int .i64)) (h : ∀ R : Ty.T (.int .i64) → Prop, (∀ x, R x ↔ x = r) → WF (.sl (.st (.pair .str (.pair .bool (.pair (.int .i64) .unit))))) l → 
    ∃ r : Bool,
    (CallP Tryd.prog tT (13 : Nat) [(AV.c (Cap.d (Ty.sl (Ty.st (Ty.pair Ty.str (Ty.pair Ty.bool (Ty.pair (Ty.int Go.IntKind.i64) Ty.unit))))) l))] Ty.bool r ∧
    ((((!r) = true) →
      (R (0 : Int))) ∧
    (((!r) = false) →
      ∃ I : ((Int × (Int × Unit)) → Prop),
      ∃ μ : ((Int × (Int × Unit)) → Nat),
      ((I ((1 : Int), ((0 : Int), ()))) ∧
      ∀ x : (Int × (Int × Unit)),
      ((WF (Ty.int Go.IntKind.i64) x.1 ∧
        (WF (Ty.int Go.IntKind.i64) x.2.1 ∧
        True)) →
        ((I x) →
          ((((decide (x.2.1 < (((List.length l) : Nat) : Int))) = true) →
            ((((0 : Int) ≤ x.2.1) ∧
            (x.2.1 < (((List.length l) : Nat) : Int))) ∧
            ∃ r1 : Bool,
            (CallP Tryd.prog tT (44 : Nat) [(AV.c (Cap.d (Ty.st (Ty.pair Ty.str (Ty.pair Ty.bool (Ty.pair (Ty.int Go.IntKind.i64) Ty.unit)))) ((List.getD l (Int.toNat x.2.1) (([] : List UInt8), (false, ((0 : Int), ())))).1, ((List.getD l (Int.toNat x.2.1) (([] : List UInt8), (false, ((0 : Int), ())))).2.1, ((List.getD l (Int.toNat x.2.1) (([] : List UInt8), (false, ((0 : Int), ())))).2.2.1, ())))))] Ty.bool r1 ∧
            (((r1 = true) →
              (inK Go.IntKind.i64 (x.1 * (List.getD l (Int.toNat x.2.1) (([] : List UInt8), (false, ((0 : Int), ())))).2.2.1) ∧
              (inK Go.IntKind.i64 (x.2.1 + (1 : Int)) ∧
              ((I ((x.1 * (List.getD l (Int.toNat x.2.1) (([] : List UInt8), (false, ((0 : Int), ())))).2.2.1), ((x.2.1 + (1 : Int)), ()))) ∧
              ((μ ((x.1 * (List.getD l (Int.toNat x.2.1) (([] : List UInt8), (false, ((0 : Int), ())))).2.2.1), ((x.2.1 + (1 : Int)), ()))) < (μ x)))))) ∧
            ((r1 = false) →
              (inK Go.IntKind.i64 (x.2.1 + (1 : Int)) ∧
              ((I (x.1, ((x.2.1 + (1 : Int)), ()))) ∧
              ((μ (x.1, ((x.2.1 + (1 : Int)), ()))) < (μ x))))))))) ∧
          (((decide (x.2.1 < (((List.length l) : Nat) : Int))) = false) →
            (R x.1)))))))))) : CallP Tryd.prog tT 42 [.d (.sl (.st (.pair .str (.pair .bool (.pair (.int .i64) .unit))))) l, .fn 44 []] (.int .i64) r :=
  callP_of (cx := cxcntI) (d := 6) mixed tab_ok inl_ok Tryd.func42 ⟨fun _ _ => by kernel_rfl⟩ rfl rfl fun wf => Eq.mpr (by kernel_rfl) (h (fun x => x = r) (fun _ => Iff.rfl) (wf.1 rfl))
set_option maxRecDepth 1000000 in
theorem sfcntI (l : (Ty.T (.sl (.st (.pair .str (.pair .bool (.pair (.int .i64) .unit))))))) (r : Ty.T (.int .i64)) (h : ∀ R : Ty.T (.int .i64) → Prop, (∀ x, R x ↔ x = r) → WF (.sl (.st (.pair .str (.pair .bool (.pair (.int .i64) .unit))))) l → 
    (∃ r : Bool,
    (CallP Tryd.prog tT (13 : Nat) [(AV.c (Cap.d (Ty.sl (Ty.st (Ty.pair Ty.str (Ty.pair Ty.bool (Ty.pair (Ty.int Go.IntKind.i64) Ty.unit))))) l))] Ty.bool r ∧
    (((r = false) →
      (R (0 : Int))) ∧
    ((r = true) →
      (∃ I : ((Int × (Int × Unit)) → Prop),
      (∃ μ : ((Int × (Int × Unit)) → Nat),
      ((I ((1 : Int), ((0 : Int), ()))) ∧
      (∀ x : (Int × (Int × Unit)),
      ((WF (Ty.int Go.IntKind.i64) x.1 ∧
        (WF (Ty.int Go.IntKind.i64) x.2.1 ∧
        True)) →
        ((I x) →
          (((x.2.1 < (((List.length l) : Nat) : Int)) →
            (((0 : Int) ≤ x.2.1) ∧
            (∃ r1 : Bool,
            (CallP Tryd.prog tT (44 : Nat) [(AV.c (Cap.d (Ty.st (Ty.pair Ty.str (Ty.pair Ty.bool (Ty.pair (Ty.int Go.IntKind.i64) Ty.unit)))) ((List.getD l (Int.toNat x.2.1) (([] : List UInt8), (false, ((0 : Int), ())))).1, ((List.getD l (Int.toNat x.2.1) (([] : List UInt8), (false, ((0 : Int), ())))).2.1, ((List.getD l (Int.toNat x.2.1) (([] : List UInt8), (false, ((0 : Int), ())))).2.2.1, ())))))] Ty.bool r1 ∧
            (((r1 = true) →
              (inK Go.IntKind.i64 (x.1 * (List.getD l (Int.toNat x.2.1) (([] : List UInt8), (false, ((0 : Int), ())))).2.2.1) ∧
              (inK Go.IntKind.i64 (x.2.1 + (1 : Int)) ∧
              ((I ((x.1 * (List.getD l (Int.toNat x.2.1) (([] : List UInt8), (false, ((0 : Int), ())))).2.2.1), ((x.2.1 + (1 : Int)), ()))) ∧
              ((μ ((x.1 * (List.getD l (Int.toNat x.2.1) (([] : List UInt8), (false, ((0 : Int), ())))).2.2.1), ((x.2.1 + (1 : Int)), ()))) < (μ x)))))) ∧
            ((r1 = false) →
              (inK Go.IntKind.i64 (x.2.1 + (1 : Int)) ∧
              ((I (x.1, ((x.2.1 + (1 : Int)), ()))) ∧
              ((μ (x.1, ((x.2.1 + (1 : Int)), ()))) < (μ x)))))))))) ∧
          (((((List.length l) : Nat) : Int) ≤ x.2.1) →
            (R x.1)))))))))))))) : CallP Tryd.prog tT 42 [.d (.sl (.st (.pair .str (.pair .bool (.pair (.int .i64) .unit))))) l, .fn 44 []] (.int .i64) r :=
  ofcntI l r fun R hR w0_ => have p := h R hR w0_
    (Exists.elim p fun r q1 => Exists.intro r ⟨q1.1, ⟨(fun h7 => (q1.2.1 (bnot_t h7))), (fun h9 => (Exists.elim (q1.2.2 (bnot_f h9)) fun I q10 => Exists.intro I (Exists.elim q10 fun μ q11 => Exists.intro μ ⟨q11.1, (fun x => (fun h12 => (fun h13 => ⟨(fun h28 => ⟨⟨((((q11.2 x) h12) h13).1 (of_decide_eq_true h28)).1, (of_decide_eq_true h28)⟩, (Exists.elim ((((q11.2 x) h12) h13).1 (of_decide_eq_true h28)).2 fun r1 q29 => Exists.intro r1 ⟨q29.1, ⟨(fun h35 => ⟨(q29.2.1 h35).1, ⟨(q29.2.1 h35).2.1, ⟨(q29.2.1 h35).2.2.1, (q29.2.1 h35).2.2.2⟩⟩⟩), (fun h37 => ⟨(q29.2.2 h37).1, ⟨(q29.2.2 h37).2.1, (q29.2.2 h37).2.2⟩⟩)⟩⟩)⟩), (fun h39 => ((((q11.2 x) h12) h13).2 (Int.not_lt.1 (of_decide_eq_false h39))))⟩)))⟩)))⟩⟩)
/- foresight/signal.count -/
def cxcntO : Cx := { T := tT, own := ownT, frz := [], loops := [(420006, 104, ⟨[.val 5 (.int .i64), .val 13 (.int .i64)], 0⟩)], cuts := [], inl := inlT }
set_option maxRecDepth 1000000 in
theorem ofcntO (l : (Ty.T (.sl (.st (.pair .str (.pair .bool (.pair (.int .i64) .unit))))))) (r : Ty.T (.int .i64)) (h : ∀ R : Ty.T (.int .i64) → Prop, (∀ x, R x ↔ x = r) → WF (.sl (.st (.pair .str (.pair .bool (.pair (.int .i64) .unit))))) l → 
    ∃ r : Bool,
    (CallP Tryd.prog tT (13 : Nat) [(AV.c (Cap.d (Ty.sl (Ty.st (Ty.pair Ty.str (Ty.pair Ty.bool (Ty.pair (Ty.int Go.IntKind.i64) Ty.unit))))) l))] Ty.bool r ∧
    ((((!r) = true) →
      (R (0 : Int))) ∧
    (((!r) = false) →
      ∃ I : ((Int × (Int × Unit)) → Prop),
      ∃ μ : ((Int × (Int × Unit)) → Nat),
      ((I ((1 : Int), ((0 : Int), ()))) ∧
      ∀ x : (Int × (Int × Unit)),
      ((WF (Ty.int Go.IntKind.i64) x.1 ∧
        (WF (Ty.int Go.IntKind.i64) x.2.1 ∧
        True)) →
        ((I x) →
          ((((decide (x.2.1 < (((List.length l) : Nat) : Int))) = true) →
            ((((0 : Int) ≤ x.2.1) ∧
            (x.2.1 < (((List.length l) : Nat) : Int))) ∧
            ∃ r1 : Bool,
            (CallP Tryd.prog tT (46 : Nat) [(AV.c (Cap.d (Ty.st (Ty.pair Ty.str (Ty.pair Ty.bool (Ty.pair (Ty.int Go.IntKind.i64) Ty.unit)))) ((List.getD l (Int.toNat x.2.1) (([] : List UInt8), (false, ((0 : Int), ())))).1, ((List.getD l (Int.toNat x.2.1) (([] : List UInt8), (false, ((0 : Int), ())))).2.1, ((List.getD l (Int.toNat x.2.1) (([] : List UInt8), (false, ((0 : Int), ())))).2.2.1, ())))))] Ty.bool r1 ∧
            (((r1 = true) →
              (inK Go.IntKind.i64 (x.1 * (List.getD l (Int.toNat x.2.1) (([] : List UInt8), (false, ((0 : Int), ())))).2.2.1) ∧
              (inK Go.IntKind.i64 (x.2.1 + (1 : Int)) ∧
              ((I ((x.1 * (List.getD l (Int.toNat x.2.1) (([] : List UInt8), (false, ((0 : Int), ())))).2.2.1), ((x.2.1 + (1 : Int)), ()))) ∧
              ((μ ((x.1 * (List.getD l (Int.toNat x.2.1) (([] : List UInt8), (false, ((0 : Int), ())))).2.2.1), ((x.2.1 + (1 : Int)), ()))) < (μ x)))))) ∧
            ((r1 = false) →
              (inK Go.IntKind.i64 (x.2.1 + (1 : Int)) ∧
              ((I (x.1, ((x.2.1 + (1 : Int)), ()))) ∧
              ((μ (x.1, ((x.2.1 + (1 : Int)), ()))) < (μ x))))))))) ∧
          (((decide (x.2.1 < (((List.length l) : Nat) : Int))) = false) →
            (R x.1)))))))))) : CallP Tryd.prog tT 42 [.d (.sl (.st (.pair .str (.pair .bool (.pair (.int .i64) .unit))))) l, .fn 46 []] (.int .i64) r :=
  callP_of (cx := cxcntO) (d := 6) mixed tab_ok inl_ok Tryd.func42 ⟨fun _ _ => by kernel_rfl⟩ rfl rfl fun wf => Eq.mpr (by kernel_rfl) (h (fun x => x = r) (fun _ => Iff.rfl) (wf.1 rfl))
set_option maxRecDepth 1000000 in
theorem sfcntO (l : (Ty.T (.sl (.st (.pair .str (.pair .bool (.pair (.int .i64) .unit))))))) (r : Ty.T (.int .i64)) (h : ∀ R : Ty.T (.int .i64) → Prop, (∀ x, R x ↔ x = r) → WF (.sl (.st (.pair .str (.pair .bool (.pair (.int .i64) .unit))))) l → 
    (∃ r : Bool,
    (CallP Tryd.prog tT (13 : Nat) [(AV.c (Cap.d (Ty.sl (Ty.st (Ty.pair Ty.str (Ty.pair Ty.bool (Ty.pair (Ty.int Go.IntKind.i64) Ty.unit))))) l))] Ty.bool r ∧
    (((r = false) →
      (R (0 : Int))) ∧
    ((r = true) →
      (∃ I : ((Int × (Int × Unit)) → Prop),
      (∃ μ : ((Int × (Int × Unit)) → Nat),
      ((I ((1 : Int), ((0 : Int), ()))) ∧
      (∀ x : (Int × (Int × Unit)),
      ((WF (Ty.int Go.IntKind.i64) x.1 ∧
        (WF (Ty.int Go.IntKind.i64) x.2.1 ∧
        True)) →
        ((I x) →
          (((x.2.1 < (((List.length l) : Nat) : Int)) →
            (((0 : Int) ≤ x.2.1) ∧
            (∃ r1 : Bool,
            (CallP Tryd.prog tT (46 : Nat) [(AV.c (Cap.d (Ty.st (Ty.pair Ty.str (Ty.pair Ty.bool (Ty.pair (Ty.int Go.IntKind.i64) Ty.unit)))) ((List.getD l (Int.toNat x.2.1) (([] : List UInt8), (false, ((0 : Int), ())))).1, ((List.getD l (Int.toNat x.2.1) (([] : List UInt8), (false, ((0 : Int), ())))).2.1, ((List.getD l (Int.toNat x.2.1) (([] : List UInt8), (false, ((0 : Int), ())))).2.2.1, ())))))] Ty.bool r1 ∧
            (((r1 = true) →
              (inK Go.IntKind.i64 (x.1 * (List.getD l (Int.toNat x.2.1) (([] : List UInt8), (false, ((0 : Int), ())))).2.2.1) ∧
              (inK Go.IntKind.i64 (x.2.1 + (1 : Int)) ∧
              ((I ((x.1 * (List.getD l (Int.toNat x.2.1) (([] : List UInt8), (false, ((0 : Int), ())))).2.2.1), ((x.2.1 + (1 : Int)), ()))) ∧
              ((μ ((x.1 * (List.getD l (Int.toNat x.2.1) (([] : List UInt8), (false, ((0 : Int), ())))).2.2.1), ((x.2.1 + (1 : Int)), ()))) < (μ x)))))) ∧
            ((r1 = false) →
              (inK Go.IntKind.i64 (x.2.1 + (1 : Int)) ∧
              ((I (x.1, ((x.2.1 + (1 : Int)), ()))) ∧
              ((μ (x.1, ((x.2.1 + (1 : Int)), ()))) < (μ x)))))))))) ∧
          (((((List.length l) : Nat) : Int) ≤ x.2.1) →
            (R x.1)))))))))))))) : CallP Tryd.prog tT 42 [.d (.sl (.st (.pair .str (.pair .bool (.pair (.int .i64) .unit))))) l, .fn 46 []] (.int .i64) r :=
  ofcntO l r fun R hR w0_ => have p := h R hR w0_
    (Exists.elim p fun r q1 => Exists.intro r ⟨q1.1, ⟨(fun h7 => (q1.2.1 (bnot_t h7))), (fun h9 => (Exists.elim (q1.2.2 (bnot_f h9)) fun I q10 => Exists.intro I (Exists.elim q10 fun μ q11 => Exists.intro μ ⟨q11.1, (fun x => (fun h12 => (fun h13 => ⟨(fun h28 => ⟨⟨((((q11.2 x) h12) h13).1 (of_decide_eq_true h28)).1, (of_decide_eq_true h28)⟩, (Exists.elim ((((q11.2 x) h12) h13).1 (of_decide_eq_true h28)).2 fun r1 q29 => Exists.intro r1 ⟨q29.1, ⟨(fun h35 => ⟨(q29.2.1 h35).1, ⟨(q29.2.1 h35).2.1, ⟨(q29.2.1 h35).2.2.1, (q29.2.1 h35).2.2.2⟩⟩⟩), (fun h37 => ⟨(q29.2.2 h37).1, ⟨(q29.2.2 h37).2.1, (q29.2.2 h37).2.2⟩⟩)⟩⟩)⟩), (fun h39 => ((((q11.2 x) h12) h13).2 (Int.not_lt.1 (of_decide_eq_false h39))))⟩)))⟩)))⟩⟩)
/- foresight/signal.Letters 1 -/
def cx43 : Cx := { T := tT, own := ownT, frz := [], loops := [], cuts := [], inl := inlT }
set_option maxRecDepth 1000000 in
theorem of43 (a0 : (Ty.T (.st (.pair .str (.pair .bool (.pair (.int .i64) .unit)))))) (r : Ty.T .bool) (h : ∀ R : Ty.T .bool → Prop, (∀ x, R x ↔ x = r) → WF (.st (.pair .str (.pair .bool (.pair (.int .i64) .unit)))) a0 → 
    (R true)) : CallP Tryd.prog tT 43 [.d (.st (.pair .str (.pair .bool (.pair (.int .i64) .unit)))) a0] .bool r :=
  callP_of (cx := cx43) (d := 6) mixed tab_ok inl_ok Tryd.func43 ⟨fun _ _ => by kernel_rfl⟩ rfl rfl fun wf => Eq.mpr (by kernel_rfl) (h (fun x => x = r) (fun _ => Iff.rfl) (wf.1 rfl))
/- foresight/signal.Inputs 1 -/
def cx44 : Cx := { T := tT, own := ownT, frz := [], loops := [], cuts := [], inl := inlT }
set_option maxRecDepth 1000000 in
theorem of44 (x_ : (Ty.T (.st (.pair .str (.pair .bool (.pair (.int .i64) .unit)))))) (r : Ty.T .bool) (h : ∀ R : Ty.T .bool → Prop, (∀ x, R x ↔ x = r) → WF (.st (.pair .str (.pair .bool (.pair (.int .i64) .unit)))) x_ → 
    (R x_.2.1)) : CallP Tryd.prog tT 44 [.d (.st (.pair .str (.pair .bool (.pair (.int .i64) .unit)))) x_] .bool r :=
  callP_of (cx := cx44) (d := 6) mixed tab_ok inl_ok Tryd.func44 ⟨fun _ _ => by kernel_rfl⟩ rfl rfl fun wf => Eq.mpr (by kernel_rfl) (h (fun x => x = r) (fun _ => Iff.rfl) (wf.1 rfl))
/- foresight/foresightref01.side -/
def cx45 : Cx := { T := tT, own := ownT, frz := [], loops := [(450006, 124, ⟨[.val 5 (.int .i64), .val 6 (.int .i64)], 0⟩)], cuts := [], inl := inlT }
set_option maxRecDepth 1000000 in
theorem of45 (l : (Ty.T (.sl (.st (.pair .str (.pair .bool (.pair (.int .i64) .unit))))))) (input : (Ty.T .bool)) (r : Ty.T (.int .i64)) (h : ∀ R : Ty.T (.int .i64) → Prop, (∀ x, R x ↔ x = r) → WF (.sl (.st (.pair .str (.pair .bool (.pair (.int .i64) .unit))))) l → WF .bool input → 
    ∃ r : Bool,
    (CallP Tryd.prog tT (14 : Nat) [(AV.c (Cap.d (Ty.sl (Ty.st (Ty.pair Ty.str (Ty.pair Ty.bool (Ty.pair (Ty.int Go.IntKind.i64) Ty.unit))))) l))] Ty.bool r ∧
    ((((!r) = true) →
      (R (0 : Int))) ∧
    (((!r) = false) →
      ∃ I : ((Int × (Int × Unit)) → Prop),
      ∃ μ : ((Int × (Int × Unit)) → Nat),
      ((I ((1 : Int), ((0 : Int), ()))) ∧
      ∀ x : (Int × (Int × Unit)),
      ((WF (Ty.int Go.IntKind.i64) x.1 ∧
        (WF (Ty.int Go.IntKind.i64) x.2.1 ∧
        True)) →
        ((I x) →
          ((((decide (x.2.1 < (((List.length l) : Nat) : Int))) = true) →
            ((((0 : Int) ≤ x.2.1) ∧
            (x.2.1 < (((List.length l) : Nat) : Int))) ∧
            (((((List.getD l (Int.toNat x.2.1) (([] : List UInt8), (false, ((0 : Int), ())))).2.1 == input) = true) →
              ((((0 : Int) ≤ x.2.1) ∧
              (x.2.1 < (((List.length l) : Nat) : Int))) ∧
              (inK Go.IntKind.i64 (x.1 * (List.getD l (Int.toNat x.2.1) (([] : List UInt8), (false, ((0 : Int), ())))).2.2.1) ∧
              (inK Go.IntKind.i64 (x.2.1 + (1 : Int)) ∧
              ((I ((x.1 * (List.getD l (Int.toNat x.2.1) (([] : List UInt8), (false, ((0 : Int), ())))).2.2.1), ((x.2.1 + (1 : Int)), ()))) ∧
              ((μ ((x.1 * (List.getD l (Int.toNat x.2.1) (([] : List UInt8), (false, ((0 : Int), ())))).2.2.1), ((x.2.1 + (1 : Int)), ()))) < (μ x))))))) ∧
            ((((List.getD l (Int.toNat x.2.1) (([] : List UInt8), (false, ((0 : Int), ())))).2.1 == input) = false) →
              (inK Go.IntKind.i64 (x.2.1 + (1 : Int)) ∧
              ((I (x.1, ((x.2.1 + (1 : Int)), ()))) ∧
              ((μ (x.1, ((x.2.1 + (1 : Int)), ()))) < (μ x)))))))) ∧
          (((decide (x.2.1 < (((List.length l) : Nat) : Int))) = false) →
            (R x.1)))))))))) : CallP Tryd.prog tT 45 [.d (.sl (.st (.pair .str (.pair .bool (.pair (.int .i64) .unit))))) l, .d .bool input] (.int .i64) r :=
  callP_of (cx := cx45) (d := 6) mixed tab_ok inl_ok Tryd.func45 ⟨fun _ _ => by kernel_rfl⟩ rfl rfl fun wf => Eq.mpr (by kernel_rfl) (h (fun x => x = r) (fun _ => Iff.rfl) (wf.1 rfl) (wf.2.1 rfl))
set_option maxRecDepth 1000000 in
theorem sf45 (l : (Ty.T (.sl (.st (.pair .str (.pair .bool (.pair (.int .i64) .unit))))))) (input : (Ty.T .bool)) (r : Ty.T (.int .i64)) (h : ∀ R : Ty.T (.int .i64) → Prop, (∀ x, R x ↔ x = r) → WF (.sl (.st (.pair .str (.pair .bool (.pair (.int .i64) .unit))))) l → WF .bool input → 
    (∃ r : Bool,
    (CallP Tryd.prog tT (14 : Nat) [(AV.c (Cap.d (Ty.sl (Ty.st (Ty.pair Ty.str (Ty.pair Ty.bool (Ty.pair (Ty.int Go.IntKind.i64) Ty.unit))))) l))] Ty.bool r ∧
    (((r = false) →
      (R (0 : Int))) ∧
    ((r = true) →
      (∃ I : ((Int × (Int × Unit)) → Prop),
      (∃ μ : ((Int × (Int × Unit)) → Nat),
      ((I ((1 : Int), ((0 : Int), ()))) ∧
      (∀ x : (Int × (Int × Unit)),
      ((WF (Ty.int Go.IntKind.i64) x.1 ∧
        (WF (Ty.int Go.IntKind.i64) x.2.1 ∧
        True)) →
        ((I x) →
          (((x.2.1 < (((List.length l) : Nat) : Int)) →
            (((0 : Int) ≤ x.2.1) ∧
            (((((List.getD l (Int.toNat x.2.1) (([] : List UInt8), (false, ((0 : Int), ())))).2.1 == input) = true) →
              (inK Go.IntKind.i64 (x.1 * (List.getD l (Int.toNat x.2.1) (([] : List UInt8), (false, ((0 : Int), ())))).2.2.1) ∧
              (inK Go.IntKind.i64 (x.2.1 + (1 : Int)) ∧
              ((I ((x.1 * (List.getD l (Int.toNat x.2.1) (([] : List UInt8), (false, ((0 : Int), ())))).2.2.1), ((x.2.1 + (1 : Int)), ()))) ∧
              ((μ ((x.1 * (List.getD l (Int.toNat x.2.1) (([] : List UInt8), (false, ((0 : Int), ())))).2.2.1), ((x.2.1 + (1 : Int)), ()))) < (μ x)))))) ∧
            ((((List.getD l (Int.toNat x.2.1) (([] : List UInt8), (false, ((0 : Int), ())))).2.1 == input) = false) →
              (inK Go.IntKind.i64 (x.2.1 + (1 : Int)) ∧
              ((I (x.1, ((x.2.1 + (1 : Int)), ()))) ∧
              ((μ (x.1, ((x.2.1 + (1 : Int)), ()))) < (μ x)))))))) ∧
          (((((List.length l) : Nat) : Int) ≤ x.2.1) →
            (R x.1)))))))))))))) : CallP Tryd.prog tT 45 [.d (.sl (.st (.pair .str (.pair .bool (.pair (.int .i64) .unit))))) l, .d .bool input] (.int .i64) r :=
  of45 l input r fun R hR w0_ w1_ => have p := h R hR w0_ w1_
    (Exists.elim p fun r q1 => Exists.intro r ⟨q1.1, ⟨(fun h7 => (q1.2.1 (bnot_t h7))), (fun h9 => (Exists.elim (q1.2.2 (bnot_f h9)) fun I q10 => Exists.intro I (Exists.elim q10 fun μ q11 => Exists.intro μ ⟨q11.1, (fun x => (fun h12 => (fun h13 => ⟨(fun h27 => ⟨⟨((((q11.2 x) h12) h13).1 (of_decide_eq_true h27)).1, (of_decide_eq_true h27)⟩, ⟨(fun h33 => ⟨⟨((((q11.2 x) h12) h13).1 (of_decide_eq_true h27)).1, (of_decide_eq_true h27)⟩, ⟨(((((q11.2 x) h12) h13).1 (of_decide_eq_true h27)).2.1 h33).1, ⟨(((((q11.2 x) h12) h13).1 (of_decide_eq_true h27)).2.1 h33).2.1, ⟨(((((q11.2 x) h12) h13).1 (of_decide_eq_true h27)).2.1 h33).2.2.1, (((((q11.2 x) h12) h13).1 (of_decide_eq_true h27)).2.1 h33).2.2.2⟩⟩⟩⟩), (fun h35 => ⟨(((((q11.2 x) h12) h13).1 (of_decide_eq_true h27)).2.2 h35).1, ⟨(((((q11.2 x) h12) h13).1 (of_decide_eq_true h27)).2.2 h35).2.1, (((((q11.2 x) h12) h13).1 (of_decide_eq_true h27)).2.2 h35).2.2⟩⟩)⟩⟩), (fun h37 => ((((q11.2 x) h12) h13).2 (Int.not_lt.1 (of_decide_eq_false h37))))⟩)))⟩)))⟩⟩)
/- foresight/signal.Outputs 1 -/
def cx46 : Cx := { T := tT, own := ownT, frz := [], loops := [], cuts := [], inl := inlT }
set_option maxRecDepth 1000000 in
theorem of46 (x_ : (Ty.T (.st (.pair .str (.pair .bool (.pair (.int .i64) .unit)))))) (r : Ty.T .bool) (h : ∀ R : Ty.T .bool → Prop, (∀ x, R x ↔ x = r) → WF (.st (.pair .str (.pair .bool (.pair (.int .i64) .unit)))) x_ → 
    (R (!x_.2.1))) : CallP Tryd.prog tT 46 [.d (.st (.pair .str (.pair .bool (.pair (.int .i64) .unit)))) x_] .bool r :=
  callP_of (cx := cx46) (d := 6) mixed tab_ok inl_ok Tryd.func46 ⟨fun _ _ => by kernel_rfl⟩ rfl rfl fun wf => Eq.mpr (by kernel_rfl) (h (fun x => x = r) (fun _ => Iff.rfl) (wf.1 rfl))
/- foresight/foresightref01.Values -/
def cx48 : Cx := { T := tT, own := ownT, frz := [], loops := [(480006, 160, ⟨[.val 1 (.int .i64), .own 5 0 3 (.int .i64), .val 6 (.int .i64)], 1⟩)], cuts := [], inl := inlT }
set_option maxRecDepth 1000000 in
theorem of48 (l : (Ty.T (.sl (.st (.pair .str (.pair .bool (.pair (.int .i64) .unit))))))) (letter : (Ty.T (.int .i64))) (r : Ty.T (.sl (.int .i64))) (h : ∀ R : Ty.T (.sl (.int .i64)) → Prop, (∀ x, R x ↔ x = r) → WF (.sl (.st (.pair .str (.pair .bool (.pair (.int .i64) .unit))))) l → WF (.int .i64) letter → 
    ∃ r : Int,
    ((((!(decide (letter < (0 : Int)))) = true) →
      (((!(decide (letter < (0 : Int)))) = true) ∧
      CallP Tryd.prog tT (20 : Nat) [(AV.c (Cap.d (Ty.sl (Ty.st (Ty.pair Ty.str (Ty.pair Ty.bool (Ty.pair (Ty.int Go.IntKind.i64) Ty.unit))))) l))] (Ty.int Go.IntKind.i64) r)) ∧
    ((((!(decide (letter < (0 : Int)))) = true) →
      (((!(decide (letter < (0 : Int)))) = true) ∧
      ((!(decide (letter < (0 : Int)))) = true))) ∧
    ((((decide (letter < (0 : Int))) = false) →
      ((!(decide (letter < (0 : Int)))) = true)) ∧
    ((((selB (decide (letter < (0 : Int))) true (decide (r ≤ letter))) = true) →
      (R ([] : List Int))) ∧
    (((selB (decide (letter < (0 : Int))) true (decide (r ≤ letter))) = false) →
      ∃ I : ((Int × ((List Int) × (Int × Unit))) → Prop),
      ∃ μ : ((Int × ((List Int) × (Int × Unit))) → Nat),
      ((I (letter, (([] : List Int), ((0 : Int), ())))) ∧
      ∀ x : (Int × ((List Int) × (Int × Unit))),
      ((WF (Ty.int Go.IntKind.i64) x.1 ∧
        (WF (Ty.sl (Ty.int Go.IntKind.i64)) x.2.1 ∧
        (WF (Ty.int Go.IntKind.i64) x.2.2.1 ∧
        True))) →
        ((I x) →
          ((((decide (x.2.2.1 < (((List.length l) : Nat) : Int))) = true) →
            ((((0 : Int) ≤ x.2.2.1) ∧
            (x.2.2.1 < (((List.length l) : Nat) : Int))) ∧
            ((((0 : Int) ≤ x.1) ∧
            ((0 : Int) < (List.getD l (Int.toNat x.2.2.1) (([] : List UInt8), (false, ((0 : Int), ())))).2.2.1)) ∧
            (((((((List.length x.2.1) + (List.length [(x.1 % (List.getD l (Int.toNat x.2.2.1) (([] : List UInt8), (false, ((0 : Int), ())))).2.2.1)])) : Nat) : Int) * (((8 : Nat) : Nat) : Int)) ≤ (140737488355328 : Int)) ∧
            ((((0 : Int) ≤ x.2.2.1) ∧
            (x.2.2.1 < (((List.length l) : Nat) : Int))) ∧
            ((((0 : Int) ≤ x.1) ∧
            ((0 : Int) < (List.getD l (Int.toNat x.2.2.1) (([] : List UInt8), (false, ((0 : Int), ())))).2.2.1)) ∧
            (inK Go.IntKind.i64 (x.2.2.1 + (1 : Int)) ∧
            ((I ((x.1 / (List.getD l (Int.toNat x.2.2.1) (([] : List UInt8), (false, ((0 : Int), ())))).2.2.1), ((x.2.1 ++ [(x.1 % (List.getD l (Int.toNat x.2.2.1) (([] : List UInt8), (false, ((0 : Int), ())))).2.2.1)]), ((x.2.2.1 + (1 : Int)), ())))) ∧
            ((μ ((x.1 / (List.getD l (Int.toNat x.2.2.1) (([] : List UInt8), (false, ((0 : Int), ())))).2.2.1), ((x.2.1 ++ [(x.1 % (List.getD l (Int.toNat x.2.2.1) (([] : List UInt8), (false, ((0 : Int), ())))).2.2.1)]), ((x.2.2.1 + (1 : Int)), ())))) < (μ x)))))))))) ∧
          (((decide (x.2.2.1 < (((List.length l) : Nat) : Int))) = false) →
            (R x.2.1)))))))))))) : CallP Tryd.prog tT 48 [.d (.sl (.st (.pair .str (.pair .bool (.pair (.int .i64) .unit))))) l, .d (.int .i64) letter] (.sl (.int .i64)) r :=
  callP_of (cx := cx48) (d := 6) mixed tab_ok inl_ok Tryd.func48 ⟨fun _ _ => by kernel_rfl⟩ rfl rfl fun wf => Eq.mpr (by kernel_rfl) (h (fun x => x = r) (fun _ => Iff.rfl) (wf.1 rfl) (wf.2.1 rfl))
set_option maxRecDepth 1000000 in
theorem sf48 (l : (Ty.T (.sl (.st (.pair .str (.pair .bool (.pair (.int .i64) .unit))))))) (letter : (Ty.T (.int .i64))) (r : Ty.T (.sl (.int .i64))) (h : ∀ R : Ty.T (.sl (.int .i64)) → Prop, (∀ x, R x ↔ x = r) → WF (.sl (.st (.pair .str (.pair .bool (.pair (.int .i64) .unit))))) l → WF (.int .i64) letter → 
    (∃ r : Int,
    ((((0 : Int) ≤ letter) →
      CallP Tryd.prog tT (20 : Nat) [(AV.c (Cap.d (Ty.sl (Ty.st (Ty.pair Ty.str (Ty.pair Ty.bool (Ty.pair (Ty.int Go.IntKind.i64) Ty.unit))))) l))] (Ty.int Go.IntKind.i64) r) ∧
    ((((letter < (0 : Int)) ∨ (r ≤ letter)) →
      (R ([] : List Int))) ∧
    (((0 : Int) ≤ letter) → (letter < r) →
      (∃ I : ((Int × ((List Int) × (Int × Unit))) → Prop),
      (∃ μ : ((Int × ((List Int) × (Int × Unit))) → Nat),
      ((I (letter, (([] : List Int), ((0 : Int), ())))) ∧
      (∀ x : (Int × ((List Int) × (Int × Unit))),
      ((WF (Ty.int Go.IntKind.i64) x.1 ∧
        (WF (Ty.sl (Ty.int Go.IntKind.i64)) x.2.1 ∧
        (WF (Ty.int Go.IntKind.i64) x.2.2.1 ∧
        True))) →
        ((I x) →
          (((x.2.2.1 < (((List.length l) : Nat) : Int)) →
            (((0 : Int) ≤ x.2.2.1) ∧
            ((((0 : Int) ≤ x.1) ∧
            ((0 : Int) < (List.getD l (Int.toNat x.2.2.1) (([] : List UInt8), (false, ((0 : Int), ())))).2.2.1)) ∧
            (((((((List.length x.2.1) + (List.length [(x.1 % (List.getD l (Int.toNat x.2.2.1) (([] : List UInt8), (false, ((0 : Int), ())))).2.2.1)])) : Nat) : Int) * (((8 : Nat) : Nat) : Int)) ≤ (140737488355328 : Int)) ∧
            (inK Go.IntKind.i64 (x.2.2.1 + (1 : Int)) ∧
            ((I ((x.1 / (List.getD l (Int.toNat x.2.2.1) (([] : List UInt8), (false, ((0 : Int), ())))).2.2.1), ((x.2.1 ++ [(x.1 % (List.getD l (Int.toNat x.2.2.1) (([] : List UInt8), (false, ((0 : Int), ())))).2.2.1)]), ((x.2.2.1 + (1 : Int)), ())))) ∧
            ((μ ((x.1 / (List.getD l (Int.toNat x.2.2.1) (([] : List UInt8), (false, ((0 : Int), ())))).2.2.1), ((x.2.1 ++ [(x.1 % (List.getD l (Int.toNat x.2.2.1) (([] : List UInt8), (false, ((0 : Int), ())))).2.2.1)]), ((x.2.2.1 + (1 : Int)), ())))) < (μ x)))))))) ∧
          (((((List.length l) : Nat) : Int) ≤ x.2.2.1) →
            (R x.2.1)))))))))))))) : CallP Tryd.prog tT 48 [.d (.sl (.st (.pair .str (.pair .bool (.pair (.int .i64) .unit))))) l, .d (.int .i64) letter] (.sl (.int .i64)) r :=
  of48 l letter r fun R hR w0_ w1_ => have p := h R hR w0_ w1_
    (Exists.elim p fun r q1 => Exists.intro r ⟨(fun h7 => ⟨h7, (q1.1 (Int.not_lt.1 (of_decide_eq_false (bnot_t h7))))⟩), ⟨(fun h11 => ⟨h11, h11⟩), ⟨(fun h14 => (bnot_t2 h14)), ⟨(fun h20 => (q1.2.1 (Or.imp (fun h => (of_decide_eq_true h)) (fun h => (of_decide_eq_true h)) (selB_ot h20)))), (fun h22 => (Exists.elim (q1.2.2 (Int.not_lt.1 (of_decide_eq_false (selB_of h22).1)) (Int.not_le.1 (of_decide_eq_false (selB_of h22).2))) fun I q23 => Exists.intro I (Exists.elim q23 fun μ q24 => Exists.intro μ ⟨q24.1, (fun x => (fun h25 => (fun h26 => ⟨(fun h32 => ⟨⟨((((q24.2 x) h25) h26).1 (of_decide_eq_true h32)).1, (of_decide_eq_true h32)⟩, ⟨⟨((((q24.2 x) h25) h26).1 (of_decide_eq_true h32)).2.1.1, ((((q24.2 x) h25) h26).1 (of_decide_eq_true h32)).2.1.2⟩, ⟨((((q24.2 x) h25) h26).1 (of_decide_eq_true h32)).2.2.1, ⟨⟨((((q24.2 x) h25) h26).1 (of_decide_eq_true h32)).1, (of_decide_eq_true h32)⟩, ⟨⟨((((q24.2 x) h25) h26).1 (of_decide_eq_true h32)).2.1.1, ((((q24.2 x) h25) h26).1 (of_decide_eq_true h32)).2.1.2⟩, ⟨((((q24.2 x) h25) h26).1 (of_decide_eq_true h32)).2.2.2.1, ⟨((((q24.2 x) h25) h26).1 (of_decide_eq_true h32)).2.2.2.2.1, ((((q24.2 x) h25) h26).1 (of_decide_eq_true h32)).2.2.2.2.2⟩⟩⟩⟩⟩⟩⟩), (fun h34 => ((((q24.2 x) h25) h26).2 (Int.not_lt.1 (of_decide_eq_false h34))))⟩)))⟩)))⟩⟩⟩⟩)
/- foresight/signal.half -/
def cx49 : Cx := { T := tT, own := ownT, frz := [], loops := [(540004, 230, ⟨[.val 4 (.int .i64), .val 18 (.int .i64), .obj 44 [.d (.int .i64)], .obj 43 [.d (.int .i64)], .lp 120], 0⟩)], cuts := [], inl := inlT }
abbrev vt49 (l : (Ty.T (.sl (.st (.pair .str (.pair .bool (.pair (.int .i64) .unit))))))) (letter : (Ty.T (.int .i64))) (input : (Ty.T .bool)) (R : Ty.T (.int .i64) → Prop) : Prop := (
    ∃ r : Int,
    ((((!(decide (letter < (0 : Int)))) = true) →
      (((!(decide (letter < (0 : Int)))) = true) ∧
      CallP Tryd.prog tT (19 : Nat) [(AV.c (Cap.d (Ty.sl (Ty.st (Ty.pair Ty.str (Ty.pair Ty.bool (Ty.pair (Ty.int Go.IntKind.i64) Ty.unit))))) l))] (Ty.int Go.IntKind.i64) r)) ∧
    ((((!(decide (letter < (0 : Int)))) = true) →
      (((!(decide (letter < (0 : Int)))) = true) ∧
      ((!(decide (letter < (0 : Int)))) = true))) ∧
    ((((decide (letter < (0 : Int))) = false) →
      ((!(decide (letter < (0 : Int)))) = true)) ∧
    ((((selB (decide (letter < (0 : Int))) true (decide (r ≤ letter))) = true) →
      (R (0 : Int))) ∧
    (((selB (decide (letter < (0 : Int))) true (decide (r ≤ letter))) = false) →
      ∃ I : ((Int × (Int × ((Int × Unit) × ((Int × Unit) × Unit)))) → Prop),
      ∃ μ : ((Int × (Int × ((Int × Unit) × ((Int × Unit) × Unit)))) → Nat),
      ((I (letter, ((0 : Int), (((1 : Int), ()), (((0 : Int), ()), ()))))) ∧
      ∀ x : (Int × (Int × ((Int × Unit) × ((Int × Unit) × Unit)))),
      ((WF (Ty.int Go.IntKind.i64) x.1 ∧
        (WF (Ty.int Go.IntKind.i64) x.2.1 ∧
        (WF (Ty.pair (Ty.int Go.IntKind.i64) Ty.unit) x.2.2.1 ∧
        (WF (Ty.pair (Ty.int Go.IntKind.i64) Ty.unit) x.2.2.2.1 ∧
        True)))) →
        ((I x) →
          ((((decide (x.2.1 < (((List.length l) : Nat) : Int))) = true) →
            ((((0 : Int) ≤ x.2.1) ∧
            (x.2.1 < (((List.length l) : Nat) : Int))) ∧
            ((((0 : Int) ≤ x.1) ∧
            ((0 : Int) < (List.getD l (Int.toNat x.2.1) (([] : List UInt8), (false, ((0 : Int), ())))).2.2.1)) ∧
            ((((0 : Int) ≤ x.2.1) ∧
            (x.2.1 < (((List.length l) : Nat) : Int))) ∧
            (((((List.getD l (Int.toNat x.2.1) (([] : List UInt8), (false, ((0 : Int), ())))).2.1 == input) = true) →
              (inK Go.IntKind.i64 (x.2.2.1.1 * (x.1 % (List.getD l (Int.toNat x.2.1) (([] : List UInt8), (false, ((0 : Int), ())))).2.2.1)) ∧
              (inK Go.IntKind.i64 (x.2.2.2.1.1 + (x.2.2.1.1 * (x.1 % (List.getD l (Int.toNat x.2.1) (([] : List UInt8), (false, ((0 : Int), ())))).2.2.1))) ∧
              ((((0 : Int) ≤ x.2.1) ∧
              (x.2.1 < (((List.length l) : Nat) : Int))) ∧
              (inK Go.IntKind.i64 (x.2.2.1.1 * (List.getD l (Int.toNat x.2.1) (([] : List UInt8), (false, ((0 : Int), ())))).2.2.1) ∧
              ((((!true) = true) →
                (R (x.2.2.2.1.1 + (x.2.2.1.1 * (x.1 % (List.getD l (Int.toNat x.2.1) (([] : List UInt8), (false, ((0 : Int), ())))).2.2.1))))) ∧
              (((!true) = false) →
                ((((0 : Int) ≤ x.1) ∧
                ((0 : Int) < (List.getD l (Int.toNat x.2.1) (([] : List UInt8), (false, ((0 : Int), ())))).2.2.1)) ∧
                (inK Go.IntKind.i64 (x.2.1 + (1 : Int)) ∧
                ((I ((x.1 / (List.getD l (Int.toNat x.2.1) (([] : List UInt8), (false, ((0 : Int), ())))).2.2.1), ((x.2.1 + (1 : Int)), (((x.2.2.1.1 * (List.getD l (Int.toNat x.2.1) (([] : List UInt8), (false, ((0 : Int), ())))).2.2.1), ()), (((x.2.2.2.1.1 + (x.2.2.1.1 * (x.1 % (List.getD l (Int.toNat x.2.1) (([] : List UInt8), (false, ((0 : Int), ())))).2.2.1))), ()), ()))))) ∧
                ((μ ((x.1 / (List.getD l (Int.toNat x.2.1) (([] : List UInt8), (false, ((0 : Int), ())))).2.2.1), ((x.2.1 + (1 : Int)), (((x.2.2.1.1 * (List.getD l (Int.toNat x.2.1) (([] : List UInt8), (false, ((0 : Int), ())))).2.2.1), ()), (((x.2.2.2.1.1 + (x.2.2.1.1 * (x.1 % (List.getD l (Int.toNat x.2.1) (([] : List UInt8), (false, ((0 : Int), ())))).2.2.1))), ()), ()))))) < (μ x)))))))))))) ∧
            ((((List.getD l (Int.toNat x.2.1) (([] : List UInt8), (false, ((0 : Int), ())))).2.1 == input) = false) →
              ((((!true) = true) →
                (R x.2.2.2.1.1)) ∧
              (((!true) = false) →
                ((((0 : Int) ≤ x.1) ∧
                ((0 : Int) < (List.getD l (Int.toNat x.2.1) (([] : List UInt8), (false, ((0 : Int), ())))).2.2.1)) ∧
                (inK Go.IntKind.i64 (x.2.1 + (1 : Int)) ∧
                ((I ((x.1 / (List.getD l (Int.toNat x.2.1) (([] : List UInt8), (false, ((0 : Int), ())))).2.2.1), ((x.2.1 + (1 : Int)), ((x.2.2.1.1, ()), ((x.2.2.2.1.1, ()), ()))))) ∧
                ((μ ((x.1 / (List.getD l (Int.toNat x.2.1) (([] : List UInt8), (false, ((0 : Int), ())))).2.2.1), ((x.2.1 + (1 : Int)), ((x.2.2.1.1, ()), ((x.2.2.2.1.1, ()), ()))))) < (μ x))))))))))))) ∧
          (((decide (x.2.1 < (((List.length l) : Nat) : Int))) = false) →
            (R x.2.2.2.1.1))))))))))))
set_option maxRecDepth 1000000 in
theorem vc49_eq (l : (Ty.T (.sl (.st (.pair .str (.pair .bool (.pair (.int .i64) .unit))))))) (letter : (Ty.T (.int .i64))) (input : (Ty.T .bool)) (R : Ty.T (.int .i64) → Prop) : vcFn Tryd.prog cx49 6 49 Tryd.f49 [.d (.sl (.st (.pair .str (.pair .bool (.pair (.int .i64) .unit))))) l, .d (.int .i64) letter, .d .bool input] (.int .i64) R = vt49 l letter input R := by kernel_rfl
set_option maxRecDepth 1000000 in
theorem of49 (l : (Ty.T (.sl (.st (.pair .str (.pair .bool (.pair (.int .i64) .unit))))))) (letter : (Ty.T (.int .i64))) (input : (Ty.T .bool)) (r : Ty.T (.int .i64)) (h : ∀ R : Ty.T (.int .i64) → Prop, (∀ x, R x ↔ x = r) → WF (.sl (.st (.pair .str (.pair .bool (.pair (.int .i64) .unit))))) l → WF (.int .i64) letter → WF .bool input → 
    vt49 l letter input R) : CallP Tryd.prog tT 49 [.d (.sl (.st (.pair .str (.pair .bool (.pair (.int .i64) .unit))))) l, .d (.int .i64) letter, .d .bool input] (.int .i64) r :=
  callP_of (cx := cx49) (d := 6) mixed tab_ok inl_ok Tryd.func49 ⟨fun _ _ => by kernel_rfl⟩ rfl rfl fun wf => by rw [vc49_eq]; exact (h (fun x => x = r) (fun _ => Iff.rfl) (wf.1 rfl) (wf.2.1 rfl) (wf.2.2.1 rfl))
set_option maxRecDepth 1000000 in
theorem sf49 (l : (Ty.T (.sl (.st (.pair .str (.pair .bool (.pair (.int .i64) .unit))))))) (letter : (Ty.T (.int .i64))) (input : (Ty.T .bool)) (r : Ty.T (.int .i64)) (h : ∀ R : Ty.T (.int .i64) → Prop, (∀ x, R x ↔ x = r) → WF (.sl (.st (.pair .str (.pair .bool (.pair (.int .i64) .unit))))) l → WF (.int .i64) letter → WF .bool input → 
    (∃ r : Int,
    ((((0 : Int) ≤ letter) →
      CallP Tryd.prog tT (19 : Nat) [(AV.c (Cap.d (Ty.sl (Ty.st (Ty.pair Ty.str (Ty.pair Ty.bool (Ty.pair (Ty.int Go.IntKind.i64) Ty.unit))))) l))] (Ty.int Go.IntKind.i64) r) ∧
    ((((letter < (0 : Int)) ∨ (r ≤ letter)) →
      (R (0 : Int))) ∧
    (((0 : Int) ≤ letter) → (letter < r) →
      (∃ I : ((Int × (Int × ((Int × Unit) × ((Int × Unit) × Unit)))) → Prop),
      (∃ μ : ((Int × (Int × ((Int × Unit) × ((Int × Unit) × Unit)))) → Nat),
      ((I (letter, ((0 : Int), (((1 : Int), ()), (((0 : Int), ()), ()))))) ∧
      (∀ x : (Int × (Int × ((Int × Unit) × ((Int × Unit) × Unit)))),
      ((WF (Ty.int Go.IntKind.i64) x.1 ∧
        (WF (Ty.int Go.IntKind.i64) x.2.1 ∧
        (WF (Ty.pair (Ty.int Go.IntKind.i64) Ty.unit) x.2.2.1 ∧
        (WF (Ty.pair (Ty.int Go.IntKind.i64) Ty.unit) x.2.2.2.1 ∧
        True)))) →
        ((I x) →
          (((x.2.1 < (((List.length l) : Nat) : Int)) →
            (((0 : Int) ≤ x.2.1) ∧
            ((((0 : Int) ≤ x.1) ∧
            ((0 : Int) < (List.getD l (Int.toNat x.2.1) (([] : List UInt8), (false, ((0 : Int), ())))).2.2.1)) ∧
            (((((List.getD l (Int.toNat x.2.1) (([] : List UInt8), (false, ((0 : Int), ())))).2.1 == input) = true) →
              (inK Go.IntKind.i64 (x.2.2.1.1 * (x.1 % (List.getD l (Int.toNat x.2.1) (([] : List UInt8), (false, ((0 : Int), ())))).2.2.1)) ∧
              (inK Go.IntKind.i64 (x.2.2.2.1.1 + (x.2.2.1.1 * (x.1 % (List.getD l (Int.toNat x.2.1) (([] : List UInt8), (false, ((0 : Int), ())))).2.2.1))) ∧
              (inK Go.IntKind.i64 (x.2.2.1.1 * (List.getD l (Int.toNat x.2.1) (([] : List UInt8), (false, ((0 : Int), ())))).2.2.1) ∧
              (((true = false) →
                (R (x.2.2.2.1.1 + (x.2.2.1.1 * (x.1 % (List.getD l (Int.toNat x.2.1) (([] : List UInt8), (false, ((0 : Int), ())))).2.2.1))))) ∧
              ((true = true) →
                (inK Go.IntKind.i64 (x.2.1 + (1 : Int)) ∧
                ((I ((x.1 / (List.getD l (Int.toNat x.2.1) (([] : List UInt8), (false, ((0 : Int), ())))).2.2.1), ((x.2.1 + (1 : Int)), (((x.2.2.1.1 * (List.getD l (Int.toNat x.2.1) (([] : List UInt8), (false, ((0 : Int), ())))).2.2.1), ()), (((x.2.2.2.1.1 + (x.2.2.1.1 * (x.1 % (List.getD l (Int.toNat x.2.1) (([] : List UInt8), (false, ((0 : Int), ())))).2.2.1))), ()), ()))))) ∧
                ((μ ((x.1 / (List.getD l (Int.toNat x.2.1) (([] : List UInt8), (false, ((0 : Int), ())))).2.2.1), ((x.2.1 + (1 : Int)), (((x.2.2.1.1 * (List.getD l (Int.toNat x.2.1) (([] : List UInt8), (false, ((0 : Int), ())))).2.2.1), ()), (((x.2.2.2.1.1 + (x.2.2.1.1 * (x.1 % (List.getD l (Int.toNat x.2.1) (([] : List UInt8), (false, ((0 : Int), ())))).2.2.1))), ()), ()))))) < (μ x)))))))))) ∧
            ((((List.getD l (Int.toNat x.2.1) (([] : List UInt8), (false, ((0 : Int), ())))).2.1 == input) = false) →
              (((true = false) →
                (R x.2.2.2.1.1)) ∧
              ((true = true) →
                (inK Go.IntKind.i64 (x.2.1 + (1 : Int)) ∧
                ((I ((x.1 / (List.getD l (Int.toNat x.2.1) (([] : List UInt8), (false, ((0 : Int), ())))).2.2.1), ((x.2.1 + (1 : Int)), ((x.2.2.1.1, ()), ((x.2.2.2.1.1, ()), ()))))) ∧
                ((μ ((x.1 / (List.getD l (Int.toNat x.2.1) (([] : List UInt8), (false, ((0 : Int), ())))).2.2.1), ((x.2.1 + (1 : Int)), ((x.2.2.1.1, ()), ((x.2.2.2.1.1, ()), ()))))) < (μ x))))))))))) ∧
          (((((List.length l) : Nat) : Int) ≤ x.2.1) →
            (R x.2.2.2.1.1)))))))))))))) : CallP Tryd.prog tT 49 [.d (.sl (.st (.pair .str (.pair .bool (.pair (.int .i64) .unit))))) l, .d (.int .i64) letter, .d .bool input] (.int .i64) r :=
  of49 l letter input r fun R hR w0_ w1_ w2_ => have p := h R hR w0_ w1_ w2_
    (Exists.elim p fun r q1 => Exists.intro r ⟨(fun h7 => ⟨h7, (q1.1 (Int.not_lt.1 (of_decide_eq_false (bnot_t h7))))⟩), ⟨(fun h11 => ⟨h11, h11⟩), ⟨(fun h14 => (bnot_t2 h14)), ⟨(fun h20 => (q1.2.1 (Or.imp (fun h => (of_decide_eq_true h)) (fun h => (of_decide_eq_true h)) (selB_ot h20)))), (fun h22 => (Exists.elim (q1.2.2 (Int.not_lt.1 (of_decide_eq_false (selB_of h22).1)) (Int.not_le.1 (of_decide_eq_false (selB_of h22).2))) fun I q23 => Exists.intro I (Exists.elim q23 fun μ q24 => Exists.intro μ ⟨q24.1, (fun x => (fun h25 => (fun h26 => ⟨(fun h66 => ⟨⟨((((q24.2 x) h25) h26).1 (of_decide_eq_true h66)).1, (of_decide_eq_true h66)⟩, ⟨⟨((((q24.2 x) h25) h26).1 (of_decide_eq_true h66)).2.1.1, ((((q24.2 x) h25) h26).1 (of_decide_eq_true h66)).2.1.2⟩, ⟨⟨((((q24.2 x) h25) h26).1 (of_decide_eq_true h66)).1, (of_decide_eq_true h66)⟩, ⟨(fun h81 => ⟨(((((q24.2 x) h25) h26).1 (of_decide_eq_true h66)).2.2.1 h81).1, ⟨(((((q24.2 x) h25) h26).1 (of_decide_eq_true h66)).2.2.1 h81).2.1, ⟨⟨((((q24.2 x) h25) h26).1 (of_decide_eq_true h66)).1, (of_decide_eq_true h66)⟩, ⟨(((((q24.2 x) h25) h26).1 (of_decide_eq_true h66)).2.2.1 h81).2.2.1, ⟨(fun h87 => ((((((q24.2 x) h25) h26).1 (of_decide_eq_true h66)).2.2.1 h81).2.2.2.1 (bnot_t h87))), (fun h89 => ⟨⟨((((q24.2 x) h25) h26).1 (of_decide_eq_true h66)).2.1.1, ((((q24.2 x) h25) h26).1 (of_decide_eq_true h66)).2.1.2⟩, ⟨((((((q24.2 x) h25) h26).1 (of_decide_eq_true h66)).2.2.1 h81).2.2.2.2 (bnot_f h89)).1, ⟨((((((q24.2 x) h25) h26).1 (of_decide_eq_true h66)).2.2.1 h81).2.2.2.2 (bnot_f h89)).2.1, ((((((q24.2 x) h25) h26).1 (of_decide_eq_true h66)).2.2.1 h81).2.2.2.2 (bnot_f h89)).2.2⟩⟩⟩)⟩⟩⟩⟩⟩), (fun h92 => ⟨(fun h98 => ((((((q24.2 x) h25) h26).1 (of_decide_eq_true h66)).2.2.2 h92).1 (bnot_t h98))), (fun h100 => ⟨⟨((((q24.2 x) h25) h26).1 (of_decide_eq_true h66)).2.1.1, ((((q24.2 x) h25) h26).1 (of_decide_eq_true h66)).2.1.2⟩, ⟨((((((q24.2 x) h25) h26).1 (of_decide_eq_true h66)).2.2.2 h92).2 (bnot_f h100)).1, ⟨((((((q24.2 x) h25) h26).1 (of_decide_eq_true h66)).2.2.2 h92).2 (bnot_f h100)).2.1, ((((((q24.2 x) h25) h26).1 (of_decide_eq_true h66)).2.2.2 h92).2 (bnot_f h100)).2.2⟩⟩⟩)⟩)⟩⟩⟩⟩), (fun h102 => ((((q24.2 x) h25) h26).2 (Int.not_lt.1 (of_decide_eq_false h102))))⟩)))⟩)))⟩⟩⟩⟩)
/- foresight/foresightref01.half -/
def cx50 : Cx := { T := tT, own := ownT, frz := [], loops := [(500006, 215, ⟨[.val 8 (.int .i64), .val 9 (.int .i64), .val 10 (.int .i64)], 0⟩)], cuts := [], inl := inlT }
set_option maxRecDepth 1000000 in
theorem of50 (l : (Ty.T (.sl (.st (.pair .str (.pair .bool (.pair (.int .i64) .unit))))))) (letter : (Ty.T (.int .i64))) (input : (Ty.T .bool)) (r : Ty.T (.int .i64)) (h : ∀ R : Ty.T (.int .i64) → Prop, (∀ x, R x ↔ x = r) → WF (.sl (.st (.pair .str (.pair .bool (.pair (.int .i64) .unit))))) l → WF (.int .i64) letter → WF .bool input → 
    ∃ r : (List Int),
    (CallP Tryd.prog tT (48 : Nat) [(AV.c (Cap.d (Ty.sl (Ty.st (Ty.pair Ty.str (Ty.pair Ty.bool (Ty.pair (Ty.int Go.IntKind.i64) Ty.unit))))) l)), (AV.c (Cap.d (Ty.int Go.IntKind.i64) letter))] (Ty.sl (Ty.int Go.IntKind.i64)) r ∧
    ∃ I : ((Int × (Int × (Int × Unit))) → Prop),
    ∃ μ : ((Int × (Int × (Int × Unit))) → Nat),
    ((I ((0 : Int), ((1 : Int), ((0 : Int), ())))) ∧
    ∀ x : (Int × (Int × (Int × Unit))),
    ((WF (Ty.int Go.IntKind.i64) x.1 ∧
      (WF (Ty.int Go.IntKind.i64) x.2.1 ∧
      (WF (Ty.int Go.IntKind.i64) x.2.2.1 ∧
      True))) →
      ((I x) →
        ((((decide (x.2.2.1 < (((List.length r) : Nat) : Int))) = true) →
          ((((0 : Int) ≤ x.2.2.1) ∧
          (x.2.2.1 < (((List.length l) : Nat) : Int))) ∧
          (((((List.getD l (Int.toNat x.2.2.1) (([] : List UInt8), (false, ((0 : Int), ())))).2.1 == input) = true) →
            ((((0 : Int) ≤ x.2.2.1) ∧
            (x.2.2.1 < (((List.length r) : Nat) : Int))) ∧
            (inK Go.IntKind.i64 (x.2.1 * (List.getD r (Int.toNat x.2.2.1) (0 : Int))) ∧
            (inK Go.IntKind.i64 (x.1 + (x.2.1 * (List.getD r (Int.toNat x.2.2.1) (0 : Int)))) ∧
            ((((0 : Int) ≤ x.2.2.1) ∧
            (x.2.2.1 < (((List.length l) : Nat) : Int))) ∧
            (inK Go.IntKind.i64 (x.2.1 * (List.getD l (Int.toNat x.2.2.1) (([] : List UInt8), (false, ((0 : Int), ())))).2.2.1) ∧
            (inK Go.IntKind.i64 (x.2.2.1 + (1 : Int)) ∧
            ((I ((x.1 + (x.2.1 * (List.getD r (Int.toNat x.2.2.1) (0 : Int)))), ((x.2.1 * (List.getD l (Int.toNat x.2.2.1) (([] : List UInt8), (false, ((0 : Int), ())))).2.2.1), ((x.2.2.1 + (1 : Int)), ())))) ∧
            ((μ ((x.1 + (x.2.1 * (List.getD r (Int.toNat x.2.2.1) (0 : Int)))), ((x.2.1 * (List.getD l (Int.toNat x.2.2.1) (([] : List UInt8), (false, ((0 : Int), ())))).2.2.1), ((x.2.2.1 + (1 : Int)), ())))) < (μ x)))))))))) ∧
          ((((List.getD l (Int.toNat x.2.2.1) (([] : List UInt8), (false, ((0 : Int), ())))).2.1 == input) = false) →
            (inK Go.IntKind.i64 (x.2.2.1 + (1 : Int)) ∧
            ((I (x.1, (x.2.1, ((x.2.2.1 + (1 : Int)), ())))) ∧
            ((μ (x.1, (x.2.1, ((x.2.2.1 + (1 : Int)), ())))) < (μ x)))))))) ∧
        (((decide (x.2.2.1 < (((List.length r) : Nat) : Int))) = false) →
          (R x.1)))))))) : CallP Tryd.prog tT 50 [.d (.sl (.st (.pair .str (.pair .bool (.pair (.int .i64) .unit))))) l, .d (.int .i64) letter, .d .bool input] (.int .i64) r :=
  callP_of (cx := cx50) (d := 6) mixed tab_ok inl_ok Tryd.func50 ⟨fun _ _ => by kernel_rfl⟩ rfl rfl fun wf => Eq.mpr (by kernel_rfl) (h (fun x => x = r) (fun _ => Iff.rfl) (wf.1 rfl) (wf.2.1 rfl) (wf.2.2.1 rfl))
set_option maxRecDepth 1000000 in
theorem sf50 (l : (Ty.T (.sl (.st (.pair .str (.pair .bool (.pair (.int .i64) .unit))))))) (letter : (Ty.T (.int .i64))) (input : (Ty.T .bool)) (r : Ty.T (.int .i64)) (h : ∀ R : Ty.T (.int .i64) → Prop, (∀ x, R x ↔ x = r) → WF (.sl (.st (.pair .str (.pair .bool (.pair (.int .i64) .unit))))) l → WF (.int .i64) letter → WF .bool input → 
    (∃ r : (List Int),
    (CallP Tryd.prog tT (48 : Nat) [(AV.c (Cap.d (Ty.sl (Ty.st (Ty.pair Ty.str (Ty.pair Ty.bool (Ty.pair (Ty.int Go.IntKind.i64) Ty.unit))))) l)), (AV.c (Cap.d (Ty.int Go.IntKind.i64) letter))] (Ty.sl (Ty.int Go.IntKind.i64)) r ∧
    (∃ I : ((Int × (Int × (Int × Unit))) → Prop),
    (∃ μ : ((Int × (Int × (Int × Unit))) → Nat),
    ((I ((0 : Int), ((1 : Int), ((0 : Int), ())))) ∧
    (∀ x : (Int × (Int × (Int × Unit))),
    ((WF (Ty.int Go.IntKind.i64) x.1 ∧
      (WF (Ty.int Go.IntKind.i64) x.2.1 ∧
      (WF (Ty.int Go.IntKind.i64) x.2.2.1 ∧
      True))) →
      ((I x) →
        (((x.2.2.1 < (((List.length r) : Nat) : Int)) →
          ((((0 : Int) ≤ x.2.2.1) ∧
          (x.2.2.1 < (((List.length l) : Nat) : Int))) ∧
          (((((List.getD l (Int.toNat x.2.2.1) (([] : List UInt8), (false, ((0 : Int), ())))).2.1 == input) = true) →
            (inK Go.IntKind.i64 (x.2.1 * (List.getD r (Int.toNat x.2.2.1) (0 : Int))) ∧
            (inK Go.IntKind.i64 (x.1 + (x.2.1 * (List.getD r (Int.toNat x.2.2.1) (0 : Int)))) ∧
            (inK Go.IntKind.i64 (x.2.1 * (List.getD l (Int.toNat x.2.2.1) (([] : List UInt8), (false, ((0 : Int), ())))).2.2.1) ∧
            (inK Go.IntKind.i64 (x.2.2.1 + (1 : Int)) ∧
            ((I ((x.1 + (x.2.1 * (List.getD r (Int.toNat x.2.2.1) (0 : Int)))), ((x.2.1 * (List.getD l (Int.toNat x.2.2.1) (([] : List UInt8), (false, ((0 : Int), ())))).2.2.1), ((x.2.2.1 + (1 : Int)), ())))) ∧
            ((μ ((x.1 + (x.2.1 * (List.getD r (Int.toNat x.2.2.1) (0 : Int)))), ((x.2.1 * (List.getD l (Int.toNat x.2.2.1) (([] : List UInt8), (false, ((0 : Int), ())))).2.2.1), ((x.2.2.1 + (1 : Int)), ())))) < (μ x)))))))) ∧
          ((((List.getD l (Int.toNat x.2.2.1) (([] : List UInt8), (false, ((0 : Int), ())))).2.1 == input) = false) →
            (inK Go.IntKind.i64 (x.2.2.1 + (1 : Int)) ∧
            ((I (x.1, (x.2.1, ((x.2.2.1 + (1 : Int)), ())))) ∧
            ((μ (x.1, (x.2.1, ((x.2.2.1 + (1 : Int)), ())))) < (μ x)))))))) ∧
        (((((List.length r) : Nat) : Int) ≤ x.2.2.1) →
          (R x.1)))))))))))) : CallP Tryd.prog tT 50 [.d (.sl (.st (.pair .str (.pair .bool (.pair (.int .i64) .unit))))) l, .d (.int .i64) letter, .d .bool input] (.int .i64) r :=
  of50 l letter input r fun R hR w0_ w1_ w2_ => have p := h R hR w0_ w1_ w2_
    (Exists.elim p fun r q1 => Exists.intro r ⟨q1.1, (Exists.elim q1.2 fun I q2 => Exists.intro I (Exists.elim q2 fun μ q3 => Exists.intro μ ⟨q3.1, (fun x => (fun h4 => (fun h5 => ⟨(fun h19 => ⟨⟨((((q3.2 x) h4) h5).1 (of_decide_eq_true h19)).1.1, ((((q3.2 x) h4) h5).1 (of_decide_eq_true h19)).1.2⟩, ⟨(fun h25 => ⟨⟨((((q3.2 x) h4) h5).1 (of_decide_eq_true h19)).1.1, (of_decide_eq_true h19)⟩, ⟨(((((q3.2 x) h4) h5).1 (of_decide_eq_true h19)).2.1 h25).1, ⟨(((((q3.2 x) h4) h5).1 (of_decide_eq_true h19)).2.1 h25).2.1, ⟨⟨((((q3.2 x) h4) h5).1 (of_decide_eq_true h19)).1.1, ((((q3.2 x) h4) h5).1 (of_decide_eq_true h19)).1.2⟩, ⟨(((((q3.2 x) h4) h5).1 (of_decide_eq_true h19)).2.1 h25).2.2.1, ⟨(((((q3.2 x) h4) h5).1 (of_decide_eq_true h19)).2.1 h25).2.2.2.1, ⟨(((((q3.2 x) h4) h5).1 (of_decide_eq_true h19)).2.1 h25).2.2.2.2.1, (((((q3.2 x) h4) h5).1 (of_decide_eq_true h19)).2.1 h25).2.2.2.2.2⟩⟩⟩⟩⟩⟩⟩), (fun h27 => ⟨(((((q3.2 x) h4) h5).1 (of_decide_eq_true h19)).2.2 h27).1, ⟨(((((q3.2 x) h4) h5).1 (of_decide_eq_true h19)).2.2 h27).2.1, (((((q3.2 x) h4) h5).1 (of_decide_eq_true h19)).2.2 h27).2.2⟩⟩)⟩⟩), (fun h29 => ((((q3.2 x) h4) h5).2 (Int.not_lt.1 (of_decide_eq_false h29))))⟩)))⟩))⟩)
/- slices.Index[[]string,string] -/
def cx51 : Cx := { T := tT, own := ownT, frz := [], loops := [(510003, 38, ⟨[.val 8 (.int .i64)], 0⟩)], cuts := [], inl := inlT }
set_option maxRecDepth 1000000 in
theorem of51 (s : (Ty.T (.sl .str))) (v : (Ty.T .str)) (r : Ty.T (.int .i64)) (h : ∀ R : Ty.T (.int .i64) → Prop, (∀ x, R x ↔ x = r) → WF (.sl .str) s → WF .str v → 
    ∃ I : ((Int × Unit) → Prop),
    ∃ μ : ((Int × Unit) → Nat),
    ((I ((0 : Int), ())) ∧
    ∀ x : (Int × Unit),
    ((WF (Ty.int Go.IntKind.i64) x.1 ∧
      True) →
      ((I x) →
        ((((decide (x.1 < (((List.length s) : Nat) : Int))) = true) →
          ((((0 : Int) ≤ x.1) ∧
          (x.1 < (((List.length s) : Nat) : Int))) ∧
          ((((decide (v = (List.getD s (Int.toNat x.1) ([] : List UInt8)))) = true) →
            (R x.1)) ∧
          (((decide (v = (List.getD s (Int.toNat x.1) ([] : List UInt8)))) = false) →
            (inK Go.IntKind.i64 (x.1 + (1 : Int)) ∧
            ((I ((x.1 + (1 : Int)), ())) ∧
            ((μ ((x.1 + (1 : Int)), ())) < (μ x)))))))) ∧
        (((decide (x.1 < (((List.length s) : Nat) : Int))) = false) →
          (R (-(1 : Int))))))))) : CallP Tryd.prog tT 51 [.d (.sl .str) s, .d .str v] (.int .i64) r :=
  callP_of (cx := cx51) (d := 6) mixed tab_ok inl_ok Tryd.func51 ⟨fun _ _ => by kernel_rfl⟩ rfl rfl fun wf => Eq.mpr (by kernel_rfl) (h (fun x => x = r) (fun _ => Iff.rfl) (wf.1 rfl) (wf.2.1 rfl))
set_option maxRecDepth 1000000 in
theorem sf51 (s : (Ty.T (.sl .str))) (v : (Ty.T .str)) (r : Ty.T (.int .i64)) (h : ∀ R : Ty.T (.int .i64) → Prop, (∀ x, R x ↔ x = r) → WF (.sl .str) s → WF .str v → 
    (∃ I : ((Int × Unit) → Prop),
    (∃ μ : ((Int × Unit) → Nat),
    ((I ((0 : Int), ())) ∧
    (∀ x : (Int × Unit),
    ((WF (Ty.int Go.IntKind.i64) x.1 ∧
      True) →
      ((I x) →
        (((x.1 < (((List.length s) : Nat) : Int)) →
          (((0 : Int) ≤ x.1) ∧
          (((v = (List.getD s (Int.toNat x.1) ([] : List UInt8))) →
            (R x.1)) ∧
          ((¬ (v = (List.getD s (Int.toNat x.1) ([] : List UInt8)))) →
            (inK Go.IntKind.i64 (x.1 + (1 : Int)) ∧
            ((I ((x.1 + (1 : Int)), ())) ∧
            ((μ ((x.1 + (1 : Int)), ())) < (μ x)))))))) ∧
        (((((List.length s) : Nat) : Int) ≤ x.1) →
          (R (-(1 : Int)))))))))))) : CallP Tryd.prog tT 51 [.d (.sl .str) s, .d .str v] (.int .i64) r :=
  of51 s v r fun R hR w0_ w1_ => have p := h R hR w0_ w1_
    (Exists.elim p fun I q1 => Exists.intro I (Exists.elim q1 fun μ q2 => Exists.intro μ ⟨q2.1, (fun x => (fun h3 => (fun h4 => ⟨(fun h18 => ⟨⟨((((q2.2 x) h3) h4).1 (of_decide_eq_true h18)).1, (of_decide_eq_true h18)⟩, ⟨(fun h24 => (((((q2.2 x) h3) h4).1 (of_decide_eq_true h18)).2.1 (of_decide_eq_true h24))), (fun h26 => ⟨(((((q2.2 x) h3) h4).1 (of_decide_eq_true h18)).2.2 (of_decide_eq_false h26)).1, ⟨(((((q2.2 x) h3) h4).1 (of_decide_eq_true h18)).2.2 (of_decide_eq_false h26)).2.1, (((((q2.2 x) h3) h4).1 (of_decide_eq_true h18)).2.2 (of_decide_eq_false h26)).2.2⟩⟩)⟩⟩), (fun h28 => ((((q2.2 x) h3) h4).2 (Int.not_lt.1 (of_decide_eq_false h28))))⟩)))⟩))
/- foresight/foresightlaw01.head -/
def cx9 : Cx := { T := tT, own := ownT, frz := [], loops := [], cuts := [], inl := inlT }
set_option maxRecDepth 1000000 in
theorem of9  (r : Ty.T .bool) (h : ∀ R : Ty.T .bool → Prop, (∀ x, R x ↔ x = r) → 
    ∃ r : (List ((List UInt8) × (Bool × (Int × Unit)))),
    (CallP Tryd.prog tT (35 : Nat) [] (Ty.sl (Ty.st (Ty.pair Ty.str (Ty.pair Ty.bool (Ty.pair (Ty.int Go.IntKind.i64) Ty.unit))))) r ∧
    ∃ r1 : (Int × (Bool × Unit)),
    (CallP Tryd.prog tT (11 : Nat) [(AV.c (Cap.d (Ty.sl (Ty.st (Ty.pair Ty.str (Ty.pair Ty.bool (Ty.pair (Ty.int Go.IntKind.i64) Ty.unit))))) r)), (AV.c (Cap.d (Ty.sl (Ty.int Go.IntKind.i64)) [(1 : Int), (2 : Int), (1 : Int)]))] (Ty.tup (Ty.pair (Ty.int Go.IntKind.i64) (Ty.pair Ty.bool Ty.unit))) r1 ∧
    ∃ r2 : (Int × (Bool × Unit)),
    (CallP Tryd.prog tT (11 : Nat) [(AV.c (Cap.d (Ty.sl (Ty.st (Ty.pair Ty.str (Ty.pair Ty.bool (Ty.pair (Ty.int Go.IntKind.i64) Ty.unit))))) r)), (AV.c (Cap.d (Ty.sl (Ty.int Go.IntKind.i64)) [(2 : Int), (0 : Int), (0 : Int)]))] (Ty.tup (Ty.pair (Ty.int Go.IntKind.i64) (Ty.pair Ty.bool Ty.unit))) r2 ∧
    ∃ r3 : Bool,
    (CallP Tryd.prog tT (13 : Nat) [(AV.c (Cap.d (Ty.sl (Ty.st (Ty.pair Ty.str (Ty.pair Ty.bool (Ty.pair (Ty.int Go.IntKind.i64) Ty.unit))))) r))] Ty.bool r3 ∧
    ∃ r4 : Int,
    (((r3 = true) →
      ((r3 = true) ∧
      CallP Tryd.prog tT (19 : Nat) [(AV.c (Cap.d (Ty.sl (Ty.st (Ty.pair Ty.str (Ty.pair Ty.bool (Ty.pair (Ty.int Go.IntKind.i64) Ty.unit))))) r))] (Ty.int Go.IntKind.i64) r4)) ∧
    (((r3 = true) →
      (r3 = true)) ∧
    (((r3 = true) →
      (r3 = true)) ∧
    ∃ r5 : Int,
    ((((selB r3 (decide (r4 = (12 : Int))) false) = true) →
      (((selB r3 (decide (r4 = (12 : Int))) false) = true) ∧
      CallP Tryd.prog tT (21 : Nat) [(AV.c (Cap.d (Ty.sl (Ty.st (Ty.pair Ty.str (Ty.pair Ty.bool (Ty.pair (Ty.int Go.IntKind.i64) Ty.unit))))) r))] (Ty.int Go.IntKind.i64) r5)) ∧
    ((((selB r3 (decide (r4 = (12 : Int))) false) = true) →
      ((selB r3 (decide (r4 = (12 : Int))) false) = true)) ∧
    ((((selB r3 (decide (r4 = (12 : Int))) false) = true) →
      ((selB r3 (decide (r4 = (12 : Int))) false) = true)) ∧
    ∃ r6 : Int,
    ((((selB (selB r3 (decide (r4 = (12 : Int))) false) (decide (r5 = (4 : Int))) false) = true) →
      (((selB (selB r3 (decide (r4 = (12 : Int))) false) (decide (r5 = (4 : Int))) false) = true) ∧
      CallP Tryd.prog tT (23 : Nat) [(AV.c (Cap.d (Ty.sl (Ty.st (Ty.pair Ty.str (Ty.pair Ty.bool (Ty.pair (Ty.int Go.IntKind.i64) Ty.unit))))) r))] (Ty.int Go.IntKind.i64) r6)) ∧
    ((((selB (selB r3 (decide (r4 = (12 : Int))) false) (decide (r5 = (4 : Int))) false) = true) →
      ((selB (selB r3 (decide (r4 = (12 : Int))) false) (decide (r5 = (4 : Int))) false) = true)) ∧
    ((((selB (selB r3 (decide (r4 = (12 : Int))) false) (decide (r5 = (4 : Int))) false) = true) →
      ((selB (selB r3 (decide (r4 = (12 : Int))) false) (decide (r5 = (4 : Int))) false) = true)) ∧
    ((((selB (selB (selB r3 (decide (r4 = (12 : Int))) false) (decide (r5 = (4 : Int))) false) (decide (r6 = (3 : Int))) false) = true) →
      ((selB (selB (selB r3 (decide (r4 = (12 : Int))) false) (decide (r5 = (4 : Int))) false) (decide (r6 = (3 : Int))) false) = true)) ∧
    ((((selB (selB (selB r3 (decide (r4 = (12 : Int))) false) (decide (r5 = (4 : Int))) false) (decide (r6 = (3 : Int))) false) = true) →
      ((selB (selB (selB r3 (decide (r4 = (12 : Int))) false) (decide (r5 = (4 : Int))) false) (decide (r6 = (3 : Int))) false) = true)) ∧
    ((((selB (selB (selB (selB r3 (decide (r4 = (12 : Int))) false) (decide (r5 = (4 : Int))) false) (decide (r6 = (3 : Int))) false) (decide (r1.1 = (11 : Int))) false) = true) →
      ((selB (selB (selB (selB r3 (decide (r4 = (12 : Int))) false) (decide (r5 = (4 : Int))) false) (decide (r6 = (3 : Int))) false) (decide (r1.1 = (11 : Int))) false) = true)) ∧
    ((((selB (selB (selB (selB (selB r3 (decide (r4 = (12 : Int))) false) (decide (r5 = (4 : Int))) false) (decide (r6 = (3 : Int))) false) (decide (r1.1 = (11 : Int))) false) r1.2.1 false) = true) →
      ((selB (selB (selB (selB (selB r3 (decide (r4 = (12 : Int))) false) (decide (r5 = (4 : Int))) false) (decide (r6 = (3 : Int))) false) (decide (r1.1 = (11 : Int))) false) r1.2.1 false) = true)) ∧
    ((((selB (selB (selB (selB (selB r3 (decide (r4 = (12 : Int))) false) (decide (r5 = (4 : Int))) false) (decide (r6 = (3 : Int))) false) (decide (r1.1 = (11 : Int))) false) r1.2.1 false) = true) →
      ((selB (selB (selB (selB (selB r3 (decide (r4 = (12 : Int))) false) (decide (r5 = (4 : Int))) false) (decide (r6 = (3 : Int))) false) (decide (r1.1 = (11 : Int))) false) r1.2.1 false) = true)) ∧
    ∃ r7 : Int,
    ((((selB (selB (selB (selB (selB (selB r3 (decide (r4 = (12 : Int))) false) (decide (r5 = (4 : Int))) false) (decide (r6 = (3 : Int))) false) (decide (r1.1 = (11 : Int))) false) r1.2.1 false) (!r2.2.1) false) = true) →
      (((selB (selB (selB (selB (selB (selB r3 (decide (r4 = (12 : Int))) false) (decide (r5 = (4 : Int))) false) (decide (r6 = (3 : Int))) false) (decide (r1.1 = (11 : Int))) false) r1.2.1 false) (!r2.2.1) false) = true) ∧
      CallP Tryd.prog tT (27 : Nat) [(AV.c (Cap.d (Ty.sl (Ty.st (Ty.pair Ty.str (Ty.pair Ty.bool (Ty.pair (Ty.int Go.IntKind.i64) Ty.unit))))) r)), (AV.c (Cap.d (Ty.int Go.IntKind.i64) (11 : Int)))] (Ty.int Go.IntKind.i64) r7)) ∧
    ((((selB (selB (selB (selB (selB (selB r3 (decide (r4 = (12 : Int))) false) (decide (r5 = (4 : Int))) false) (decide (r6 = (3 : Int))) false) (decide (r1.1 = (11 : Int))) false) r1.2.1 false) (!r2.2.1) false) = true) →
      ((selB (selB (selB (selB (selB (selB r3 (decide (r4 = (12 : Int))) false) (decide (r5 = (4 : Int))) false) (decide (r6 = (3 : Int))) false) (decide (r1.1 = (11 : Int))) false) r1.2.1 false) (!r2.2.1) false) = true)) ∧
    ((((selB (selB (selB (selB (selB (selB r3 (decide (r4 = (12 : Int))) false) (decide (r5 = (4 : Int))) false) (decide (r6 = (3 : Int))) false) (decide (r1.1 = (11 : Int))) false) r1.2.1 false) (!r2.2.1) false) = true) →
      ((selB (selB (selB (selB (selB (selB r3 (decide (r4 = (12 : Int))) false) (decide (r5 = (4 : Int))) false) (decide (r6 = (3 : Int))) false) (decide (r1.1 = (11 : Int))) false) r1.2.1 false) (!r2.2.1) false) = true)) ∧
    ∃ r8 : Int,
    ((((selB (selB (selB (selB (selB (selB (selB r3 (decide (r4 = (12 : Int))) false) (decide (r5 = (4 : Int))) false) (decide (r6 = (3 : Int))) false) (decide (r1.1 = (11 : Int))) false) r1.2.1 false) (!r2.2.1) false) (decide (r7 = (3 : Int))) false) = true) →
      (((selB (selB (selB (selB (selB (selB (selB r3 (decide (r4 = (12 : Int))) false) (decide (r5 = (4 : Int))) false) (decide (r6 = (3 : Int))) false) (decide (r1.1 = (11 : Int))) false) r1.2.1 false) (!r2.2.1) false) (decide (r7 = (3 : Int))) false) = true) ∧
      CallP Tryd.prog tT (29 : Nat) [(AV.c (Cap.d (Ty.sl (Ty.st (Ty.pair Ty.str (Ty.pair Ty.bool (Ty.pair (Ty.int Go.IntKind.i64) Ty.unit))))) r)), (AV.c (Cap.d (Ty.int Go.IntKind.i64) (11 : Int)))] (Ty.int Go.IntKind.i64) r8)) ∧
    ((((selB (selB (selB (selB (selB (selB (selB r3 (decide (r4 = (12 : Int))) false) (decide (r5 = (4 : Int))) false) (decide (r6 = (3 : Int))) false) (decide (r1.1 = (11 : Int))) false) r1.2.1 false) (!r2.2.1) false) (decide (r7 = (3 : Int))) false) = true) →
      ((selB (selB (selB (selB (selB (selB (selB r3 (decide (r4 = (12 : Int))) false) (decide (r5 = (4 : Int))) false) (decide (r6 = (3 : Int))) false) (decide (r1.1 = (11 : Int))) false) r1.2.1 false) (!r2.2.1) false) (decide (r7 = (3 : Int))) false) = true)) ∧
    ((((selB (selB (selB (selB (selB (selB (selB r3 (decide (r4 = (12 : Int))) false) (decide (r5 = (4 : Int))) false) (decide (r6 = (3 : Int))) false) (decide (r1.1 = (11 : Int))) false) r1.2.1 false) (!r2.2.1) false) (decide (r7 = (3 : Int))) false) = true) →
      ((selB (selB (selB (selB (selB (selB (selB r3 (decide (r4 = (12 : Int))) false) (decide (r5 = (4 : Int))) false) (decide (r6 = (3 : Int))) false) (decide (r1.1 = (11 : Int))) false) r1.2.1 false) (!r2.2.1) false) (decide (r7 = (3 : Int))) false) = true)) ∧
    ∃ r9 : Int,
    (CallP Tryd.prog tT (31 : Nat) [(AV.c (Cap.d (Ty.sl (Ty.st (Ty.pair Ty.str (Ty.pair Ty.bool (Ty.pair (Ty.int Go.IntKind.i64) Ty.unit))))) r)), (AV.c (Cap.d (Ty.int Go.IntKind.i64) (2 : Int))), (AV.c (Cap.d (Ty.int Go.IntKind.i64) (1 : Int)))] (Ty.int Go.IntKind.i64) r9 ∧
    ∃ r10 : Int,
    ((((decide (r9 = (8 : Int))) = true) →
      (((decide (r9 = (8 : Int))) = true) ∧
      CallP Tryd.prog tT (25 : Nat) [(AV.c (Cap.d (Ty.sl (Ty.st (Ty.pair Ty.str (Ty.pair Ty.bool (Ty.pair (Ty.int Go.IntKind.i64) Ty.unit))))) r)), (AV.c (Cap.d (Ty.int Go.IntKind.i64) (8 : Int))), (AV.c (Cap.d (Ty.int Go.IntKind.i64) (2 : Int)))] (Ty.int Go.IntKind.i64) r10)) ∧
    ((((decide (r9 = (8 : Int))) = true) →
      ((decide (r9 = (8 : Int))) = true)) ∧
    ((((decide (r9 = (8 : Int))) = true) →
      ((decide (r9 = (8 : Int))) = true)) ∧
    ∃ r11 : Int,
    ((((selB (decide (r9 = (8 : Int))) (decide (r10 = (1 : Int))) false) = true) →
      (((selB (decide (r9 = (8 : Int))) (decide (r10 = (1 : Int))) false) = true) ∧
      CallP Tryd.prog tT (25 : Nat) [(AV.c (Cap.d (Ty.sl (Ty.st (Ty.pair Ty.str (Ty.pair Ty.bool (Ty.pair (Ty.int Go.IntKind.i64) Ty.unit))))) r)), (AV.c (Cap.d (Ty.int Go.IntKind.i64) (12 : Int))), (AV.c (Cap.d (Ty.int Go.IntKind.i64) (0 : Int)))] (Ty.int Go.IntKind.i64) r11)) ∧
    ((((selB (decide (r9 = (8 : Int))) (decide (r10 = (1 : Int))) false) = true) →
      ((selB (decide (r9 = (8 : Int))) (decide (r10 = (1 : Int))) false) = true)) ∧
    ((((selB (decide (r9 = (8 : Int))) (decide (r10 = (1 : Int))) false) = true) →
      ((selB (decide (r9 = (8 : Int))) (decide (r10 = (1 : Int))) false) = true)) ∧
    ∃ r12 : Int,
    ((((selB (selB (decide (r9 = (8 : Int))) (decide (r10 = (1 : Int))) false) (decide (r11 = (0 : Int))) false) = true) →
      (((selB (selB (decide (r9 = (8 : Int))) (decide (r10 = (1 : Int))) false) (decide (r11 = (0 : Int))) false) = true) ∧
      CallP Tryd.prog tT (17 : Nat) [(AV.c (Cap.d (Ty.sl (Ty.st (Ty.pair Ty.str (Ty.pair Ty.bool (Ty.pair (Ty.int Go.IntKind.i64) Ty.unit))))) r)), (AV.c (Cap.d Ty.str [(115 : UInt8)]))] (Ty.int Go.IntKind.i64) r12)) ∧
    ((((selB (selB (decide (r9 = (8 : Int))) (decide (r10 = (1 : Int))) false) (decide (r11 = (0 : Int))) false) = true) →
      ((selB (selB (decide (r9 = (8 : Int))) (decide (r10 = (1 : Int))) false) (decide (r11 = (0 : Int))) false) = true)) ∧
    ((((selB (selB (decide (r9 = (8 : Int))) (decide (r10 = (1 : Int))) false) (decide (r11 = (0 : Int))) false) = true) →
      ((selB (selB (decide (r9 = (8 : Int))) (decide (r10 = (1 : Int))) false) (decide (r11 = (0 : Int))) false) = true)) ∧
    ∃ r13 : Int,
    ((((selB (selB (selB (decide (r9 = (8 : Int))) (decide (r10 = (1 : Int))) false) (decide (r11 = (0 : Int))) false) (decide (r12 = (2 : Int))) false) = true) →
      (((selB (selB (selB (decide (r9 = (8 : Int))) (decide (r10 = (1 : Int))) false) (decide (r11 = (0 : Int))) false) (decide (r12 = (2 : Int))) false) = true) ∧
      CallP Tryd.prog tT (17 : Nat) [(AV.c (Cap.d (Ty.sl (Ty.st (Ty.pair Ty.str (Ty.pair Ty.bool (Ty.pair (Ty.int Go.IntKind.i64) Ty.unit))))) r)), (AV.c (Cap.d Ty.str [(113 : UInt8)]))] (Ty.int Go.IntKind.i64) r13)) ∧
    ((((selB (selB (selB (decide (r9 = (8 : Int))) (decide (r10 = (1 : Int))) false) (decide (r11 = (0 : Int))) false) (decide (r12 = (2 : Int))) false) = true) →
      ((selB (selB (selB (decide (r9 = (8 : Int))) (decide (r10 = (1 : Int))) false) (decide (r11 = (0 : Int))) false) (decide (r12 = (2 : Int))) false) = true)) ∧
    ((((selB (selB (selB (decide (r9 = (8 : Int))) (decide (r10 = (1 : Int))) false) (decide (r11 = (0 : Int))) false) (decide (r12 = (2 : Int))) false) = true) →
      ((selB (selB (selB (decide (r9 = (8 : Int))) (decide (r10 = (1 : Int))) false) (decide (r11 = (0 : Int))) false) (decide (r12 = (2 : Int))) false) = true)) ∧
    ∃ r14 : Bool,
    ((((selB (selB (selB (selB (decide (r9 = (8 : Int))) (decide (r10 = (1 : Int))) false) (decide (r11 = (0 : Int))) false) (decide (r12 = (2 : Int))) false) (decide (r13 = (-(1 : Int)))) false) = true) →
      CallP Tryd.prog tT (13 : Nat) [(AV.c (Cap.d (Ty.sl (Ty.st (Ty.pair Ty.str (Ty.pair Ty.bool (Ty.pair (Ty.int Go.IntKind.i64) Ty.unit))))) ([] : List ((List UInt8) × (Bool × (Int × Unit))))))] Ty.bool r14) ∧
    ((((selB (selB (selB (selB (decide (r9 = (8 : Int))) (decide (r10 = (1 : Int))) false) (decide (r11 = (0 : Int))) false) (decide (r12 = (2 : Int))) false) (decide (r13 = (-(1 : Int)))) false) = true) →
      ((selB (selB (selB (selB (decide (r9 = (8 : Int))) (decide (r10 = (1 : Int))) false) (decide (r11 = (0 : Int))) false) (decide (r12 = (2 : Int))) false) (decide (r13 = (-(1 : Int)))) false) = true)) ∧
    ((((selB (selB (selB (selB (decide (r9 = (8 : Int))) (decide (r10 = (1 : Int))) false) (decide (r11 = (0 : Int))) false) (decide (r12 = (2 : Int))) false) (decide (r13 = (-(1 : Int)))) false) = true) →
      ((selB (selB (selB (selB (decide (r9 = (8 : Int))) (decide (r10 = (1 : Int))) false) (decide (r11 = (0 : Int))) false) (decide (r12 = (2 : Int))) false) (decide (r13 = (-(1 : Int)))) false) = true)) ∧
    ((((selB (selB (selB (selB (selB (decide (r9 = (8 : Int))) (decide (r10 = (1 : Int))) false) (decide (r11 = (0 : Int))) false) (decide (r12 = (2 : Int))) false) (decide (r13 = (-(1 : Int)))) false) (!r14) false) = true) →
      ((selB (selB (selB (selB (selB (decide (r9 = (8 : Int))) (decide (r10 = (1 : Int))) false) (decide (r11 = (0 : Int))) false) (decide (r12 = (2 : Int))) false) (decide (r13 = (-(1 : Int)))) false) (!r14) false) = true)) ∧
    ∃ r15 : Bool,
    ((((selB (selB (selB (selB (selB (decide (r9 = (8 : Int))) (decide (r10 = (1 : Int))) false) (decide (r11 = (0 : Int))) false) (decide (r12 = (2 : Int))) false) (decide (r13 = (-(1 : Int)))) false) (!r14) false) = true) →
      (((selB (selB (selB (selB (selB (decide (r9 = (8 : Int))) (decide (r10 = (1 : Int))) false) (decide (r11 = (0 : Int))) false) (decide (r12 = (2 : Int))) false) (decide (r13 = (-(1 : Int)))) false) (!r14) false) = true) ∧
      CallP Tryd.prog tT (13 : Nat) [(AV.c (Cap.d (Ty.sl (Ty.st (Ty.pair Ty.str (Ty.pair Ty.bool (Ty.pair (Ty.int Go.IntKind.i64) Ty.unit))))) [([(116 : UInt8), (114 : UInt8), (117 : UInt8), (101 : UInt8)], (false, ((2 : Int), ())))]))] Ty.bool r15)) ∧
    ((((selB (selB (selB (selB (selB (decide (r9 = (8 : Int))) (decide (r10 = (1 : Int))) false) (decide (r11 = (0 : Int))) false) (decide (r12 = (2 : Int))) false) (decide (r13 = (-(1 : Int)))) false) (!r14) false) = true) →
      ((selB (selB (selB (selB (selB (decide (r9 = (8 : Int))) (decide (r10 = (1 : Int))) false) (decide (r11 = (0 : Int))) false) (decide (r12 = (2 : Int))) false) (decide (r13 = (-(1 : Int)))) false) (!r14) false) = true)) ∧
    ((((selB (selB (selB (selB (selB (decide (r9 = (8 : Int))) (decide (r10 = (1 : Int))) false) (decide (r11 = (0 : Int))) false) (decide (r12 = (2 : Int))) false) (decide (r13 = (-(1 : Int)))) false) (!r14) false) = true) →
      ((selB (selB (selB (selB (selB (decide (r9 = (8 : Int))) (decide (r10 = (1 : Int))) false) (decide (r11 = (0 : Int))) false) (decide (r12 = (2 : Int))) false) (decide (r13 = (-(1 : Int)))) false) (!r14) false) = true)) ∧
    ((((selB (selB (selB (selB (selB (selB (selB (selB r3 (decide (r4 = (12 : Int))) false) (decide (r5 = (4 : Int))) false) (decide (r6 = (3 : Int))) false) (decide (r1.1 = (11 : Int))) false) r1.2.1 false) (!r2.2.1) false) (decide (r7 = (3 : Int))) false) (decide (r8 = (2 : Int))) false) = true) →
      ((selB (selB (selB (selB (selB (selB (selB (selB r3 (decide (r4 = (12 : Int))) false) (decide (r5 = (4 : Int))) false) (decide (r6 = (3 : Int))) false) (decide (r1.1 = (11 : Int))) false) r1.2.1 false) (!r2.2.1) false) (decide (r7 = (3 : Int))) false) (decide (r8 = (2 : Int))) false) = true)) ∧
    ∃ r16 : Bool,
    ((((selB (selB (selB (selB (selB (selB (selB (selB (selB r3 (decide (r4 = (12 : Int))) false) (decide (r5 = (4 : Int))) false) (decide (r6 = (3 : Int))) false) (decide (r1.1 = (11 : Int))) false) r1.2.1 false) (!r2.2.1) false) (decide (r7 = (3 : Int))) false) (decide (r8 = (2 : Int))) false) (selB (selB (selB (selB (selB (selB (decide (r9 = (8 : Int))) (decide (r10 = (1 : Int))) false) (decide (r11 = (0 : Int))) false) (decide (r12 = (2 : Int))) false) (decide (r13 = (-(1 : Int)))) false) (!r14) false) (!r15) false) false) = true) →
      CallP Tryd.prog tT (15 : Nat) [(AV.c (Cap.d Ty.str [(97 : UInt8), (95 : UInt8), (49 : UInt8)]))] Ty.bool r16) ∧
    ((((selB (selB (selB (selB (selB (selB (selB (selB (selB r3 (decide (r4 = (12 : Int))) false) (decide (r5 = (4 : Int))) false) (decide (r6 = (3 : Int))) false) (decide (r1.1 = (11 : Int))) false) r1.2.1 false) (!r2.2.1) false) (decide (r7 = (3 : Int))) false) (decide (r8 = (2 : Int))) false) (selB (selB (selB (selB (selB (selB (decide (r9 = (8 : Int))) (decide (r10 = (1 : Int))) false) (decide (r11 = (0 : Int))) false) (decide (r12 = (2 : Int))) false) (decide (r13 = (-(1 : Int)))) false) (!r14) false) (!r15) false) false) = true) →
      ((selB (selB (selB (selB (selB (selB (selB (selB (selB r3 (decide (r4 = (12 : Int))) false) (decide (r5 = (4 : Int))) false) (decide (r6 = (3 : Int))) false) (decide (r1.1 = (11 : Int))) false) r1.2.1 false) (!r2.2.1) false) (decide (r7 = (3 : Int))) false) (decide (r8 = (2 : Int))) false) (selB (selB (selB (selB (selB (selB (decide (r9 = (8 : Int))) (decide (r10 = (1 : Int))) false) (decide (r11 = (0 : Int))) false) (decide (r12 = (2 : Int))) false) (decide (r13 = (-(1 : Int)))) false) (!r14) false) (!r15) false) false) = true)) ∧
    ∃ r17 : Bool,
    ((((selB (selB (selB (selB (selB (selB (selB (selB (selB (selB r3 (decide (r4 = (12 : Int))) false) (decide (r5 = (4 : Int))) false) (decide (r6 = (3 : Int))) false) (decide (r1.1 = (11 : Int))) false) r1.2.1 false) (!r2.2.1) false) (decide (r7 = (3 : Int))) false) (decide (r8 = (2 : Int))) false) (selB (selB (selB (selB (selB (selB (decide (r9 = (8 : Int))) (decide (r10 = (1 : Int))) false) (decide (r11 = (0 : Int))) false) (decide (r12 = (2 : Int))) false) (decide (r13 = (-(1 : Int)))) false) (!r14) false) (!r15) false) false) r16 false) = true) →
      CallP Tryd.prog tT (15 : Nat) [(AV.c (Cap.d Ty.str [(65 : UInt8)]))] Ty.bool r17) ∧
    ((((selB (selB (selB (selB (selB (selB (selB (selB (selB (selB r3 (decide (r4 = (12 : Int))) false) (decide (r5 = (4 : Int))) false) (decide (r6 = (3 : Int))) false) (decide (r1.1 = (11 : Int))) false) r1.2.1 false) (!r2.2.1) false) (decide (r7 = (3 : Int))) false) (decide (r8 = (2 : Int))) false) (selB (selB (selB (selB (selB (selB (decide (r9 = (8 : Int))) (decide (r10 = (1 : Int))) false) (decide (r11 = (0 : Int))) false) (decide (r12 = (2 : Int))) false) (decide (r13 = (-(1 : Int)))) false) (!r14) false) (!r15) false) false) r16 false) = true) →
      ((selB (selB (selB (selB (selB (selB (selB (selB (selB (selB r3 (decide (r4 = (12 : Int))) false) (decide (r5 = (4 : Int))) false) (decide (r6 = (3 : Int))) false) (decide (r1.1 = (11 : Int))) false) r1.2.1 false) (!r2.2.1) false) (decide (r7 = (3 : Int))) false) (decide (r8 = (2 : Int))) false) (selB (selB (selB (selB (selB (selB (decide (r9 = (8 : Int))) (decide (r10 = (1 : Int))) false) (decide (r11 = (0 : Int))) false) (decide (r12 = (2 : Int))) false) (decide (r13 = (-(1 : Int)))) false) (!r14) false) (!r15) false) false) r16 false) = true)) ∧
    ((((selB (selB (selB (selB (selB (selB (selB (selB (selB (selB r3 (decide (r4 = (12 : Int))) false) (decide (r5 = (4 : Int))) false) (decide (r6 = (3 : Int))) false) (decide (r1.1 = (11 : Int))) false) r1.2.1 false) (!r2.2.1) false) (decide (r7 = (3 : Int))) false) (decide (r8 = (2 : Int))) false) (selB (selB (selB (selB (selB (selB (decide (r9 = (8 : Int))) (decide (r10 = (1 : Int))) false) (decide (r11 = (0 : Int))) false) (decide (r12 = (2 : Int))) false) (decide (r13 = (-(1 : Int)))) false) (!r14) false) (!r15) false) false) r16 false) = true) →
      ((selB (selB (selB (selB (selB (selB (selB (selB (selB (selB r3 (decide (r4 = (12 : Int))) false) (decide (r5 = (4 : Int))) false) (decide (r6 = (3 : Int))) false) (decide (r1.1 = (11 : Int))) false) r1.2.1 false) (!r2.2.1) false) (decide (r7 = (3 : Int))) false) (decide (r8 = (2 : Int))) false) (selB (selB (selB (selB (selB (selB (decide (r9 = (8 : Int))) (decide (r10 = (1 : Int))) false) (decide (r11 = (0 : Int))) false) (decide (r12 = (2 : Int))) false) (decide (r13 = (-(1 : Int)))) false) (!r14) false) (!r15) false) false) r16 false) = true)) ∧
    ∃ r18 : Bool,
    ((((selB (selB (selB (selB (selB (selB (selB (selB (selB (selB (selB r3 (decide (r4 = (12 : Int))) false) (decide (r5 = (4 : Int))) false) (decide (r6 = (3 : Int))) false) (decide (r1.1 = (11 : Int))) false) r1.2.1 false) (!r2.2.1) false) (decide (r7 = (3 : Int))) false) (decide (r8 = (2 : Int))) false) (selB (selB (selB (selB (selB (selB (decide (r9 = (8 : Int))) (decide (r10 = (1 : Int))) false) (decide (r11 = (0 : Int))) false) (decide (r12 = (2 : Int))) false) (decide (r13 = (-(1 : Int)))) false) (!r14) false) (!r15) false) false) r16 false) (!r17) false) = true) →
      CallP Tryd.prog tT (15 : Nat) [(AV.c (Cap.d Ty.str [(112 : UInt8), (97 : UInt8), (114 : UInt8), (116 : UInt8)]))] Ty.bool r18) ∧
    ((((selB (selB (selB (selB (selB (selB (selB (selB (selB (selB (selB r3 (decide (r4 = (12 : Int))) false) (decide (r5 = (4 : Int))) false) (decide (r6 = (3 : Int))) false) (decide (r1.1 = (11 : Int))) false) r1.2.1 false) (!r2.2.1) false) (decide (r7 = (3 : Int))) false) (decide (r8 = (2 : Int))) false) (selB (selB (selB (selB (selB (selB (decide (r9 = (8 : Int))) (decide (r10 = (1 : Int))) false) (decide (r11 = (0 : Int))) false) (decide (r12 = (2 : Int))) false) (decide (r13 = (-(1 : Int)))) false) (!r14) false) (!r15) false) false) r16 false) (!r17) false) = true) →
      ((selB (selB (selB (selB (selB (selB (selB (selB (selB (selB (selB r3 (decide (r4 = (12 : Int))) false) (decide (r5 = (4 : Int))) false) (decide (r6 = (3 : Int))) false) (decide (r1.1 = (11 : Int))) false) r1.2.1 false) (!r2.2.1) false) (decide (r7 = (3 : Int))) false) (decide (r8 = (2 : Int))) false) (selB (selB (selB (selB (selB (selB (decide (r9 = (8 : Int))) (decide (r10 = (1 : Int))) false) (decide (r11 = (0 : Int))) false) (decide (r12 = (2 : Int))) false) (decide (r13 = (-(1 : Int)))) false) (!r14) false) (!r15) false) false) r16 false) (!r17) false) = true)) ∧
    ((((selB (selB (selB (selB (selB (selB (selB (selB (selB (selB (selB r3 (decide (r4 = (12 : Int))) false) (decide (r5 = (4 : Int))) false) (decide (r6 = (3 : Int))) false) (decide (r1.1 = (11 : Int))) false) r1.2.1 false) (!r2.2.1) false) (decide (r7 = (3 : Int))) false) (decide (r8 = (2 : Int))) false) (selB (selB (selB (selB (selB (selB (decide (r9 = (8 : Int))) (decide (r10 = (1 : Int))) false) (decide (r11 = (0 : Int))) false) (decide (r12 = (2 : Int))) false) (decide (r13 = (-(1 : Int)))) false) (!r14) false) (!r15) false) false) r16 false) (!r17) false) = true) →
      ((selB (selB (selB (selB (selB (selB (selB (selB (selB (selB (selB r3 (decide (r4 = (12 : Int))) false) (decide (r5 = (4 : Int))) false) (decide (r6 = (3 : Int))) false) (decide (r1.1 = (11 : Int))) false) r1.2.1 false) (!r2.2.1) false) (decide (r7 = (3 : Int))) false) (decide (r8 = (2 : Int))) false) (selB (selB (selB (selB (selB (selB (decide (r9 = (8 : Int))) (decide (r10 = (1 : Int))) false) (decide (r11 = (0 : Int))) false) (decide (r12 = (2 : Int))) false) (decide (r13 = (-(1 : Int)))) false) (!r14) false) (!r15) false) false) r16 false) (!r17) false) = true)) ∧
    ∃ r19 : Bool,
    ((((selB (selB (selB (selB (selB (selB (selB (selB (selB (selB (selB (selB r3 (decide (r4 = (12 : Int))) false) (decide (r5 = (4 : Int))) false) (decide (r6 = (3 : Int))) false) (decide (r1.1 = (11 : Int))) false) r1.2.1 false) (!r2.2.1) false) (decide (r7 = (3 : Int))) false) (decide (r8 = (2 : Int))) false) (selB (selB (selB (selB (selB (selB (decide (r9 = (8 : Int))) (decide (r10 = (1 : Int))) false) (decide (r11 = (0 : Int))) false) (decide (r12 = (2 : Int))) false) (decide (r13 = (-(1 : Int)))) false) (!r14) false) (!r15) false) false) r16 false) (!r17) false) (!r18) false) = true) →
      CallP Tryd.prog tT (15 : Nat) [(AV.c (Cap.d Ty.str ([] : List UInt8)))] Ty.bool r19) ∧
    ((((selB (selB (selB (selB (selB (selB (selB (selB (selB (selB (selB (selB r3 (decide (r4 = (12 : Int))) false) (decide (r5 = (4 : Int))) false) (decide (r6 = (3 : Int))) false) (decide (r1.1 = (11 : Int))) false) r1.2.1 false) (!r2.2.1) false) (decide (r7 = (3 : Int))) false) (decide (r8 = (2 : Int))) false) (selB (selB (selB (selB (selB (selB (decide (r9 = (8 : Int))) (decide (r10 = (1 : Int))) false) (decide (r11 = (0 : Int))) false) (decide (r12 = (2 : Int))) false) (decide (r13 = (-(1 : Int)))) false) (!r14) false) (!r15) false) false) r16 false) (!r17) false) (!r18) false) = true) →
      ((selB (selB (selB (selB (selB (selB (selB (selB (selB (selB (selB (selB r3 (decide (r4 = (12 : Int))) false) (decide (r5 = (4 : Int))) false) (decide (r6 = (3 : Int))) false) (decide (r1.1 = (11 : Int))) false) r1.2.1 false) (!r2.2.1) false) (decide (r7 = (3 : Int))) false) (decide (r8 = (2 : Int))) false) (selB (selB (selB (selB (selB (selB (decide (r9 = (8 : Int))) (decide (r10 = (1 : Int))) false) (decide (r11 = (0 : Int))) false) (decide (r12 = (2 : Int))) false) (decide (r13 = (-(1 : Int)))) false) (!r14) false) (!r15) false) false) r16 false) (!r17) false) (!r18) false) = true)) ∧
    ((((selB (selB (selB (selB (selB (selB (selB (selB (selB (selB (selB (selB r3 (decide (r4 = (12 : Int))) false) (decide (r5 = (4 : Int))) false) (decide (r6 = (3 : Int))) false) (decide (r1.1 = (11 : Int))) false) r1.2.1 false) (!r2.2.1) false) (decide (r7 = (3 : Int))) false) (decide (r8 = (2 : Int))) false) (selB (selB (selB (selB (selB (selB (decide (r9 = (8 : Int))) (decide (r10 = (1 : Int))) false) (decide (r11 = (0 : Int))) false) (decide (r12 = (2 : Int))) false) (decide (r13 = (-(1 : Int)))) false) (!r14) false) (!r15) false) false) r16 false) (!r17) false) (!r18) false) = true) →
      ((selB (selB (selB (selB (selB (selB (selB (selB (selB (selB (selB (selB r3 (decide (r4 = (12 : Int))) false) (decide (r5 = (4 : Int))) false) (decide (r6 = (3 : Int))) false) (decide (r1.1 = (11 : Int))) false) r1.2.1 false) (!r2.2.1) false) (decide (r7 = (3 : Int))) false) (decide (r8 = (2 : Int))) false) (selB (selB (selB (selB (selB (selB (decide (r9 = (8 : Int))) (decide (r10 = (1 : Int))) false) (decide (r11 = (0 : Int))) false) (decide (r12 = (2 : Int))) false) (decide (r13 = (-(1 : Int)))) false) (!r14) false) (!r15) false) false) r16 false) (!r17) false) (!r18) false) = true)) ∧
    (R (selB (selB (selB (selB (selB (selB (selB (selB (selB (selB (selB (selB (selB r3 (decide (r4 = (12 : Int))) false) (decide (r5 = (4 : Int))) false) (decide (r6 = (3 : Int))) false) (decide (r1.1 = (11 : Int))) false) r1.2.1 false) (!r2.2.1) false) (decide (r7 = (3 : Int))) false) (decide (r8 = (2 : Int))) false) (selB (selB (selB (selB (selB (selB (decide (r9 = (8 : Int))) (decide (r10 = (1 : Int))) false) (decide (r11 = (0 : Int))) false) (decide (r12 = (2 : Int))) false) (decide (r13 = (-(1 : Int)))) false) (!r14) false) (!r15) false) false) r16 false) (!r17) false) (!r18) false) (!r19) false))))))))))))))))))))))))))))))))))))))))))))))))))))))))))) : CallP Tryd.prog tT 9 [] .bool r :=
  callP_of (cx := cx9) (d := 6) mixed tab_ok inl_ok Tryd.func9 ⟨fun _ _ => by kernel_rfl⟩ rfl rfl fun wf => Eq.mpr (by kernel_rfl) (h (fun x => x = r) (fun _ => Iff.rfl) )
set_option maxRecDepth 1000000 in
theorem sf9  (r : Ty.T .bool) (h : ∀ R : Ty.T .bool → Prop, (∀ x, R x ↔ x = r) → 
    (∃ r : (List ((List UInt8) × (Bool × (Int × Unit)))),
    (CallP Tryd.prog tT (35 : Nat) [] (Ty.sl (Ty.st (Ty.pair Ty.str (Ty.pair Ty.bool (Ty.pair (Ty.int Go.IntKind.i64) Ty.unit))))) r ∧
    (∃ r1 : (Int × (Bool × Unit)),
    (CallP Tryd.prog tT (11 : Nat) [(AV.c (Cap.d (Ty.sl (Ty.st (Ty.pair Ty.str (Ty.pair Ty.bool (Ty.pair (Ty.int Go.IntKind.i64) Ty.unit))))) r)), (AV.c (Cap.d (Ty.sl (Ty.int Go.IntKind.i64)) [(1 : Int), (2 : Int), (1 : Int)]))] (Ty.tup (Ty.pair (Ty.int Go.IntKind.i64) (Ty.pair Ty.bool Ty.unit))) r1 ∧
    (∃ r2 : (Int × (Bool × Unit)),
    (CallP Tryd.prog tT (11 : Nat) [(AV.c (Cap.d (Ty.sl (Ty.st (Ty.pair Ty.str (Ty.pair Ty.bool (Ty.pair (Ty.int Go.IntKind.i64) Ty.unit))))) r)), (AV.c (Cap.d (Ty.sl (Ty.int Go.IntKind.i64)) [(2 : Int), (0 : Int), (0 : Int)]))] (Ty.tup (Ty.pair (Ty.int Go.IntKind.i64) (Ty.pair Ty.bool Ty.unit))) r2 ∧
    (∃ r3 : Bool,
    (CallP Tryd.prog tT (13 : Nat) [(AV.c (Cap.d (Ty.sl (Ty.st (Ty.pair Ty.str (Ty.pair Ty.bool (Ty.pair (Ty.int Go.IntKind.i64) Ty.unit))))) r))] Ty.bool r3 ∧
    (∃ r4 : Int,
    (((r3 = true) →
      CallP Tryd.prog tT (19 : Nat) [(AV.c (Cap.d (Ty.sl (Ty.st (Ty.pair Ty.str (Ty.pair Ty.bool (Ty.pair (Ty.int Go.IntKind.i64) Ty.unit))))) r))] (Ty.int Go.IntKind.i64) r4) ∧
    (∃ r5 : Int,
    (((r3 = true) → (r4 = (12 : Int)) →
      CallP Tryd.prog tT (21 : Nat) [(AV.c (Cap.d (Ty.sl (Ty.st (Ty.pair Ty.str (Ty.pair Ty.bool (Ty.pair (Ty.int Go.IntKind.i64) Ty.unit))))) r))] (Ty.int Go.IntKind.i64) r5) ∧
    (∃ r6 : Int,
    (((r3 = true) → (r4 = (12 : Int)) → (r5 = (4 : Int)) →
      CallP Tryd.prog tT (23 : Nat) [(AV.c (Cap.d (Ty.sl (Ty.st (Ty.pair Ty.str (Ty.pair Ty.bool (Ty.pair (Ty.int Go.IntKind.i64) Ty.unit))))) r))] (Ty.int Go.IntKind.i64) r6) ∧
    (∃ r7 : Int,
    (((r3 = true) → (r4 = (12 : Int)) → (r5 = (4 : Int)) → (r6 = (3 : Int)) → (r1.1 = (11 : Int)) → (r1.2.1 = true) → (r2.2.1 = false) →
      CallP Tryd.prog tT (27 : Nat) [(AV.c (Cap.d (Ty.sl (Ty.st (Ty.pair Ty.str (Ty.pair Ty.bool (Ty.pair (Ty.int Go.IntKind.i64) Ty.unit))))) r)), (AV.c (Cap.d (Ty.int Go.IntKind.i64) (11 : Int)))] (Ty.int Go.IntKind.i64) r7) ∧
    (∃ r8 : Int,
    (((r3 = true) → (r4 = (12 : Int)) → (r5 = (4 : Int)) → (r6 = (3 : Int)) → (r1.1 = (11 : Int)) → (r1.2.1 = true) → (r2.2.1 = false) → (r7 = (3 : Int)) →
      CallP Tryd.prog tT (29 : Nat) [(AV.c (Cap.d (Ty.sl (Ty.st (Ty.pair Ty.str (Ty.pair Ty.bool (Ty.pair (Ty.int Go.IntKind.i64) Ty.unit))))) r)), (AV.c (Cap.d (Ty.int Go.IntKind.i64) (11 : Int)))] (Ty.int Go.IntKind.i64) r8) ∧
    (∃ r9 : Int,
    (CallP Tryd.prog tT (31 : Nat) [(AV.c (Cap.d (Ty.sl (Ty.st (Ty.pair Ty.str (Ty.pair Ty.bool (Ty.pair (Ty.int Go.IntKind.i64) Ty.unit))))) r)), (AV.c (Cap.d (Ty.int Go.IntKind.i64) (2 : Int))), (AV.c (Cap.d (Ty.int Go.IntKind.i64) (1 : Int)))] (Ty.int Go.IntKind.i64) r9 ∧
    (∃ r10 : Int,
    (((r9 = (8 : Int)) →
      CallP Tryd.prog tT (25 : Nat) [(AV.c (Cap.d (Ty.sl (Ty.st (Ty.pair Ty.str (Ty.pair Ty.bool (Ty.pair (Ty.int Go.IntKind.i64) Ty.unit))))) r)), (AV.c (Cap.d (Ty.int Go.IntKind.i64) (8 : Int))), (AV.c (Cap.d (Ty.int Go.IntKind.i64) (2 : Int)))] (Ty.int Go.IntKind.i64) r10) ∧
    (∃ r11 : Int,
    (((r9 = (8 : Int)) → (r10 = (1 : Int)) →
      CallP Tryd.prog tT (25 : Nat) [(AV.c (Cap.d (Ty.sl (Ty.st (Ty.pair Ty.str (Ty.pair Ty.bool (Ty.pair (Ty.int Go.IntKind.i64) Ty.unit))))) r)), (AV.c (Cap.d (Ty.int Go.IntKind.i64) (12 : Int))), (AV.c (Cap.d (Ty.int Go.IntKind.i64) (0 : Int)))] (Ty.int Go.IntKind.i64) r11) ∧
    (∃ r12 : Int,
    (((r9 = (8 : Int)) → (r10 = (1 : Int)) → (r11 = (0 : Int)) →
      CallP Tryd.prog tT (17 : Nat) [(AV.c (Cap.d (Ty.sl (Ty.st (Ty.pair Ty.str (Ty.pair Ty.bool (Ty.pair (Ty.int Go.IntKind.i64) Ty.unit))))) r)), (AV.c (Cap.d Ty.str [(115 : UInt8)]))] (Ty.int Go.IntKind.i64) r12) ∧
    (∃ r13 : Int,
    (((r9 = (8 : Int)) → (r10 = (1 : Int)) → (r11 = (0 : Int)) → (r12 = (2 : Int)) →
      CallP Tryd.prog tT (17 : Nat) [(AV.c (Cap.d (Ty.sl (Ty.st (Ty.pair Ty.str (Ty.pair Ty.bool (Ty.pair (Ty.int Go.IntKind.i64) Ty.unit))))) r)), (AV.c (Cap.d Ty.str [(113 : UInt8)]))] (Ty.int Go.IntKind.i64) r13) ∧
    (∃ r14 : Bool,
    (((r9 = (8 : Int)) → (r10 = (1 : Int)) → (r11 = (0 : Int)) → (r12 = (2 : Int)) → (r13 = (-(1 : Int))) →
      CallP Tryd.prog tT (13 : Nat) [(AV.c (Cap.d (Ty.sl (Ty.st (Ty.pair Ty.str (Ty.pair Ty.bool (Ty.pair (Ty.int Go.IntKind.i64) Ty.unit))))) ([] : List ((List UInt8) × (Bool × (Int × Unit))))))] Ty.bool r14) ∧
    (∃ r15 : Bool,
    (((r9 = (8 : Int)) → (r10 = (1 : Int)) → (r11 = (0 : Int)) → (r12 = (2 : Int)) → (r13 = (-(1 : Int))) → (r14 = false) →
      CallP Tryd.prog tT (13 : Nat) [(AV.c (Cap.d (Ty.sl (Ty.st (Ty.pair Ty.str (Ty.pair Ty.bool (Ty.pair (Ty.int Go.IntKind.i64) Ty.unit))))) [([(116 : UInt8), (114 : UInt8), (117 : UInt8), (101 : UInt8)], (false, ((2 : Int), ())))]))] Ty.bool r15) ∧
    (∃ r16 : Bool,
    (((r3 = true) → (r4 = (12 : Int)) → (r5 = (4 : Int)) → (r6 = (3 : Int)) → (r1.1 = (11 : Int)) → (r1.2.1 = true) → (r2.2.1 = false) → (r7 = (3 : Int)) → (r8 = (2 : Int)) → (r9 = (8 : Int)) → (r10 = (1 : Int)) → (r11 = (0 : Int)) → (r12 = (2 : Int)) → (r13 = (-(1 : Int))) → (r14 = false) → (r15 = false) →
      CallP Tryd.prog tT (15 : Nat) [(AV.c (Cap.d Ty.str [(97 : UInt8), (95 : UInt8), (49 : UInt8)]))] Ty.bool r16) ∧
    (∃ r17 : Bool,
    (((r3 = true) → (r4 = (12 : Int)) → (r5 = (4 : Int)) → (r6 = (3 : Int)) → (r1.1 = (11 : Int)) → (r1.2.1 = true) → (r2.2.1 = false) → (r7 = (3 : Int)) → (r8 = (2 : Int)) → (r9 = (8 : Int)) → (r10 = (1 : Int)) → (r11 = (0 : Int)) → (r12 = (2 : Int)) → (r13 = (-(1 : Int))) → (r14 = false) → (r15 = false) → (r16 = true) →
      CallP Tryd.prog tT (15 : Nat) [(AV.c (Cap.d Ty.str [(65 : UInt8)]))] Ty.bool r17) ∧
    (∃ r18 : Bool,
    (((r3 = true) → (r4 = (12 : Int)) → (r5 = (4 : Int)) → (r6 = (3 : Int)) → (r1.1 = (11 : Int)) → (r1.2.1 = true) → (r2.2.1 = false) → (r7 = (3 : Int)) → (r8 = (2 : Int)) → (r9 = (8 : Int)) → (r10 = (1 : Int)) → (r11 = (0 : Int)) → (r12 = (2 : Int)) → (r13 = (-(1 : Int))) → (r14 = false) → (r15 = false) → (r16 = true) → (r17 = false) →
      CallP Tryd.prog tT (15 : Nat) [(AV.c (Cap.d Ty.str [(112 : UInt8), (97 : UInt8), (114 : UInt8), (116 : UInt8)]))] Ty.bool r18) ∧
    (∃ r19 : Bool,
    (((r3 = true) → (r4 = (12 : Int)) → (r5 = (4 : Int)) → (r6 = (3 : Int)) → (r1.1 = (11 : Int)) → (r1.2.1 = true) → (r2.2.1 = false) → (r7 = (3 : Int)) → (r8 = (2 : Int)) → (r9 = (8 : Int)) → (r10 = (1 : Int)) → (r11 = (0 : Int)) → (r12 = (2 : Int)) → (r13 = (-(1 : Int))) → (r14 = false) → (r15 = false) → (r16 = true) → (r17 = false) → (r18 = false) →
      CallP Tryd.prog tT (15 : Nat) [(AV.c (Cap.d Ty.str ([] : List UInt8)))] Ty.bool r19) ∧
    (R (selB (selB (selB (selB (selB (selB (selB (selB (selB (selB (selB (selB (selB r3 (decide (r4 = (12 : Int))) false) (decide (r5 = (4 : Int))) false) (decide (r6 = (3 : Int))) false) (decide (r1.1 = (11 : Int))) false) r1.2.1 false) (!r2.2.1) false) (decide (r7 = (3 : Int))) false) (decide (r8 = (2 : Int))) false) (selB (selB (selB (selB (selB (selB (decide (r9 = (8 : Int))) (decide (r10 = (1 : Int))) false) (decide (r11 = (0 : Int))) false) (decide (r12 = (2 : Int))) false) (decide (r13 = (-(1 : Int)))) false) (!r14) false) (!r15) false) false) r16 false) (!r17) false) (!r18) false) (!r19) false))))))))))))))))))))))))))))))))))))))))))) : CallP Tryd.prog tT 9 [] .bool r :=
  of9  r fun R hR  => have p := h R hR 
    (Exists.elim p fun r q1 => Exists.intro r ⟨q1.1, (Exists.elim q1.2 fun r1 q2 => Exists.intro r1 ⟨q2.1, (Exists.elim q2.2 fun r2 q3 => Exists.intro r2 ⟨q3.1, (Exists.elim q3.2 fun r3 q4 => Exists.intro r3 ⟨q4.1, (Exists.elim q4.2 fun r4 q5 => Exists.intro r4 ⟨(fun h11 => ⟨h11, (q5.1 h11)⟩), ⟨(fun h14 => h14), ⟨(fun h16 => h16), (Exists.elim q5.2 fun r5 q17 => Exists.intro r5 ⟨(fun h23 => ⟨h23, (q17.1 ((selB_at h23).1) (of_decide_eq_true (selB_at h23).2))⟩), ⟨(fun h26 => h26), ⟨(fun h28 => h28), (Exists.elim q17.2 fun r6 q29 => Exists.intro r6 ⟨(fun h35 => ⟨h35, (q29.1 ((selB_at (selB_at h35).1).1) (of_decide_eq_true (selB_at (selB_at h35).1).2) (of_decide_eq_true (selB_at h35).2))⟩), ⟨(fun h43 => h43), ⟨(fun h50 => h50), ⟨(fun h56 => h56), ⟨(fun h61 => h61), ⟨(fun h65 => h65), ⟨(fun h68 => h68), ⟨(fun h70 => h70), (Exists.elim q29.2 fun r7 q71 => Exists.intro r7 ⟨(fun h77 => ⟨h77, (q71.1 ((selB_at (selB_at (selB_at (selB_at (selB_at (selB_at h77).1).1).1).1).1).1) (of_decide_eq_true (selB_at (selB_at (selB_at (selB_at (selB_at (selB_at h77).1).1).1).1).1).2) (of_decide_eq_true (selB_at (selB_at (selB_at (selB_at (selB_at h77).1).1).1).1).2) (of_decide_eq_true (selB_at (selB_at (selB_at (selB_at h77).1).1).1).2) (of_decide_eq_true (selB_at (selB_at (selB_at h77).1).1).2) ((selB_at (selB_at h77).1).2) (bnot_t (selB_at h77).2))⟩), ⟨(fun h80 => h80), ⟨(fun h82 => h82), (Exists.elim q71.2 fun r8 q83 => Exists.intro r8 ⟨(fun h89 => ⟨h89, (q83.1 ((selB_at (selB_at (selB_at (selB_at (selB_at (selB_at (selB_at h89).1).1).1).1).1).1).1) (of_decide_eq_true (selB_at (selB_at (selB_at (selB_at (selB_at (selB_at (selB_at h89).1).1).1).1).1).1).2) (of_decide_eq_true (selB_at (selB_at (selB_at (selB_at (selB_at (selB_at h89).1).1).1).1).1).2) (of_decide_eq_true (selB_at (selB_at (selB_at (selB_at (selB_at h89).1).1).1).1).2) (of_decide_eq_true (selB_at (selB_at (selB_at (selB_at h89).1).1).1).2) ((selB_at (selB_at (selB_at h89).1).1).2) (bnot_t (selB_at (selB_at h89).1).2) (of_decide_eq_true (selB_at h89).2))⟩), ⟨(fun h92 => h92), ⟨(fun h94 => h94), (Exists.elim q83.2 fun r9 q95 => Exists.intro r9 ⟨q95.1, (Exists.elim q95.2 fun r10 q96 => Exists.intro r10 ⟨(fun h102 => ⟨h102, (q96.1 (of_decide_eq_true h102))⟩), ⟨(fun h105 => h105), ⟨(fun h107 => h107), (Exists.elim q96.2 fun r11 q108 => Exists.intro r11 ⟨(fun h114 => ⟨h114, (q108.1 (of_decide_eq_true (selB_at h114).1) (of_decide_eq_true (selB_at h114).2))⟩), ⟨(fun h117 => h117), ⟨(fun h119 => h119), (Exists.elim q108.2 fun r12 q120 => Exists.intro r12 ⟨(fun h126 => ⟨h126, (q120.1 (of_decide_eq_true (selB_at (selB_at h126).1).1) (of_decide_eq_true (selB_at (selB_at h126).1).2) (of_decide_eq_true (selB_at h126).2))⟩), ⟨(fun h129 => h129), ⟨(fun h131 => h131), (Exists.elim q120.2 fun r13 q132 => Exists.intro r13 ⟨(fun h138 => ⟨h138, (q132.1 (of_decide_eq_true (selB_at (selB_at (selB_at h138).1).1).1) (of_decide_eq_true (selB_at (selB_at (selB_at h138).1).1).2) (of_decide_eq_true (selB_at (selB_at h138).1).2) (of_decide_eq_true (selB_at h138).2))⟩), ⟨(fun h141 => h141), ⟨(fun h143 => h143), (Exists.elim q132.2 fun r14 q144 => Exists.intro r14 ⟨(fun h150 => (q144.1 (of_decide_eq_true (selB_at (selB_at (selB_at (selB_at h150).1).1).1).1) (of_decide_eq_true (selB_at (selB_at (selB_at (selB_at h150).1).1).1).2) (of_decide_eq_true (selB_at (selB_at (selB_at h150).1).1).2) (of_decide_eq_true (selB_at (selB_at h150).1).2) (of_decide_eq_true (selB_at h150).2))), ⟨(fun h154 => h154), ⟨(fun h157 => h157), ⟨(fun h159 => h159), (Exists.elim q144.2 fun r15 q160 => Exists.intro r15 ⟨(fun h166 => ⟨h166, (q160.1 (of_decide_eq_true (selB_at (selB_at (selB_at (selB_at (selB_at h166).1).1).1).1).1) (of_decide_eq_true (selB_at (selB_at (selB_at (selB_at (selB_at h166).1).1).1).1).2) (of_decide_eq_true (selB_at (selB_at (selB_at (selB_at h166).1).1).1).2) (of_decide_eq_true (selB_at (selB_at (selB_at h166).1).1).2) (of_decide_eq_true (selB_at (selB_at h166).1).2) (bnot_t (selB_at h166).2))⟩), ⟨(fun h170 => h170), ⟨(fun h173 => h173), ⟨(fun h175 => h175), (Exists.elim q160.2 fun r16 q176 => Exists.intro r16 ⟨(fun h182 => (q176.1 ((selB_at (selB_at (selB_at (selB_at (selB_at (selB_at (selB_at (selB_at (selB_at h182).1).1).1).1).1).1).1).1).1) (of_decide_eq_true (selB_at (selB_at (selB_at (selB_at (selB_at (selB_at (selB_at (selB_at (selB_at h182).1).1).1).1).1).1).1).1).2) (of_decide_eq_true (selB_at (selB_at (selB_at (selB_at (selB_at (selB_at (selB_at (selB_at h182).1).1).1).1).1).1).1).2) (of_decide_eq_true (selB_at (selB_at (selB_at (selB_at (selB_at (selB_at (selB_at h182).1).1).1).1).1).1).2) (of_decide_eq_true (selB_at (selB_at (selB_at (selB_at (selB_at (selB_at h182).1).1).1).1).1).2) ((selB_at (selB_at (selB_at (selB_at (selB_at h182).1).1).1).1).2) (bnot_t (selB_at (selB_at (selB_at (selB_at h182).1).1).1).2) (of_decide_eq_true (selB_at (selB_at (selB_at h182).1).1).2) (of_decide_eq_true (selB_at (selB_at h182).1).2) (of_decide_eq_true (selB_at (selB_at (selB_at (selB_at (selB_at (selB_at (selB_at h182).2).1).1).1).1).1).1) (of_decide_eq_true (selB_at (selB_at (selB_at (selB_at (selB_at (selB_at (selB_at h182).2).1).1).1).1).1).2) (of_decide_eq_true (selB_at (selB_at (selB_at (selB_at (selB_at (selB_at h182).2).1).1).1).1).2) (of_decide_eq_true (selB_at (selB_at (selB_at (selB_at (selB_at h182).2).1).1).1).2) (of_decide_eq_true (selB_at (selB_at (selB_at (selB_at h182).2).1).1).2) (bnot_t (selB_at (selB_at (selB_at h182).2).1).2) (bnot_t (selB_at (selB_at h182).2).2))), ⟨(fun h184 => h184), (Exists.elim q176.2 fun r17 q185 => Exists.intro r17 ⟨(fun h191 => (q185.1 ((selB_at (selB_at (selB_at (selB_at (selB_at (selB_at (selB_at (selB_at (selB_at (selB_at h191).1).1).1).1).1).1).1).1).1).1) (of_decide_eq_true (selB_at (selB_at (selB_at (selB_at (selB_at (selB_at (selB_at (selB_at (selB_at (selB_at h191).1).1).1).1).1).1).1).1).1).2) (of_decide_eq_true (selB_at (selB_at (selB_at (selB_at (selB_at (selB_at (selB_at (selB_at (selB_at h191).1).1).1).1).1).1).1).1).2) (of_decide_eq_true (selB_at (selB_at (selB_at (selB_at (selB_at (selB_at (selB_at (selB_at h191).1).1).1).1).1).1).1).2) (of_decide_eq_true (selB_at (selB_at (selB_at (selB_at (selB_at (selB_at (selB_at h191).1).1).1).1).1).1).2) ((selB_at (selB_at (selB_at (selB_at (selB_at (selB_at h191).1).1).1).1).1).2) (bnot_t (selB_at (selB_at (selB_at (selB_at (selB_at h191).1).1).1).1).2) (of_decide_eq_true (selB_at (selB_at (selB_at (selB_at h191).1).1).1).2) (of_decide_eq_true (selB_at (selB_at (selB_at h191).1).1).2) (of_decide_eq_true (selB_at (selB_at (selB_at (selB_at (selB_at (selB_at (selB_at (selB_at h191).1).2).1).1).1).1).1).1) (of_decide_eq_true (selB_at (selB_at (selB_at (selB_at (selB_at (selB_at (selB_at (selB_at h191).1).2).1).1).1).1).1).2) (of_decide_eq_true (selB_at (selB_at (selB_at (selB_at (selB_at (selB_at (selB_at h191).1).2).1).1).1).1).2) (of_decide_eq_true (selB_at (selB_at (selB_at (selB_at (selB_at (selB_at h191).1).2).1).1).1).2) (of_decide_eq_true (selB_at (selB_at (selB_at (selB_at (selB_at h191).1).2).1).1).2) (bnot_t (selB_at (selB_at (selB_at (selB_at h191).1).2).1).2) (bnot_t (selB_at (selB_at (selB_at h191).1).2).2) ((selB_at h191).2))), ⟨(fun h194 => h194), ⟨(fun h196 => h196), (Exists.elim q185.2 fun r18 q197 => Exists.intro r18 ⟨(fun h203 => (q197.1 ((selB_at (selB_at (selB_at (selB_at (selB_at (selB_at (selB_at (selB_at (selB_at (selB_at (selB_at h203).1).1).1).1).1).1).1).1).1).1).1) (of_decide_eq_true (selB_at (selB_at (selB_at (selB_at (selB_at (selB_at (selB_at (selB_at (selB_at (selB_at (selB_at h203).1).1).1).1).1).1).1).1).1).1).2) (of_decide_eq_true (selB_at (selB_at (selB_at (selB_at (selB_at (selB_at (selB_at (selB_at (selB_at (selB_at h203).1).1).1).1).1).1).1).1).1).2) (of_decide_eq_true (selB_at (selB_at (selB_at (selB_at (selB_at (selB_at (selB_at (selB_at (selB_at h203).1).1).1).1).1).1).1).1).2) (of_decide_eq_true (selB_at (selB_at (selB_at (selB_at (selB_at (selB_at (selB_at (selB_at h203).1).1).1).1).1).1).1).2) ((selB_at (selB_at (selB_at (selB_at (selB_at (selB_at (selB_at h203).1).1).1).1).1).1).2) (bnot_t (selB_at (selB_at (selB_at (selB_at (selB_at (selB_at h203).1).1).1).1).1).2) (of_decide_eq_true (selB_at (selB_at (selB_at (selB_at (selB_at h203).1).1).1).1).2) (of_decide_eq_true (selB_at (selB_at (selB_at (selB_at h203).1).1).1).2) (of_decide_eq_true (selB_at (selB_at (selB_at (selB_at (selB_at (selB_at (selB_at (selB_at (selB_at h203).1).1).2).1).1).1).1).1).1) (of_decide_eq_true (selB_at (selB_at (selB_at (selB_at (selB_at (selB_at (selB_at (selB_at (selB_at h203).1).1).2).1).1).1).1).1).2) (of_decide_eq_true (selB_at (selB_at (selB_at (selB_at (selB_at (selB_at (selB_at (selB_at h203).1).1).2).1).1).1).1).2) (of_decide_eq_true (selB_at (selB_at (selB_at (selB_at (selB_at (selB_at (selB_at h203).1).1).2).1).1).1).2) (of_decide_eq_true (selB_at (selB_at (selB_at (selB_at (selB_at (selB_at h203).1).1).2).1).1).2) (bnot_t (selB_at (selB_at (selB_at (selB_at (selB_at h203).1).1).2).1).2) (bnot_t (selB_at (selB_at (selB_at (selB_at h203).1).1).2).2) ((selB_at (selB_at h203).1).2) (bnot_t (selB_at h203).2))), ⟨(fun h206 => h206), ⟨(fun h208 => h208), (Exists.elim q197.2 fun r19 q209 => Exists.intro r19 ⟨(fun h215 => (q209.1 ((selB_at (selB_at (selB_at (selB_at (selB_at (selB_at (selB_at (selB_at (selB_at (selB_at (selB_at (selB_at h215).1).1).1).1).1).1).1).1).1).1).1).1) (of_decide_eq_true (selB_at (selB_at (selB_at (selB_at (selB_at (selB_at (selB_at (selB_at (selB_at (selB_at (selB_at (selB_at h215).1).1).1).1).1).1).1).1).1).1).1).2) (of_decide_eq_true (selB_at (selB_at (selB_at (selB_at (selB_at (selB_at (selB_at (selB_at (selB_at (selB_at (selB_at h215).1).1).1).1).1).1).1).1).1).1).2) (of_decide_eq_true (selB_at (selB_at (selB_at (selB_at (selB_at (selB_at (selB_at (selB_at (selB_at (selB_at h215).1).1).1).1).1).1).1).1).1).2) (of_decide_eq_true (selB_at (selB_at (selB_at (selB_at (selB_at (selB_at (selB_at (selB_at (selB_at h215).1).1).1).1).1).1).1).1).2) ((selB_at (selB_at (selB_at (selB_at (selB_at (selB_at (selB_at (selB_at h215).1).1).1).1).1).1).1).2) (bnot_t (selB_at (selB_at (selB_at (selB_at (selB_at (selB_at (selB_at h215).1).1).1).1).1).1).2) (of_decide_eq_true (selB_at (selB_at (selB_at (selB_at (selB_at (selB_at h215).1).1).1).1).1).2) (of_decide_eq_true (selB_at (selB_at (selB_at (selB_at (selB_at h215).1).1).1).1).2) (of_decide_eq_true (selB_at (selB_at (selB_at (selB_at (selB_at (selB_at (selB_at (selB_at (selB_at (selB_at h215).1).1).1).2).1).1).1).1).1).1) (of_decide_eq_true (selB_at (selB_at (selB_at (selB_at (selB_at (selB_at (selB_at (selB_at (selB_at (selB_at h215).1).1).1).2).1).1).1).1).1).2) (of_decide_eq_true (selB_at (selB_at (selB_at (selB_at (selB_at (selB_at (selB_at (selB_at (selB_at h215).1).1).1).2).1).1).1).1).2) (of_decide_eq_true (selB_at (selB_at (selB_at (selB_at (selB_at (selB_at (selB_at (selB_at h215).1).1).1).2).1).1).1).2) (of_decide_eq_true (selB_at (selB_at (selB_at (selB_at (selB_at (selB_at (selB_at h215).1).1).1).2).1).1).2) (bnot_t (selB_at (selB_at (selB_at (selB_at (selB_at (selB_at h215).1).1).1).2).1).2) (bnot_t (selB_at (selB_at (selB_at (selB_at (selB_at h215).1).1).1).2).2) ((selB_at (selB_at (selB_at h215).1).1).2) (bnot_t (selB_at (selB_at h215).1).2) (bnot_t (selB_at h215).2))), ⟨(fun h218 => h218), ⟨(fun h220 => h220), q209.2⟩⟩⟩)⟩⟩⟩)⟩⟩⟩)⟩⟩)⟩⟩⟩⟩)⟩⟩⟩⟩)⟩⟩⟩)⟩⟩⟩)⟩⟩⟩)⟩⟩⟩)⟩)⟩⟩⟩)⟩⟩⟩)⟩⟩⟩⟩⟩⟩⟩⟩)⟩⟩⟩)⟩⟩⟩)⟩)⟩)⟩)⟩)
end Go.Proofs.YtlkgkjpnphdhdaaDoor
