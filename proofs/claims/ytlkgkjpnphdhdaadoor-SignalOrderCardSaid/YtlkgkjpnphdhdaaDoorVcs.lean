/-
  What must be shown of each function, worked out from its text; the kernel holds it against the text.
-/
import Derived.Test.YtlkgkjpnphdhdaaDoorVcsa
import Derived.Test.YtlkgkjpnphdhdaaDoorNe
namespace Go.Proofs.YtlkgkjpnphdhdaaDoor
open Go.RowKit
/- foresight/foresightlaw01.SignalMatchesReference -/
def cx3 : Cx := { T := tT, own := ownT, frz := [], loops := [], cuts := [], inl := inlT }
set_option maxRecDepth 1000000 in
theorem of3 (l : (Ty.T (.sl (.st (.pair .str (.pair .bool (.pair (.int .i64) .unit))))))) (name : (Ty.T .str)) (letter : (Ty.T (.int .i64))) (i : (Ty.T (.int .i64))) (vals : (Ty.T (.sl (.int .i64)))) (in_ : (Ty.T (.int .i64))) (out : (Ty.T (.int .i64))) (r : Ty.T .bool) (h : ∀ R : Ty.T .bool → Prop, (∀ x, R x ↔ x = r) → WF (.sl (.st (.pair .str (.pair .bool (.pair (.int .i64) .unit))))) l → WF .str name → WF (.int .i64) letter → WF (.int .i64) i → WF (.sl (.int .i64)) vals → WF (.int .i64) in_ → WF (.int .i64) out → 
    ∃ r : Bool,
    (CallP Tryd.prog tT (9 : Nat) [] Ty.bool r ∧
    ∃ r1 : Bool,
    (CallP Tryd.prog tT (10 : Nat) [(AV.c (Cap.d (Ty.sl (Ty.st (Ty.pair Ty.str (Ty.pair Ty.bool (Ty.pair (Ty.int Go.IntKind.i64) Ty.unit))))) l))] Ty.bool r1 ∧
    ((((!(!r1)) = true) →
      ((!(!r1)) = true)) ∧
    ((((!(!r1)) = true) →
      ((!(!r1)) = true)) ∧
    ((((!r1) = false) →
      ((!(!r1)) = true)) ∧
    ((((!(selB (!r1) true (decide ((20 : Int) < (((List.length vals) : Nat) : Int))))) = true) →
      ((!(selB (!r1) true (decide ((20 : Int) < (((List.length vals) : Nat) : Int))))) = true)) ∧
    ((((!(selB (!r1) true (decide ((20 : Int) < (((List.length vals) : Nat) : Int))))) = true) →
      ((!(selB (!r1) true (decide ((20 : Int) < (((List.length vals) : Nat) : Int))))) = true)) ∧
    ((((selB (!r1) true (decide ((20 : Int) < (((List.length vals) : Nat) : Int)))) = false) →
      ((!(selB (!r1) true (decide ((20 : Int) < (((List.length vals) : Nat) : Int))))) = true)) ∧
    ((((selB (selB (!r1) true (decide ((20 : Int) < (((List.length vals) : Nat) : Int)))) true (decide ((100 : Int) < (((List.length name) : Nat) : Int)))) = true) →
      (R r)) ∧
    (((selB (selB (!r1) true (decide ((20 : Int) < (((List.length vals) : Nat) : Int)))) true (decide ((100 : Int) < (((List.length name) : Nat) : Int)))) = false) →
      ∃ r2 : (Int × (Bool × Unit)),
      (CallP Tryd.prog tT (11 : Nat) [(AV.c (Cap.d (Ty.sl (Ty.st (Ty.pair Ty.str (Ty.pair Ty.bool (Ty.pair (Ty.int Go.IntKind.i64) Ty.unit))))) l)), (AV.c (Cap.d (Ty.sl (Ty.int Go.IntKind.i64)) vals))] (Ty.tup (Ty.pair (Ty.int Go.IntKind.i64) (Ty.pair Ty.bool Ty.unit))) r2 ∧
      ∃ r3 : (Int × (Bool × Unit)),
      (CallP Tryd.prog tT (12 : Nat) [(AV.c (Cap.d (Ty.sl (Ty.st (Ty.pair Ty.str (Ty.pair Ty.bool (Ty.pair (Ty.int Go.IntKind.i64) Ty.unit))))) l)), (AV.c (Cap.d (Ty.sl (Ty.int Go.IntKind.i64)) vals))] (Ty.tup (Ty.pair (Ty.int Go.IntKind.i64) (Ty.pair Ty.bool Ty.unit))) r3 ∧
      ∃ r4 : Bool,
      (CallP Tryd.prog tT (13 : Nat) [(AV.c (Cap.d (Ty.sl (Ty.st (Ty.pair Ty.str (Ty.pair Ty.bool (Ty.pair (Ty.int Go.IntKind.i64) Ty.unit))))) l))] Ty.bool r4 ∧
      ∃ r5 : Bool,
      (CallP Tryd.prog tT (14 : Nat) [(AV.c (Cap.d (Ty.sl (Ty.st (Ty.pair Ty.str (Ty.pair Ty.bool (Ty.pair (Ty.int Go.IntKind.i64) Ty.unit))))) l))] Ty.bool r5 ∧
      ∃ r6 : Bool,
      ((((r4 == r5) = true) →
        (((r4 == r5) = true) ∧
        CallP Tryd.prog tT (15 : Nat) [(AV.c (Cap.d Ty.str name))] Ty.bool r6)) ∧
      ∃ r7 : Bool,
      ((((r4 == r5) = true) →
        (((r4 == r5) = true) ∧
        CallP Tryd.prog tT (16 : Nat) [(AV.c (Cap.d Ty.str name))] Ty.bool r7)) ∧
      ((((r4 == r5) = true) →
        (((r4 == r5) = true) ∧
        ((r4 == r5) = true))) ∧
      ((((r4 == r5) = true) →
        ((r4 == r5) = true)) ∧
      ∃ r8 : Int,
      ((((selB (r4 == r5) (r6 == r7) false) = true) →
        ((((selB (r4 == r5) (r6 == r7) false) = true) ∧
        ((selB (r4 == r5) (r6 == r7) false) = true)) ∧
        CallP Tryd.prog tT (17 : Nat) [(AV.c (Cap.d (Ty.sl (Ty.st (Ty.pair Ty.str (Ty.pair Ty.bool (Ty.pair (Ty.int Go.IntKind.i64) Ty.unit))))) l)), (AV.c (Cap.d Ty.str name))] (Ty.int Go.IntKind.i64) r8)) ∧
      ∃ r9 : Int,
      ((((selB (r4 == r5) (r6 == r7) false) = true) →
        ((((selB (r4 == r5) (r6 == r7) false) = true) ∧
        ((selB (r4 == r5) (r6 == r7) false) = true)) ∧
        CallP Tryd.prog tT (18 : Nat) [(AV.c (Cap.d (Ty.sl (Ty.st (Ty.pair Ty.str (Ty.pair Ty.bool (Ty.pair (Ty.int Go.IntKind.i64) Ty.unit))))) l)), (AV.c (Cap.d Ty.str name))] (Ty.int Go.IntKind.i64) r9)) ∧
      ((((selB (r4 == r5) (r6 == r7) false) = true) →
        (((selB (r4 == r5) (r6 == r7) false) = true) ∧
        ((selB (r4 == r5) (r6 == r7) false) = true))) ∧
      ((((selB (r4 == r5) (r6 == r7) false) = true) →
        ((selB (r4 == r5) (r6 == r7) false) = true)) ∧
      ∃ r10 : Int,
      ((((selB (selB (r4 == r5) (r6 == r7) false) (decide (r8 = r9)) false) = true) →
        (((selB (selB (r4 == r5) (r6 == r7) false) (decide (r8 = r9)) false) = true) ∧
        CallP Tryd.prog tT (19 : Nat) [(AV.c (Cap.d (Ty.sl (Ty.st (Ty.pair Ty.str (Ty.pair Ty.bool (Ty.pair (Ty.int Go.IntKind.i64) Ty.unit))))) l))] (Ty.int Go.IntKind.i64) r10)) ∧
      ∃ r11 : Int,
      ((((selB (selB (r4 == r5) (r6 == r7) false) (decide (r8 = r9)) false) = true) →
        (((selB (selB (r4 == r5) (r6 == r7) false) (decide (r8 = r9)) false) = true) ∧
        CallP Tryd.prog tT (20 : Nat) [(AV.c (Cap.d (Ty.sl (Ty.st (Ty.pair Ty.str (Ty.pair Ty.bool (Ty.pair (Ty.int Go.IntKind.i64) Ty.unit))))) l))] (Ty.int Go.IntKind.i64) r11)) ∧
      ((((selB (selB (r4 == r5) (r6 == r7) false) (decide (r8 = r9)) false) = true) →
        (((selB (selB (r4 == r5) (r6 == r7) false) (decide (r8 = r9)) false) = true) ∧
        ((selB (selB (r4 == r5) (r6 == r7) false) (decide (r8 = r9)) false) = true))) ∧
      ((((selB (selB (r4 == r5) (r6 == r7) false) (decide (r8 = r9)) false) = true) →
        ((selB (selB (r4 == r5) (r6 == r7) false) (decide (r8 = r9)) false) = true)) ∧
      ∃ r12 : Int,
      ((((selB (selB (selB (r4 == r5) (r6 == r7) false) (decide (r8 = r9)) false) (decide (r10 = r11)) false) = true) →
        (((selB (selB (selB (r4 == r5) (r6 == r7) false) (decide (r8 = r9)) false) (decide (r10 = r11)) false) = true) ∧
        CallP Tryd.prog tT (21 : Nat) [(AV.c (Cap.d (Ty.sl (Ty.st (Ty.pair Ty.str (Ty.pair Ty.bool (Ty.pair (Ty.int Go.IntKind.i64) Ty.unit))))) l))] (Ty.int Go.IntKind.i64) r12)) ∧
      ∃ r13 : Int,
      ((((selB (selB (selB (r4 == r5) (r6 == r7) false) (decide (r8 = r9)) false) (decide (r10 = r11)) false) = true) →
        (((selB (selB (selB (r4 == r5) (r6 == r7) false) (decide (r8 = r9)) false) (decide (r10 = r11)) false) = true) ∧
        CallP Tryd.prog tT (22 : Nat) [(AV.c (Cap.d (Ty.sl (Ty.st (Ty.pair Ty.str (Ty.pair Ty.bool (Ty.pair (Ty.int Go.IntKind.i64) Ty.unit))))) l))] (Ty.int Go.IntKind.i64) r13)) ∧
      ((((selB (selB (selB (r4 == r5) (r6 == r7) false) (decide (r8 = r9)) false) (decide (r10 = r11)) false) = true) →
        (((selB (selB (selB (r4 == r5) (r6 == r7) false) (decide (r8 = r9)) false) (decide (r10 = r11)) false) = true) ∧
        ((selB (selB (selB (r4 == r5) (r6 == r7) false) (decide (r8 = r9)) false) (decide (r10 = r11)) false) = true))) ∧
      ((((selB (selB (selB (r4 == r5) (r6 == r7) false) (decide (r8 = r9)) false) (decide (r10 = r11)) false) = true) →
        ((selB (selB (selB (r4 == r5) (r6 == r7) false) (decide (r8 = r9)) false) (decide (r10 = r11)) false) = true)) ∧
      ∃ r14 : Int,
      ((((selB (selB (selB (selB (r4 == r5) (r6 == r7) false) (decide (r8 = r9)) false) (decide (r10 = r11)) false) (decide (r12 = r13)) false) = true) →
        (((selB (selB (selB (selB (r4 == r5) (r6 == r7) false) (decide (r8 = r9)) false) (decide (r10 = r11)) false) (decide (r12 = r13)) false) = true) ∧
        CallP Tryd.prog tT (23 : Nat) [(AV.c (Cap.d (Ty.sl (Ty.st (Ty.pair Ty.str (Ty.pair Ty.bool (Ty.pair (Ty.int Go.IntKind.i64) Ty.unit))))) l))] (Ty.int Go.IntKind.i64) r14)) ∧
      ∃ r15 : Int,
      ((((selB (selB (selB (selB (r4 == r5) (r6 == r7) false) (decide (r8 = r9)) false) (decide (r10 = r11)) false) (decide (r12 = r13)) false) = true) →
        (((selB (selB (selB (selB (r4 == r5) (r6 == r7) false) (decide (r8 = r9)) false) (decide (r10 = r11)) false) (decide (r12 = r13)) false) = true) ∧
        CallP Tryd.prog tT (24 : Nat) [(AV.c (Cap.d (Ty.sl (Ty.st (Ty.pair Ty.str (Ty.pair Ty.bool (Ty.pair (Ty.int Go.IntKind.i64) Ty.unit))))) l))] (Ty.int Go.IntKind.i64) r15)) ∧
      ((((selB (selB (selB (selB (r4 == r5) (r6 == r7) false) (decide (r8 = r9)) false) (decide (r10 = r11)) false) (decide (r12 = r13)) false) = true) →
        (((selB (selB (selB (selB (r4 == r5) (r6 == r7) false) (decide (r8 = r9)) false) (decide (r10 = r11)) false) (decide (r12 = r13)) false) = true) ∧
        ((selB (selB (selB (selB (r4 == r5) (r6 == r7) false) (decide (r8 = r9)) false) (decide (r10 = r11)) false) (decide (r12 = r13)) false) = true))) ∧
      ((((selB (selB (selB (selB (r4 == r5) (r6 == r7) false) (decide (r8 = r9)) false) (decide (r10 = r11)) false) (decide (r12 = r13)) false) = true) →
        ((selB (selB (selB (selB (r4 == r5) (r6 == r7) false) (decide (r8 = r9)) false) (decide (r10 = r11)) false) (decide (r12 = r13)) false) = true)) ∧
      ∃ r16 : Int,
      (CallP Tryd.prog tT (25 : Nat) [(AV.c (Cap.d (Ty.sl (Ty.st (Ty.pair Ty.str (Ty.pair Ty.bool (Ty.pair (Ty.int Go.IntKind.i64) Ty.unit))))) l)), (AV.c (Cap.d (Ty.int Go.IntKind.i64) letter)), (AV.c (Cap.d (Ty.int Go.IntKind.i64) i))] (Ty.int Go.IntKind.i64) r16 ∧
      ∃ r17 : Int,
      (CallP Tryd.prog tT (26 : Nat) [(AV.c (Cap.d (Ty.sl (Ty.st (Ty.pair Ty.str (Ty.pair Ty.bool (Ty.pair (Ty.int Go.IntKind.i64) Ty.unit))))) l)), (AV.c (Cap.d (Ty.int Go.IntKind.i64) letter)), (AV.c (Cap.d (Ty.int Go.IntKind.i64) i))] (Ty.int Go.IntKind.i64) r17 ∧
      ((((decide (r16 = r17)) = true) →
        (((decide (r16 = r17)) = true) ∧
        ((decide (r16 = r17)) = true))) ∧
      ((((decide (r16 = r17)) = true) →
        ((decide (r16 = r17)) = true)) ∧
      ((((selB (decide (r16 = r17)) (decide (r2.1 = r3.1)) false) = true) →
        (((selB (decide (r16 = r17)) (decide (r2.1 = r3.1)) false) = true) ∧
        ((selB (decide (r16 = r17)) (decide (r2.1 = r3.1)) false) = true))) ∧
      ((((selB (decide (r16 = r17)) (decide (r2.1 = r3.1)) false) = true) →
        ((selB (decide (r16 = r17)) (decide (r2.1 = r3.1)) false) = true)) ∧
      ∃ r18 : Int,
      ((((selB (selB (decide (r16 = r17)) (decide (r2.1 = r3.1)) false) (r2.2.1 == r3.2.1) false) = true) →
        ((((selB (selB (decide (r16 = r17)) (decide (r2.1 = r3.1)) false) (r2.2.1 == r3.2.1) false) = true) ∧
        ((selB (selB (decide (r16 = r17)) (decide (r2.1 = r3.1)) false) (r2.2.1 == r3.2.1) false) = true)) ∧
        CallP Tryd.prog tT (27 : Nat) [(AV.c (Cap.d (Ty.sl (Ty.st (Ty.pair Ty.str (Ty.pair Ty.bool (Ty.pair (Ty.int Go.IntKind.i64) Ty.unit))))) l)), (AV.c (Cap.d (Ty.int Go.IntKind.i64) letter))] (Ty.int Go.IntKind.i64) r18)) ∧
      ∃ r19 : Int,
      ((((selB (selB (decide (r16 = r17)) (decide (r2.1 = r3.1)) false) (r2.2.1 == r3.2.1) false) = true) →
        ((((selB (selB (decide (r16 = r17)) (decide (r2.1 = r3.1)) false) (r2.2.1 == r3.2.1) false) = true) ∧
        ((selB (selB (decide (r16 = r17)) (decide (r2.1 = r3.1)) false) (r2.2.1 == r3.2.1) false) = true)) ∧
        CallP Tryd.prog tT (28 : Nat) [(AV.c (Cap.d (Ty.sl (Ty.st (Ty.pair Ty.str (Ty.pair Ty.bool (Ty.pair (Ty.int Go.IntKind.i64) Ty.unit))))) l)), (AV.c (Cap.d (Ty.int Go.IntKind.i64) letter))] (Ty.int Go.IntKind.i64) r19)) ∧
      ((((selB (selB (decide (r16 = r17)) (decide (r2.1 = r3.1)) false) (r2.2.1 == r3.2.1) false) = true) →
        (((selB (selB (decide (r16 = r17)) (decide (r2.1 = r3.1)) false) (r2.2.1 == r3.2.1) false) = true) ∧
        ((selB (selB (decide (r16 = r17)) (decide (r2.1 = r3.1)) false) (r2.2.1 == r3.2.1) false) = true))) ∧
      ((((selB (selB (decide (r16 = r17)) (decide (r2.1 = r3.1)) false) (r2.2.1 == r3.2.1) false) = true) →
        ((selB (selB (decide (r16 = r17)) (decide (r2.1 = r3.1)) false) (r2.2.1 == r3.2.1) false) = true)) ∧
      ∃ r20 : Int,
      ((((selB (selB (selB (decide (r16 = r17)) (decide (r2.1 = r3.1)) false) (r2.2.1 == r3.2.1) false) (decide (r18 = r19)) false) = true) →
        ((((selB (selB (selB (decide (r16 = r17)) (decide (r2.1 = r3.1)) false) (r2.2.1 == r3.2.1) false) (decide (r18 = r19)) false) = true) ∧
        ((selB (selB (selB (decide (r16 = r17)) (decide (r2.1 = r3.1)) false) (r2.2.1 == r3.2.1) false) (decide (r18 = r19)) false) = true)) ∧
        CallP Tryd.prog tT (29 : Nat) [(AV.c (Cap.d (Ty.sl (Ty.st (Ty.pair Ty.str (Ty.pair Ty.bool (Ty.pair (Ty.int Go.IntKind.i64) Ty.unit))))) l)), (AV.c (Cap.d (Ty.int Go.IntKind.i64) letter))] (Ty.int Go.IntKind.i64) r20)) ∧
      ∃ r21 : Int,
      ((((selB (selB (selB (decide (r16 = r17)) (decide (r2.1 = r3.1)) false) (r2.2.1 == r3.2.1) false) (decide (r18 = r19)) false) = true) →
        ((((selB (selB (selB (decide (r16 = r17)) (decide (r2.1 = r3.1)) false) (r2.2.1 == r3.2.1) false) (decide (r18 = r19)) false) = true) ∧
        ((selB (selB (selB (decide (r16 = r17)) (decide (r2.1 = r3.1)) false) (r2.2.1 == r3.2.1) false) (decide (r18 = r19)) false) = true)) ∧
        CallP Tryd.prog tT (30 : Nat) [(AV.c (Cap.d (Ty.sl (Ty.st (Ty.pair Ty.str (Ty.pair Ty.bool (Ty.pair (Ty.int Go.IntKind.i64) Ty.unit))))) l)), (AV.c (Cap.d (Ty.int Go.IntKind.i64) letter))] (Ty.int Go.IntKind.i64) r21)) ∧
      ((((selB (selB (selB (decide (r16 = r17)) (decide (r2.1 = r3.1)) false) (r2.2.1 == r3.2.1) false) (decide (r18 = r19)) false) = true) →
        (((selB (selB (selB (decide (r16 = r17)) (decide (r2.1 = r3.1)) false) (r2.2.1 == r3.2.1) false) (decide (r18 = r19)) false) = true) ∧
        ((selB (selB (selB (decide (r16 = r17)) (decide (r2.1 = r3.1)) false) (r2.2.1 == r3.2.1) false) (decide (r18 = r19)) false) = true))) ∧
      ((((selB (selB (selB (decide (r16 = r17)) (decide (r2.1 = r3.1)) false) (r2.2.1 == r3.2.1) false) (decide (r18 = r19)) false) = true) →
        ((selB (selB (selB (decide (r16 = r17)) (decide (r2.1 = r3.1)) false) (r2.2.1 == r3.2.1) false) (decide (r18 = r19)) false) = true)) ∧
      ∃ r22 : Int,
      ((((selB (selB (selB (selB (decide (r16 = r17)) (decide (r2.1 = r3.1)) false) (r2.2.1 == r3.2.1) false) (decide (r18 = r19)) false) (decide (r20 = r21)) false) = true) →
        ((((selB (selB (selB (selB (decide (r16 = r17)) (decide (r2.1 = r3.1)) false) (r2.2.1 == r3.2.1) false) (decide (r18 = r19)) false) (decide (r20 = r21)) false) = true) ∧
        (((selB (selB (selB (selB (decide (r16 = r17)) (decide (r2.1 = r3.1)) false) (r2.2.1 == r3.2.1) false) (decide (r18 = r19)) false) (decide (r20 = r21)) false) = true) ∧
        ((selB (selB (selB (selB (decide (r16 = r17)) (decide (r2.1 = r3.1)) false) (r2.2.1 == r3.2.1) false) (decide (r18 = r19)) false) (decide (r20 = r21)) false) = true))) ∧
        CallP Tryd.prog tT (31 : Nat) [(AV.c (Cap.d (Ty.sl (Ty.st (Ty.pair Ty.str (Ty.pair Ty.bool (Ty.pair (Ty.int Go.IntKind.i64) Ty.unit))))) l)), (AV.c (Cap.d (Ty.int Go.IntKind.i64) in_)), (AV.c (Cap.d (Ty.int Go.IntKind.i64) out))] (Ty.int Go.IntKind.i64) r22)) ∧
      ∃ r23 : Int,
      ((((selB (selB (selB (selB (decide (r16 = r17)) (decide (r2.1 = r3.1)) false) (r2.2.1 == r3.2.1) false) (decide (r18 = r19)) false) (decide (r20 = r21)) false) = true) →
        ((((selB (selB (selB (selB (decide (r16 = r17)) (decide (r2.1 = r3.1)) false) (r2.2.1 == r3.2.1) false) (decide (r18 = r19)) false) (decide (r20 = r21)) false) = true) ∧
        (((selB (selB (selB (selB (decide (r16 = r17)) (decide (r2.1 = r3.1)) false) (r2.2.1 == r3.2.1) false) (decide (r18 = r19)) false) (decide (r20 = r21)) false) = true) ∧
        ((selB (selB (selB (selB (decide (r16 = r17)) (decide (r2.1 = r3.1)) false) (r2.2.1 == r3.2.1) false) (decide (r18 = r19)) false) (decide (r20 = r21)) false) = true))) ∧
        CallP Tryd.prog tT (32 : Nat) [(AV.c (Cap.d (Ty.sl (Ty.st (Ty.pair Ty.str (Ty.pair Ty.bool (Ty.pair (Ty.int Go.IntKind.i64) Ty.unit))))) l)), (AV.c (Cap.d (Ty.int Go.IntKind.i64) in_)), (AV.c (Cap.d (Ty.int Go.IntKind.i64) out))] (Ty.int Go.IntKind.i64) r23)) ∧
      ((((selB (selB (selB (selB (decide (r16 = r17)) (decide (r2.1 = r3.1)) false) (r2.2.1 == r3.2.1) false) (decide (r18 = r19)) false) (decide (r20 = r21)) false) = true) →
        (((selB (selB (selB (selB (decide (r16 = r17)) (decide (r2.1 = r3.1)) false) (r2.2.1 == r3.2.1) false) (decide (r18 = r19)) false) (decide (r20 = r21)) false) = true) ∧
        ((selB (selB (selB (selB (decide (r16 = r17)) (decide (r2.1 = r3.1)) false) (r2.2.1 == r3.2.1) false) (decide (r18 = r19)) false) (decide (r20 = r21)) false) = true))) ∧
      ((((selB (selB (selB (selB (decide (r16 = r17)) (decide (r2.1 = r3.1)) false) (r2.2.1 == r3.2.1) false) (decide (r18 = r19)) false) (decide (r20 = r21)) false) = true) →
        ((selB (selB (selB (selB (decide (r16 = r17)) (decide (r2.1 = r3.1)) false) (r2.2.1 == r3.2.1) false) (decide (r18 = r19)) false) (decide (r20 = r21)) false) = true)) ∧
      (((r = true) →
        (r = true)) ∧
      ((((selB r (selB (selB (selB (selB (selB (r4 == r5) (r6 == r7) false) (decide (r8 = r9)) false) (decide (r10 = r11)) false) (decide (r12 = r13)) false) (decide (r14 = r15)) false) false) = true) →
        ((selB r (selB (selB (selB (selB (selB (r4 == r5) (r6 == r7) false) (decide (r8 = r9)) false) (decide (r10 = r11)) false) (decide (r12 = r13)) false) (decide (r14 = r15)) false) false) = true)) ∧
      (R (selB (selB r (selB (selB (selB (selB (selB (r4 == r5) (r6 == r7) false) (decide (r8 = r9)) false) (decide (r10 = r11)) false) (decide (r12 = r13)) false) (decide (r14 = r15)) false) false) (selB (selB (selB (selB (selB (decide (r16 = r17)) (decide (r2.1 = r3.1)) false) (r2.2.1 == r3.2.1) false) (decide (r18 = r19)) false) (decide (r20 = r21)) false) (decide (r22 = r23)) false) false))))))))))))))))))))))))))))))))))))))))))))))))))))))))) : CallP Tryd.prog tT 3 [.d (.sl (.st (.pair .str (.pair .bool (.pair (.int .i64) .unit))))) l, .d .str name, .d (.int .i64) letter, .d (.int .i64) i, .d (.sl (.int .i64)) vals, .d (.int .i64) in_, .d (.int .i64) out] .bool r :=
  callP_of (cx := cx3) (d := 6) mixed tab_ok inl_ok Tryd.func3 ⟨fun _ _ => by kernel_rfl⟩ rfl rfl fun wf => Eq.mpr (by kernel_rfl) (h (fun x => x = r) (fun _ => Iff.rfl) (wf.1 rfl) (wf.2.1 rfl) (wf.2.2.1 rfl) (wf.2.2.2.1 rfl) (wf.2.2.2.2.1 rfl) (wf.2.2.2.2.2.1 rfl) (wf.2.2.2.2.2.2.1 rfl))
set_option maxRecDepth 1000000 in
theorem sf3 (l : (Ty.T (.sl (.st (.pair .str (.pair .bool (.pair (.int .i64) .unit))))))) (name : (Ty.T .str)) (letter : (Ty.T (.int .i64))) (i : (Ty.T (.int .i64))) (vals : (Ty.T (.sl (.int .i64)))) (in_ : (Ty.T (.int .i64))) (out : (Ty.T (.int .i64))) (r : Ty.T .bool) (h : ∀ R : Ty.T .bool → Prop, (∀ x, R x ↔ x = r) → WF (.sl (.st (.pair .str (.pair .bool (.pair (.int .i64) .unit))))) l → WF .str name → WF (.int .i64) letter → WF (.int .i64) i → WF (.sl (.int .i64)) vals → WF (.int .i64) in_ → WF (.int .i64) out → 
    (∃ r : Bool,
    (CallP Tryd.prog tT (9 : Nat) [] Ty.bool r ∧
    (∃ r1 : Bool,
    (CallP Tryd.prog tT (10 : Nat) [(AV.c (Cap.d (Ty.sl (Ty.st (Ty.pair Ty.str (Ty.pair Ty.bool (Ty.pair (Ty.int Go.IntKind.i64) Ty.unit))))) l))] Ty.bool r1 ∧
    (((((r1 = false) ∨ ((20 : Int) < (((List.length vals) : Nat) : Int))) ∨ ((100 : Int) < (((List.length name) : Nat) : Int))) →
      (R r)) ∧
    ((r1 = true) → ((((List.length vals) : Nat) : Int) ≤ (20 : Int)) → ((((List.length name) : Nat) : Int) ≤ (100 : Int)) →
      (∃ r2 : (Int × (Bool × Unit)),
      (CallP Tryd.prog tT (11 : Nat) [(AV.c (Cap.d (Ty.sl (Ty.st (Ty.pair Ty.str (Ty.pair Ty.bool (Ty.pair (Ty.int Go.IntKind.i64) Ty.unit))))) l)), (AV.c (Cap.d (Ty.sl (Ty.int Go.IntKind.i64)) vals))] (Ty.tup (Ty.pair (Ty.int Go.IntKind.i64) (Ty.pair Ty.bool Ty.unit))) r2 ∧
      (∃ r3 : (Int × (Bool × Unit)),
      (CallP Tryd.prog tT (12 : Nat) [(AV.c (Cap.d (Ty.sl (Ty.st (Ty.pair Ty.str (Ty.pair Ty.bool (Ty.pair (Ty.int Go.IntKind.i64) Ty.unit))))) l)), (AV.c (Cap.d (Ty.sl (Ty.int Go.IntKind.i64)) vals))] (Ty.tup (Ty.pair (Ty.int Go.IntKind.i64) (Ty.pair Ty.bool Ty.unit))) r3 ∧
      (∃ r4 : Bool,
      (CallP Tryd.prog tT (13 : Nat) [(AV.c (Cap.d (Ty.sl (Ty.st (Ty.pair Ty.str (Ty.pair Ty.bool (Ty.pair (Ty.int Go.IntKind.i64) Ty.unit))))) l))] Ty.bool r4 ∧
      (∃ r5 : Bool,
      (CallP Tryd.prog tT (14 : Nat) [(AV.c (Cap.d (Ty.sl (Ty.st (Ty.pair Ty.str (Ty.pair Ty.bool (Ty.pair (Ty.int Go.IntKind.i64) Ty.unit))))) l))] Ty.bool r5 ∧
      (∃ r6 : Bool,
      ((((r4 == r5) = true) →
        CallP Tryd.prog tT (15 : Nat) [(AV.c (Cap.d Ty.str name))] Ty.bool r6) ∧
      (∃ r7 : Bool,
      ((((r4 == r5) = true) →
        CallP Tryd.prog tT (16 : Nat) [(AV.c (Cap.d Ty.str name))] Ty.bool r7) ∧
      (∃ r8 : Int,
      ((((r4 == r5) = true) → ((r6 == r7) = true) →
        CallP Tryd.prog tT (17 : Nat) [(AV.c (Cap.d (Ty.sl (Ty.st (Ty.pair Ty.str (Ty.pair Ty.bool (Ty.pair (Ty.int Go.IntKind.i64) Ty.unit))))) l)), (AV.c (Cap.d Ty.str name))] (Ty.int Go.IntKind.i64) r8) ∧
      (∃ r9 : Int,
      ((((r4 == r5) = true) → ((r6 == r7) = true) →
        CallP Tryd.prog tT (18 : Nat) [(AV.c (Cap.d (Ty.sl (Ty.st (Ty.pair Ty.str (Ty.pair Ty.bool (Ty.pair (Ty.int Go.IntKind.i64) Ty.unit))))) l)), (AV.c (Cap.d Ty.str name))] (Ty.int Go.IntKind.i64) r9) ∧
      (∃ r10 : Int,
      ((((r4 == r5) = true) → ((r6 == r7) = true) → (r8 = r9) →
        CallP Tryd.prog tT (19 : Nat) [(AV.c (Cap.d (Ty.sl (Ty.st (Ty.pair Ty.str (Ty.pair Ty.bool (Ty.pair (Ty.int Go.IntKind.i64) Ty.unit))))) l))] (Ty.int Go.IntKind.i64) r10) ∧
      (∃ r11 : Int,
      ((((r4 == r5) = true) → ((r6 == r7) = true) → (r8 = r9) →
        CallP Tryd.prog tT (20 : Nat) [(AV.c (Cap.d (Ty.sl (Ty.st (Ty.pair Ty.str (Ty.pair Ty.bool (Ty.pair (Ty.int Go.IntKind.i64) Ty.unit))))) l))] (Ty.int Go.IntKind.i64) r11) ∧
      (∃ r12 : Int,
      ((((r4 == r5) = true) → ((r6 == r7) = true) → (r8 = r9) → (r10 = r11) →
        CallP Tryd.prog tT (21 : Nat) [(AV.c (Cap.d (Ty.sl (Ty.st (Ty.pair Ty.str (Ty.pair Ty.bool (Ty.pair (Ty.int Go.IntKind.i64) Ty.unit))))) l))] (Ty.int Go.IntKind.i64) r12) ∧
      (∃ r13 : Int,
      ((((r4 == r5) = true) → ((r6 == r7) = true) → (r8 = r9) → (r10 = r11) →
        CallP Tryd.prog tT (22 : Nat) [(AV.c (Cap.d (Ty.sl (Ty.st (Ty.pair Ty.str (Ty.pair Ty.bool (Ty.pair (Ty.int Go.IntKind.i64) Ty.unit))))) l))] (Ty.int Go.IntKind.i64) r13) ∧
      (∃ r14 : Int,
      ((((r4 == r5) = true) → ((r6 == r7) = true) → (r8 = r9) → (r10 = r11) → (r12 = r13) →
        CallP Tryd.prog tT (23 : Nat) [(AV.c (Cap.d (Ty.sl (Ty.st (Ty.pair Ty.str (Ty.pair Ty.bool (Ty.pair (Ty.int Go.IntKind.i64) Ty.unit))))) l))] (Ty.int Go.IntKind.i64) r14) ∧
      (∃ r15 : Int,
      ((((r4 == r5) = true) → ((r6 == r7) = true) → (r8 = r9) → (r10 = r11) → (r12 = r13) →
        CallP Tryd.prog tT (24 : Nat) [(AV.c (Cap.d (Ty.sl (Ty.st (Ty.pair Ty.str (Ty.pair Ty.bool (Ty.pair (Ty.int Go.IntKind.i64) Ty.unit))))) l))] (Ty.int Go.IntKind.i64) r15) ∧
      (∃ r16 : Int,
      (CallP Tryd.prog tT (25 : Nat) [(AV.c (Cap.d (Ty.sl (Ty.st (Ty.pair Ty.str (Ty.pair Ty.bool (Ty.pair (Ty.int Go.IntKind.i64) Ty.unit))))) l)), (AV.c (Cap.d (Ty.int Go.IntKind.i64) letter)), (AV.c (Cap.d (Ty.int Go.IntKind.i64) i))] (Ty.int Go.IntKind.i64) r16 ∧
      (∃ r17 : Int,
      (CallP Tryd.prog tT (26 : Nat) [(AV.c (Cap.d (Ty.sl (Ty.st (Ty.pair Ty.str (Ty.pair Ty.bool (Ty.pair (Ty.int Go.IntKind.i64) Ty.unit))))) l)), (AV.c (Cap.d (Ty.int Go.IntKind.i64) letter)), (AV.c (Cap.d (Ty.int Go.IntKind.i64) i))] (Ty.int Go.IntKind.i64) r17 ∧
      (∃ r18 : Int,
      (((r16 = r17) → (r2.1 = r3.1) → ((r2.2.1 == r3.2.1) = true) →
        CallP Tryd.prog tT (27 : Nat) [(AV.c (Cap.d (Ty.sl (Ty.st (Ty.pair Ty.str (Ty.pair Ty.bool (Ty.pair (Ty.int Go.IntKind.i64) Ty.unit))))) l)), (AV.c (Cap.d (Ty.int Go.IntKind.i64) letter))] (Ty.int Go.IntKind.i64) r18) ∧
      (∃ r19 : Int,
      (((r16 = r17) → (r2.1 = r3.1) → ((r2.2.1 == r3.2.1) = true) →
        CallP Tryd.prog tT (28 : Nat) [(AV.c (Cap.d (Ty.sl (Ty.st (Ty.pair Ty.str (Ty.pair Ty.bool (Ty.pair (Ty.int Go.IntKind.i64) Ty.unit))))) l)), (AV.c (Cap.d (Ty.int Go.IntKind.i64) letter))] (Ty.int Go.IntKind.i64) r19) ∧
      (∃ r20 : Int,
      (((r16 = r17) → (r2.1 = r3.1) → ((r2.2.1 == r3.2.1) = true) → (r18 = r19) →
        CallP Tryd.prog tT (29 : Nat) [(AV.c (Cap.d (Ty.sl (Ty.st (Ty.pair Ty.str (Ty.pair Ty.bool (Ty.pair (Ty.int Go.IntKind.i64) Ty.unit))))) l)), (AV.c (Cap.d (Ty.int Go.IntKind.i64) letter))] (Ty.int Go.IntKind.i64) r20) ∧
      (∃ r21 : Int,
      (((r16 = r17) → (r2.1 = r3.1) → ((r2.2.1 == r3.2.1) = true) → (r18 = r19) →
        CallP Tryd.prog tT (30 : Nat) [(AV.c (Cap.d (Ty.sl (Ty.st (Ty.pair Ty.str (Ty.pair Ty.bool (Ty.pair (Ty.int Go.IntKind.i64) Ty.unit))))) l)), (AV.c (Cap.d (Ty.int Go.IntKind.i64) letter))] (Ty.int Go.IntKind.i64) r21) ∧
      (∃ r22 : Int,
      (((r16 = r17) → (r2.1 = r3.1) → ((r2.2.1 == r3.2.1) = true) → (r18 = r19) → (r20 = r21) →
        CallP Tryd.prog tT (31 : Nat) [(AV.c (Cap.d (Ty.sl (Ty.st (Ty.pair Ty.str (Ty.pair Ty.bool (Ty.pair (Ty.int Go.IntKind.i64) Ty.unit))))) l)), (AV.c (Cap.d (Ty.int Go.IntKind.i64) in_)), (AV.c (Cap.d (Ty.int Go.IntKind.i64) out))] (Ty.int Go.IntKind.i64) r22) ∧
      (∃ r23 : Int,
      (((r16 = r17) → (r2.1 = r3.1) → ((r2.2.1 == r3.2.1) = true) → (r18 = r19) → (r20 = r21) →
        CallP Tryd.prog tT (32 : Nat) [(AV.c (Cap.d (Ty.sl (Ty.st (Ty.pair Ty.str (Ty.pair Ty.bool (Ty.pair (Ty.int Go.IntKind.i64) Ty.unit))))) l)), (AV.c (Cap.d (Ty.int Go.IntKind.i64) in_)), (AV.c (Cap.d (Ty.int Go.IntKind.i64) out))] (Ty.int Go.IntKind.i64) r23) ∧
      (R (selB (selB r (selB (selB (selB (selB (selB (r4 == r5) (r6 == r7) false) (decide (r8 = r9)) false) (decide (r10 = r11)) false) (decide (r12 = r13)) false) (decide (r14 = r15)) false) false) (selB (selB (selB (selB (selB (decide (r16 = r17)) (decide (r2.1 = r3.1)) false) (r2.2.1 == r3.2.1) false) (decide (r18 = r19)) false) (decide (r20 = r21)) false) (decide (r22 = r23)) false) false))))))))))))))))))))))))))))))))))))))))))))))))))))) : CallP Tryd.prog tT 3 [.d (.sl (.st (.pair .str (.pair .bool (.pair (.int .i64) .unit))))) l, .d .str name, .d (.int .i64) letter, .d (.int .i64) i, .d (.sl (.int .i64)) vals, .d (.int .i64) in_, .d (.int .i64) out] .bool r :=
  of3 l name letter i vals in_ out r fun R hR w0_ w1_ w2_ w3_ w4_ w5_ w6_ => have p := h R hR w0_ w1_ w2_ w3_ w4_ w5_ w6_
    (Exists.elim p fun r q1 => Exists.intro r ⟨q1.1, (Exists.elim q1.2 fun r1 q2 => Exists.intro r1 ⟨q2.1, ⟨(fun h10 => h10), ⟨(fun h17 => h17), ⟨(fun h23 => (bnot_t2 h23)), ⟨(fun h28 => h28), ⟨(fun h32 => h32), ⟨(fun h35 => (bnot_t2 h35)), ⟨(fun h41 => (q2.2.1 (Or.imp (fun h => (Or.imp (fun h => (bnot_t h)) (fun h => (of_decide_eq_true h)) (selB_ot h))) (fun h => (of_decide_eq_true h)) (selB_ot h41)))), (fun h43 => (Exists.elim (q2.2.2 (bnot_f (selB_of (selB_of h43).1).1) (Int.not_lt.1 (of_decide_eq_false (selB_of (selB_of h43).1).2)) (Int.not_lt.1 (of_decide_eq_false (selB_of h43).2))) fun r2 q44 => Exists.intro r2 ⟨q44.1, (Exists.elim q44.2 fun r3 q45 => Exists.intro r3 ⟨q45.1, (Exists.elim q45.2 fun r4 q46 => Exists.intro r4 ⟨q46.1, (Exists.elim q46.2 fun r5 q47 => Exists.intro r5 ⟨q47.1, (Exists.elim q47.2 fun r6 q48 => Exists.intro r6 ⟨(fun h54 => ⟨h54, (q48.1 h54)⟩), (Exists.elim q48.2 fun r7 q55 => Exists.intro r7 ⟨(fun h61 => ⟨h61, (q55.1 h61)⟩), ⟨(fun h64 => ⟨h64, h64⟩), ⟨(fun h66 => h66), (Exists.elim q55.2 fun r8 q67 => Exists.intro r8 ⟨(fun h73 => ⟨⟨h73, h73⟩, (q67.1 ((selB_at h73).1) ((selB_at h73).2))⟩), (Exists.elim q67.2 fun r9 q74 => Exists.intro r9 ⟨(fun h80 => ⟨⟨h80, h80⟩, (q74.1 ((selB_at h80).1) ((selB_at h80).2))⟩), ⟨(fun h83 => ⟨h83, h83⟩), ⟨(fun h85 => h85), (Exists.elim q74.2 fun r10 q86 => Exists.intro r10 ⟨(fun h92 => ⟨h92, (q86.1 ((selB_at (selB_at h92).1).1) ((selB_at (selB_at h92).1).2) (of_decide_eq_true (selB_at h92).2))⟩), (Exists.elim q86.2 fun r11 q93 => Exists.intro r11 ⟨(fun h99 => ⟨h99, (q93.1 ((selB_at (selB_at h99).1).1) ((selB_at (selB_at h99).1).2) (of_decide_eq_true (selB_at h99).2))⟩), ⟨(fun h102 => ⟨h102, h102⟩), ⟨(fun h104 => h104), (Exists.elim q93.2 fun r12 q105 => Exists.intro r12 ⟨(fun h111 => ⟨h111, (q105.1 ((selB_at (selB_at (selB_at h111).1).1).1) ((selB_at (selB_at (selB_at h111).1).1).2) (of_decide_eq_true (selB_at (selB_at h111).1).2) (of_decide_eq_true (selB_at h111).2))⟩), (Exists.elim q105.2 fun r13 q112 => Exists.intro r13 ⟨(fun h118 => ⟨h118, (q112.1 ((selB_at (selB_at (selB_at h118).1).1).1) ((selB_at (selB_at (selB_at h118).1).1).2) (of_decide_eq_true (selB_at (selB_at h118).1).2) (of_decide_eq_true (selB_at h118).2))⟩), ⟨(fun h121 => ⟨h121, h121⟩), ⟨(fun h123 => h123), (Exists.elim q112.2 fun r14 q124 => Exists.intro r14 ⟨(fun h130 => ⟨h130, (q124.1 ((selB_at (selB_at (selB_at (selB_at h130).1).1).1).1) ((selB_at (selB_at (selB_at (selB_at h130).1).1).1).2) (of_decide_eq_true (selB_at (selB_at (selB_at h130).1).1).2) (of_decide_eq_true (selB_at (selB_at h130).1).2) (of_decide_eq_true (selB_at h130).2))⟩), (Exists.elim q124.2 fun r15 q131 => Exists.intro r15 ⟨(fun h137 => ⟨h137, (q131.1 ((selB_at (selB_at (selB_at (selB_at h137).1).1).1).1) ((selB_at (selB_at (selB_at (selB_at h137).1).1).1).2) (of_decide_eq_true (selB_at (selB_at (selB_at h137).1).1).2) (of_decide_eq_true (selB_at (selB_at h137).1).2) (of_decide_eq_true (selB_at h137).2))⟩), ⟨(fun h140 => ⟨h140, h140⟩), ⟨(fun h142 => h142), (Exists.elim q131.2 fun r16 q143 => Exists.intro r16 ⟨q143.1, (Exists.elim q143.2 fun r17 q144 => Exists.intro r17 ⟨q144.1, ⟨(fun h149 => ⟨h149, h149⟩), ⟨(fun h153 => h153), ⟨(fun h156 => ⟨h156, h156⟩), ⟨(fun h158 => h158), (Exists.elim q144.2 fun r18 q159 => Exists.intro r18 ⟨(fun h165 => ⟨⟨h165, h165⟩, (q159.1 (of_decide_eq_true (selB_at (selB_at h165).1).1) (of_decide_eq_true (selB_at (selB_at h165).1).2) ((selB_at h165).2))⟩), (Exists.elim q159.2 fun r19 q166 => Exists.intro r19 ⟨(fun h172 => ⟨⟨h172, h172⟩, (q166.1 (of_decide_eq_true (selB_at (selB_at h172).1).1) (of_decide_eq_true (selB_at (selB_at h172).1).2) ((selB_at h172).2))⟩), ⟨(fun h175 => ⟨h175, h175⟩), ⟨(fun h177 => h177), (Exists.elim q166.2 fun r20 q178 => Exists.intro r20 ⟨(fun h184 => ⟨⟨h184, h184⟩, (q178.1 (of_decide_eq_true (selB_at (selB_at (selB_at h184).1).1).1) (of_decide_eq_true (selB_at (selB_at (selB_at h184).1).1).2) ((selB_at (selB_at h184).1).2) (of_decide_eq_true (selB_at h184).2))⟩), (Exists.elim q178.2 fun r21 q185 => Exists.intro r21 ⟨(fun h191 => ⟨⟨h191, h191⟩, (q185.1 (of_decide_eq_true (selB_at (selB_at (selB_at h191).1).1).1) (of_decide_eq_true (selB_at (selB_at (selB_at h191).1).1).2) ((selB_at (selB_at h191).1).2) (of_decide_eq_true (selB_at h191).2))⟩), ⟨(fun h194 => ⟨h194, h194⟩), ⟨(fun h196 => h196), (Exists.elim q185.2 fun r22 q197 => Exists.intro r22 ⟨(fun h203 => ⟨⟨h203, ⟨h203, h203⟩⟩, (q197.1 (of_decide_eq_true (selB_at (selB_at (selB_at (selB_at h203).1).1).1).1) (of_decide_eq_true (selB_at (selB_at (selB_at (selB_at h203).1).1).1).2) ((selB_at (selB_at (selB_at h203).1).1).2) (of_decide_eq_true (selB_at (selB_at h203).1).2) (of_decide_eq_true (selB_at h203).2))⟩), (Exists.elim q197.2 fun r23 q204 => Exists.intro r23 ⟨(fun h210 => ⟨⟨h210, ⟨h210, h210⟩⟩, (q204.1 (of_decide_eq_true (selB_at (selB_at (selB_at (selB_at h210).1).1).1).1) (of_decide_eq_true (selB_at (selB_at (selB_at (selB_at h210).1).1).1).2) ((selB_at (selB_at (selB_at h210).1).1).2) (of_decide_eq_true (selB_at (selB_at h210).1).2) (of_decide_eq_true (selB_at h210).2))⟩), ⟨(fun h215 => ⟨h215, h215⟩), ⟨(fun h219 => h219), ⟨(fun h222 => h222), ⟨(fun h224 => h224), q204.2⟩⟩⟩⟩⟩)⟩)⟩⟩⟩)⟩)⟩⟩⟩)⟩)⟩⟩⟩⟩⟩)⟩)⟩⟩⟩)⟩)⟩⟩⟩)⟩)⟩⟩⟩)⟩)⟩⟩⟩)⟩)⟩⟩⟩)⟩)⟩)⟩)⟩)⟩))⟩⟩⟩⟩⟩⟩⟩⟩)⟩)
/- foresight/foresightlaw01.SignalPairs -/
def cx4 : Cx := { T := tT, own := ownT, frz := [], loops := [(40009, 702, ⟨[.val 5 (.int .i64)], 0⟩), (40019, 1170, ⟨[.val 9 (.int .i64)], 0⟩), (40016, 936, ⟨[.val 8 (.int .i64)], 0⟩)], cuts := [], inl := inlT }
set_option maxRecDepth 1000000 in
theorem of4 (l : (Ty.T (.sl (.st (.pair .str (.pair .bool (.pair (.int .i64) .unit))))))) (r : Ty.T .bool) (h : ∀ R : Ty.T .bool → Prop, (∀ x, R x ↔ x = r) → WF (.sl (.st (.pair .str (.pair .bool (.pair (.int .i64) .unit))))) l → 
    ∃ r : Bool,
    (CallP Tryd.prog tT (9 : Nat) [] Ty.bool r ∧
    ∃ r1 : Bool,
    (CallP Tryd.prog tT (10 : Nat) [(AV.c (Cap.d (Ty.sl (Ty.st (Ty.pair Ty.str (Ty.pair Ty.bool (Ty.pair (Ty.int Go.IntKind.i64) Ty.unit))))) l))] Ty.bool r1 ∧
    ∃ r2 : Bool,
    ((((!(!r1)) = true) →
      (((!(!r1)) = true) ∧
      CallP Tryd.prog tT (13 : Nat) [(AV.c (Cap.d (Ty.sl (Ty.st (Ty.pair Ty.str (Ty.pair Ty.bool (Ty.pair (Ty.int Go.IntKind.i64) Ty.unit))))) l))] Ty.bool r2)) ∧
    ((((!(!r1)) = true) →
      ((!(!r1)) = true)) ∧
    ((((!r1) = false) →
      ((!(!r1)) = true)) ∧
    ((((selB (!r1) true (!r2)) = true) →
      (R r)) ∧
    (((selB (!r1) true (!r2)) = false) →
      ∃ r3 : Int,
      (CallP Tryd.prog tT (19 : Nat) [(AV.c (Cap.d (Ty.sl (Ty.st (Ty.pair Ty.str (Ty.pair Ty.bool (Ty.pair (Ty.int Go.IntKind.i64) Ty.unit))))) l))] (Ty.int Go.IntKind.i64) r3 ∧
      ∃ r4 : Int,
      ((((!(decide ((64 : Int) < r3))) = true) →
        (((!(decide ((64 : Int) < r3))) = true) ∧
        CallP Tryd.prog tT (21 : Nat) [(AV.c (Cap.d (Ty.sl (Ty.st (Ty.pair Ty.str (Ty.pair Ty.bool (Ty.pair (Ty.int Go.IntKind.i64) Ty.unit))))) l))] (Ty.int Go.IntKind.i64) r4)) ∧
      ∃ r5 : Int,
      ((((!(decide ((64 : Int) < r3))) = true) →
        (((!(decide ((64 : Int) < r3))) = true) ∧
        CallP Tryd.prog tT (23 : Nat) [(AV.c (Cap.d (Ty.sl (Ty.st (Ty.pair Ty.str (Ty.pair Ty.bool (Ty.pair (Ty.int Go.IntKind.i64) Ty.unit))))) l))] (Ty.int Go.IntKind.i64) r5)) ∧
      ((((!(decide ((64 : Int) < r3))) = true) →
        ((((!(decide ((64 : Int) < r3))) = true) ∧
        ((!(decide ((64 : Int) < r3))) = true)) ∧
        inK Go.IntKind.i64 (r4 * r5))) ∧
      ((((!(decide ((64 : Int) < r3))) = true) →
        (((!(decide ((64 : Int) < r3))) = true) ∧
        ((!(decide ((64 : Int) < r3))) = true))) ∧
      ((((decide ((64 : Int) < r3)) = false) →
        ((!(decide ((64 : Int) < r3))) = true)) ∧
      ((((!(selB (decide ((64 : Int) < r3)) true (!(decide (r3 = (r4 * r5)))))) = true) →
        ((!(selB (decide ((64 : Int) < r3)) true (!(decide (r3 = (r4 * r5)))))) = true)) ∧
      ((((selB (decide ((64 : Int) < r3)) true (!(decide (r3 = (r4 * r5))))) = false) →
        ((!(selB (decide ((64 : Int) < r3)) true (!(decide (r3 = (r4 * r5)))))) = true)) ∧
      ((((selB (selB (decide ((64 : Int) < r3)) true (!(decide (r3 = (r4 * r5))))) true (decide (r3 < (2 : Int)))) = true) →
        (R false)) ∧
      (((selB (selB (decide ((64 : Int) < r3)) true (!(decide (r3 = (r4 * r5))))) true (decide (r3 < (2 : Int)))) = false) →
        ∃ I : ((Int × Unit) → Prop),
        ∃ μ : ((Int × Unit) → Nat),
        ((I ((0 : Int), ())) ∧
        ∀ x : (Int × Unit),
        ((WF (Ty.int Go.IntKind.i64) x.1 ∧
          True) →
          ((I x) →
            ((((decide (x.1 < r3)) = true) →
              ∃ r6 : Int,
              (CallP Tryd.prog tT (27 : Nat) [(AV.c (Cap.d (Ty.sl (Ty.st (Ty.pair Ty.str (Ty.pair Ty.bool (Ty.pair (Ty.int Go.IntKind.i64) Ty.unit))))) l)), (AV.c (Cap.d (Ty.int Go.IntKind.i64) x.1))] (Ty.int Go.IntKind.i64) r6 ∧
              ∃ r7 : Int,
              (CallP Tryd.prog tT (29 : Nat) [(AV.c (Cap.d (Ty.sl (Ty.st (Ty.pair Ty.str (Ty.pair Ty.bool (Ty.pair (Ty.int Go.IntKind.i64) Ty.unit))))) l)), (AV.c (Cap.d (Ty.int Go.IntKind.i64) x.1))] (Ty.int Go.IntKind.i64) r7 ∧
              ∃ r8 : Int,
              ((((!(decide (r6 < (0 : Int)))) = true) →
                (((!(decide (r6 < (0 : Int)))) = true) ∧
                CallP Tryd.prog tT (21 : Nat) [(AV.c (Cap.d (Ty.sl (Ty.st (Ty.pair Ty.str (Ty.pair Ty.bool (Ty.pair (Ty.int Go.IntKind.i64) Ty.unit))))) l))] (Ty.int Go.IntKind.i64) r8)) ∧
              ((((!(decide (r6 < (0 : Int)))) = true) →
                (((!(decide (r6 < (0 : Int)))) = true) ∧
                ((!(decide (r6 < (0 : Int)))) = true))) ∧
              ((((decide (r6 < (0 : Int))) = false) →
                ((!(decide (r6 < (0 : Int)))) = true)) ∧
              ((((!(selB (decide (r6 < (0 : Int))) true (decide (r8 ≤ r6)))) = true) →
                ((!(selB (decide (r6 < (0 : Int))) true (decide (r8 ≤ r6)))) = true)) ∧
              ((((selB (decide (r6 < (0 : Int))) true (decide (r8 ≤ r6))) = false) →
                ((!(selB (decide (r6 < (0 : Int))) true (decide (r8 ≤ r6)))) = true)) ∧
              ∃ r9 : Int,
              ((((!(selB (selB (decide (r6 < (0 : Int))) true (decide (r8 ≤ r6))) true (decide (r7 < (0 : Int))))) = true) →
                (((!(selB (selB (decide (r6 < (0 : Int))) true (decide (r8 ≤ r6))) true (decide (r7 < (0 : Int))))) = true) ∧
                CallP Tryd.prog tT (23 : Nat) [(AV.c (Cap.d (Ty.sl (Ty.st (Ty.pair Ty.str (Ty.pair Ty.bool (Ty.pair (Ty.int Go.IntKind.i64) Ty.unit))))) l))] (Ty.int Go.IntKind.i64) r9)) ∧
              ((((!(selB (selB (decide (r6 < (0 : Int))) true (decide (r8 ≤ r6))) true (decide (r7 < (0 : Int))))) = true) →
                (((!(selB (selB (decide (r6 < (0 : Int))) true (decide (r8 ≤ r6))) true (decide (r7 < (0 : Int))))) = true) ∧
                ((!(selB (selB (decide (r6 < (0 : Int))) true (decide (r8 ≤ r6))) true (decide (r7 < (0 : Int))))) = true))) ∧
              ((((selB (selB (decide (r6 < (0 : Int))) true (decide (r8 ≤ r6))) true (decide (r7 < (0 : Int)))) = false) →
                ((!(selB (selB (decide (r6 < (0 : Int))) true (decide (r8 ≤ r6))) true (decide (r7 < (0 : Int))))) = true)) ∧
              ∃ r10 : Int,
              ((((!(selB (selB (selB (decide (r6 < (0 : Int))) true (decide (r8 ≤ r6))) true (decide (r7 < (0 : Int)))) true (decide (r9 ≤ r7)))) = true) →
                ((((!(selB (selB (selB (decide (r6 < (0 : Int))) true (decide (r8 ≤ r6))) true (decide (r7 < (0 : Int)))) true (decide (r9 ≤ r7)))) = true) ∧
                (((!(selB (selB (selB (decide (r6 < (0 : Int))) true (decide (r8 ≤ r6))) true (decide (r7 < (0 : Int)))) true (decide (r9 ≤ r7)))) = true) ∧
                ((!(selB (selB (selB (decide (r6 < (0 : Int))) true (decide (r8 ≤ r6))) true (decide (r7 < (0 : Int)))) true (decide (r9 ≤ r7)))) = true))) ∧
                CallP Tryd.prog tT (31 : Nat) [(AV.c (Cap.d (Ty.sl (Ty.st (Ty.pair Ty.str (Ty.pair Ty.bool (Ty.pair (Ty.int Go.IntKind.i64) Ty.unit))))) l)), (AV.c (Cap.d (Ty.int Go.IntKind.i64) r6)), (AV.c (Cap.d (Ty.int Go.IntKind.i64) r7))] (Ty.int Go.IntKind.i64) r10)) ∧
              ((((!(selB (selB (selB (decide (r6 < (0 : Int))) true (decide (r8 ≤ r6))) true (decide (r7 < (0 : Int)))) true (decide (r9 ≤ r7)))) = true) →
                (((!(selB (selB (selB (decide (r6 < (0 : Int))) true (decide (r8 ≤ r6))) true (decide (r7 < (0 : Int)))) true (decide (r9 ≤ r7)))) = true) ∧
                ((!(selB (selB (selB (decide (r6 < (0 : Int))) true (decide (r8 ≤ r6))) true (decide (r7 < (0 : Int)))) true (decide (r9 ≤ r7)))) = true))) ∧
              ((((selB (selB (selB (decide (r6 < (0 : Int))) true (decide (r8 ≤ r6))) true (decide (r7 < (0 : Int)))) true (decide (r9 ≤ r7))) = false) →
                ((!(selB (selB (selB (decide (r6 < (0 : Int))) true (decide (r8 ≤ r6))) true (decide (r7 < (0 : Int)))) true (decide (r9 ≤ r7)))) = true)) ∧
              ((((selB (selB (selB (selB (decide (r6 < (0 : Int))) true (decide (r8 ≤ r6))) true (decide (r7 < (0 : Int)))) true (decide (r9 ≤ r7))) true (!(decide (r10 = x.1)))) = true) →
                (R false)) ∧
              (((selB (selB (selB (selB (decide (r6 < (0 : Int))) true (decide (r8 ≤ r6))) true (decide (r7 < (0 : Int)))) true (decide (r9 ≤ r7))) true (!(decide (r10 = x.1)))) = false) →
                (inK Go.IntKind.i64 (x.1 + (1 : Int)) ∧
                ((I ((x.1 + (1 : Int)), ())) ∧
                ((μ ((x.1 + (1 : Int)), ())) < (μ x)))))))))))))))))))) ∧
            (((decide (x.1 < r3)) = false) →
              ∃ I1 : ((Int × Unit) → Prop),
              ∃ μ1 : ((Int × Unit) → Nat),
              ((I1 ((0 : Int), ())) ∧
              ∀ x1 : (Int × Unit),
              ((WF (Ty.int Go.IntKind.i64) x1.1 ∧
                True) →
                ((I1 x1) →
                  ∃ r6 : Int,
                  (CallP Tryd.prog tT (21 : Nat) [(AV.c (Cap.d (Ty.sl (Ty.st (Ty.pair Ty.str (Ty.pair Ty.bool (Ty.pair (Ty.int Go.IntKind.i64) Ty.unit))))) l))] (Ty.int Go.IntKind.i64) r6 ∧
                  ((((decide (x1.1 < r6)) = true) →
                    ∃ I2 : ((Int × Unit) → Prop),
                    ∃ μ2 : ((Int × Unit) → Nat),
                    ((I2 ((0 : Int), ())) ∧
                    ∀ x2 : (Int × Unit),
                    ((WF (Ty.int Go.IntKind.i64) x2.1 ∧
                      True) →
                      ((I2 x2) →
                        ∃ r7 : Int,
                        (CallP Tryd.prog tT (23 : Nat) [(AV.c (Cap.d (Ty.sl (Ty.st (Ty.pair Ty.str (Ty.pair Ty.bool (Ty.pair (Ty.int Go.IntKind.i64) Ty.unit))))) l))] (Ty.int Go.IntKind.i64) r7 ∧
                        ((((decide (x2.1 < r7)) = true) →
                          ((decide (x2.1 < r7)) = true)) ∧
                        ((((decide (x2.1 < r7)) = true) →
                          ((decide (x2.1 < r7)) = true)) ∧
                        ((((selB (decide (x2.1 < r7)) (decide (x2.1 < (64 : Int))) false) = true) →
                          ∃ r8 : Int,
                          (CallP Tryd.prog tT (31 : Nat) [(AV.c (Cap.d (Ty.sl (Ty.st (Ty.pair Ty.str (Ty.pair Ty.bool (Ty.pair (Ty.int Go.IntKind.i64) Ty.unit))))) l)), (AV.c (Cap.d (Ty.int Go.IntKind.i64) x1.1)), (AV.c (Cap.d (Ty.int Go.IntKind.i64) x2.1))] (Ty.int Go.IntKind.i64) r8 ∧
                          ((((!(decide (r8 < (0 : Int)))) = true) →
                            (((!(decide (r8 < (0 : Int)))) = true) ∧
                            ((!(decide (r8 < (0 : Int)))) = true))) ∧
                          ((((decide (r8 < (0 : Int))) = false) →
                            ((!(decide (r8 < (0 : Int)))) = true)) ∧
                          ∃ r9 : Int,
                          ((((!(selB (decide (r8 < (0 : Int))) true (decide (r3 ≤ r8)))) = true) →
                            ((((!(selB (decide (r8 < (0 : Int))) true (decide (r3 ≤ r8)))) = true) ∧
                            ((!(selB (decide (r8 < (0 : Int))) true (decide (r3 ≤ r8)))) = true)) ∧
                            CallP Tryd.prog tT (27 : Nat) [(AV.c (Cap.d (Ty.sl (Ty.st (Ty.pair Ty.str (Ty.pair Ty.bool (Ty.pair (Ty.int Go.IntKind.i64) Ty.unit))))) l)), (AV.c (Cap.d (Ty.int Go.IntKind.i64) r8))] (Ty.int Go.IntKind.i64) r9)) ∧
                          ((((!(selB (decide (r8 < (0 : Int))) true (decide (r3 ≤ r8)))) = true) →
                            (((!(selB (decide (r8 < (0 : Int))) true (decide (r3 ≤ r8)))) = true) ∧
                            ((!(selB (decide (r8 < (0 : Int))) true (decide (r3 ≤ r8)))) = true))) ∧
                          ((((selB (decide (r8 < (0 : Int))) true (decide (r3 ≤ r8))) = false) →
                            ((!(selB (decide (r8 < (0 : Int))) true (decide (r3 ≤ r8)))) = true)) ∧
                          ∃ r10 : Int,
                          ((((!(selB (selB (decide (r8 < (0 : Int))) true (decide (r3 ≤ r8))) true (!(decide (r9 = x1.1))))) = true) →
                            ((((!(selB (selB (decide (r8 < (0 : Int))) true (decide (r3 ≤ r8))) true (!(decide (r9 = x1.1))))) = true) ∧
                            ((!(selB (selB (decide (r8 < (0 : Int))) true (decide (r3 ≤ r8))) true (!(decide (r9 = x1.1))))) = true)) ∧
                            CallP Tryd.prog tT (29 : Nat) [(AV.c (Cap.d (Ty.sl (Ty.st (Ty.pair Ty.str (Ty.pair Ty.bool (Ty.pair (Ty.int Go.IntKind.i64) Ty.unit))))) l)), (AV.c (Cap.d (Ty.int Go.IntKind.i64) r8))] (Ty.int Go.IntKind.i64) r10)) ∧
                          ((((!(selB (selB (decide (r8 < (0 : Int))) true (decide (r3 ≤ r8))) true (!(decide (r9 = x1.1))))) = true) →
                            (((!(selB (selB (decide (r8 < (0 : Int))) true (decide (r3 ≤ r8))) true (!(decide (r9 = x1.1))))) = true) ∧
                            ((!(selB (selB (decide (r8 < (0 : Int))) true (decide (r3 ≤ r8))) true (!(decide (r9 = x1.1))))) = true))) ∧
                          ((((selB (selB (decide (r8 < (0 : Int))) true (decide (r3 ≤ r8))) true (!(decide (r9 = x1.1)))) = false) →
                            ((!(selB (selB (decide (r8 < (0 : Int))) true (decide (r3 ≤ r8))) true (!(decide (r9 = x1.1))))) = true)) ∧
                          ((((selB (selB (selB (decide (r8 < (0 : Int))) true (decide (r3 ≤ r8))) true (!(decide (r9 = x1.1)))) true (!(decide (r10 = x2.1)))) = true) →
                            (R false)) ∧
                          (((selB (selB (selB (decide (r8 < (0 : Int))) true (decide (r3 ≤ r8))) true (!(decide (r9 = x1.1)))) true (!(decide (r10 = x2.1)))) = false) →
                            (inK Go.IntKind.i64 (x2.1 + (1 : Int)) ∧
                            ((I2 ((x2.1 + (1 : Int)), ())) ∧
                            ((μ2 ((x2.1 + (1 : Int)), ())) < (μ2 x2)))))))))))))))) ∧
                        (((selB (decide (x2.1 < r7)) (decide (x2.1 < (64 : Int))) false) = false) →
                          (inK Go.IntKind.i64 (x1.1 + (1 : Int)) ∧
                          ((I1 ((x1.1 + (1 : Int)), ())) ∧
                          ((μ1 ((x1.1 + (1 : Int)), ())) < (μ1 x1))))))))))))) ∧
                  (((decide (x1.1 < r6)) = false) →
                    (R r)))))))))))))))))))))))))))))) : CallP Tryd.prog tT 4 [.d (.sl (.st (.pair .str (.pair .bool (.pair (.int .i64) .unit))))) l] .bool r :=
  callP_of (cx := cx4) (d := 6) mixed tab_ok inl_ok Tryd.func4 ⟨fun _ _ => by kernel_rfl⟩ rfl rfl fun wf => Eq.mpr (by kernel_rfl) (h (fun x => x = r) (fun _ => Iff.rfl) (wf.1 rfl))
set_option maxRecDepth 1000000 in
theorem sf4 (l : (Ty.T (.sl (.st (.pair .str (.pair .bool (.pair (.int .i64) .unit))))))) (r : Ty.T .bool) (h : ∀ R : Ty.T .bool → Prop, (∀ x, R x ↔ x = r) → WF (.sl (.st (.pair .str (.pair .bool (.pair (.int .i64) .unit))))) l → 
    (∃ r : Bool,
    (CallP Tryd.prog tT (9 : Nat) [] Ty.bool r ∧
    (∃ r1 : Bool,
    (CallP Tryd.prog tT (10 : Nat) [(AV.c (Cap.d (Ty.sl (Ty.st (Ty.pair Ty.str (Ty.pair Ty.bool (Ty.pair (Ty.int Go.IntKind.i64) Ty.unit))))) l))] Ty.bool r1 ∧
    (∃ r2 : Bool,
    (((r1 = true) →
      CallP Tryd.prog tT (13 : Nat) [(AV.c (Cap.d (Ty.sl (Ty.st (Ty.pair Ty.str (Ty.pair Ty.bool (Ty.pair (Ty.int Go.IntKind.i64) Ty.unit))))) l))] Ty.bool r2) ∧
    ((((r1 = false) ∨ (r2 = false)) →
      (R r)) ∧
    ((r1 = true) → (r2 = true) →
      (∃ r3 : Int,
      (CallP Tryd.prog tT (19 : Nat) [(AV.c (Cap.d (Ty.sl (Ty.st (Ty.pair Ty.str (Ty.pair Ty.bool (Ty.pair (Ty.int Go.IntKind.i64) Ty.unit))))) l))] (Ty.int Go.IntKind.i64) r3 ∧
      (∃ r4 : Int,
      (((r3 ≤ (64 : Int)) →
        CallP Tryd.prog tT (21 : Nat) [(AV.c (Cap.d (Ty.sl (Ty.st (Ty.pair Ty.str (Ty.pair Ty.bool (Ty.pair (Ty.int Go.IntKind.i64) Ty.unit))))) l))] (Ty.int Go.IntKind.i64) r4) ∧
      (∃ r5 : Int,
      (((r3 ≤ (64 : Int)) →
        CallP Tryd.prog tT (23 : Nat) [(AV.c (Cap.d (Ty.sl (Ty.st (Ty.pair Ty.str (Ty.pair Ty.bool (Ty.pair (Ty.int Go.IntKind.i64) Ty.unit))))) l))] (Ty.int Go.IntKind.i64) r5) ∧
      (((r3 ≤ (64 : Int)) →
        inK Go.IntKind.i64 (r4 * r5)) ∧
      ((((((64 : Int) < r3) ∨ (¬ (r3 = (r4 * r5)))) ∨ (r3 < (2 : Int))) →
        (R false)) ∧
      ((r3 ≤ (64 : Int)) → (r3 = (r4 * r5)) → ((2 : Int) ≤ r3) →
        (∃ I : ((Int × Unit) → Prop),
        (∃ μ : ((Int × Unit) → Nat),
        ((I ((0 : Int), ())) ∧
        (∀ x : (Int × Unit),
        ((WF (Ty.int Go.IntKind.i64) x.1 ∧
          True) →
          ((I x) →
            (((x.1 < r3) →
              (∃ r6 : Int,
              (CallP Tryd.prog tT (27 : Nat) [(AV.c (Cap.d (Ty.sl (Ty.st (Ty.pair Ty.str (Ty.pair Ty.bool (Ty.pair (Ty.int Go.IntKind.i64) Ty.unit))))) l)), (AV.c (Cap.d (Ty.int Go.IntKind.i64) x.1))] (Ty.int Go.IntKind.i64) r6 ∧
              (∃ r7 : Int,
              (CallP Tryd.prog tT (29 : Nat) [(AV.c (Cap.d (Ty.sl (Ty.st (Ty.pair Ty.str (Ty.pair Ty.bool (Ty.pair (Ty.int Go.IntKind.i64) Ty.unit))))) l)), (AV.c (Cap.d (Ty.int Go.IntKind.i64) x.1))] (Ty.int Go.IntKind.i64) r7 ∧
              (∃ r8 : Int,
              ((((0 : Int) ≤ r6) →
                CallP Tryd.prog tT (21 : Nat) [(AV.c (Cap.d (Ty.sl (Ty.st (Ty.pair Ty.str (Ty.pair Ty.bool (Ty.pair (Ty.int Go.IntKind.i64) Ty.unit))))) l))] (Ty.int Go.IntKind.i64) r8) ∧
              (∃ r9 : Int,
              ((((0 : Int) ≤ r6) → (r6 < r8) → ((0 : Int) ≤ r7) →
                CallP Tryd.prog tT (23 : Nat) [(AV.c (Cap.d (Ty.sl (Ty.st (Ty.pair Ty.str (Ty.pair Ty.bool (Ty.pair (Ty.int Go.IntKind.i64) Ty.unit))))) l))] (Ty.int Go.IntKind.i64) r9) ∧
              (∃ r10 : Int,
              ((((0 : Int) ≤ r6) → (r6 < r8) → ((0 : Int) ≤ r7) → (r7 < r9) →
                CallP Tryd.prog tT (31 : Nat) [(AV.c (Cap.d (Ty.sl (Ty.st (Ty.pair Ty.str (Ty.pair Ty.bool (Ty.pair (Ty.int Go.IntKind.i64) Ty.unit))))) l)), (AV.c (Cap.d (Ty.int Go.IntKind.i64) r6)), (AV.c (Cap.d (Ty.int Go.IntKind.i64) r7))] (Ty.int Go.IntKind.i64) r10) ∧
              (((((((r6 < (0 : Int)) ∨ (r8 ≤ r6)) ∨ (r7 < (0 : Int))) ∨ (r9 ≤ r7)) ∨ (¬ (r10 = x.1))) →
                (R false)) ∧
              (((0 : Int) ≤ r6) → (r6 < r8) → ((0 : Int) ≤ r7) → (r7 < r9) → (r10 = x.1) →
                (inK Go.IntKind.i64 (x.1 + (1 : Int)) ∧
                ((I ((x.1 + (1 : Int)), ())) ∧
                ((μ ((x.1 + (1 : Int)), ())) < (μ x))))))))))))))))) ∧
            ((r3 ≤ x.1) →
              (∃ I1 : ((Int × Unit) → Prop),
              (∃ μ1 : ((Int × Unit) → Nat),
              ((I1 ((0 : Int), ())) ∧
              (∀ x1 : (Int × Unit),
              ((WF (Ty.int Go.IntKind.i64) x1.1 ∧
                True) →
                ((I1 x1) →
                  (∃ r6 : Int,
                  (CallP Tryd.prog tT (21 : Nat) [(AV.c (Cap.d (Ty.sl (Ty.st (Ty.pair Ty.str (Ty.pair Ty.bool (Ty.pair (Ty.int Go.IntKind.i64) Ty.unit))))) l))] (Ty.int Go.IntKind.i64) r6 ∧
                  (((x1.1 < r6) →
                    (∃ I2 : ((Int × Unit) → Prop),
                    (∃ μ2 : ((Int × Unit) → Nat),
                    ((I2 ((0 : Int), ())) ∧
                    (∀ x2 : (Int × Unit),
                    ((WF (Ty.int Go.IntKind.i64) x2.1 ∧
                      True) →
                      ((I2 x2) →
                        (∃ r7 : Int,
                        (CallP Tryd.prog tT (23 : Nat) [(AV.c (Cap.d (Ty.sl (Ty.st (Ty.pair Ty.str (Ty.pair Ty.bool (Ty.pair (Ty.int Go.IntKind.i64) Ty.unit))))) l))] (Ty.int Go.IntKind.i64) r7 ∧
                        (((x2.1 < r7) → (x2.1 < (64 : Int)) →
                          (∃ r8 : Int,
                          (CallP Tryd.prog tT (31 : Nat) [(AV.c (Cap.d (Ty.sl (Ty.st (Ty.pair Ty.str (Ty.pair Ty.bool (Ty.pair (Ty.int Go.IntKind.i64) Ty.unit))))) l)), (AV.c (Cap.d (Ty.int Go.IntKind.i64) x1.1)), (AV.c (Cap.d (Ty.int Go.IntKind.i64) x2.1))] (Ty.int Go.IntKind.i64) r8 ∧
                          (∃ r9 : Int,
                          ((((0 : Int) ≤ r8) → (r8 < r3) →
                            CallP Tryd.prog tT (27 : Nat) [(AV.c (Cap.d (Ty.sl (Ty.st (Ty.pair Ty.str (Ty.pair Ty.bool (Ty.pair (Ty.int Go.IntKind.i64) Ty.unit))))) l)), (AV.c (Cap.d (Ty.int Go.IntKind.i64) r8))] (Ty.int Go.IntKind.i64) r9) ∧
                          (∃ r10 : Int,
                          ((((0 : Int) ≤ r8) → (r8 < r3) → (r9 = x1.1) →
                            CallP Tryd.prog tT (29 : Nat) [(AV.c (Cap.d (Ty.sl (Ty.st (Ty.pair Ty.str (Ty.pair Ty.bool (Ty.pair (Ty.int Go.IntKind.i64) Ty.unit))))) l)), (AV.c (Cap.d (Ty.int Go.IntKind.i64) r8))] (Ty.int Go.IntKind.i64) r10) ∧
                          ((((((r8 < (0 : Int)) ∨ (r3 ≤ r8)) ∨ (¬ (r9 = x1.1))) ∨ (¬ (r10 = x2.1))) →
                            (R false)) ∧
                          (((0 : Int) ≤ r8) → (r8 < r3) → (r9 = x1.1) → (r10 = x2.1) →
                            (inK Go.IntKind.i64 (x2.1 + (1 : Int)) ∧
                            ((I2 ((x2.1 + (1 : Int)), ())) ∧
                            ((μ2 ((x2.1 + (1 : Int)), ())) < (μ2 x2))))))))))))) ∧
                        (((r7 ≤ x2.1) ∨ ((64 : Int) ≤ x2.1)) →
                          (inK Go.IntKind.i64 (x1.1 + (1 : Int)) ∧
                          ((I1 ((x1.1 + (1 : Int)), ())) ∧
                          ((μ1 ((x1.1 + (1 : Int)), ())) < (μ1 x1))))))))))))))) ∧
                  ((r6 ≤ x1.1) →
                    (R r))))))))))))))))))))))))))))))))))))) : CallP Tryd.prog tT 4 [.d (.sl (.st (.pair .str (.pair .bool (.pair (.int .i64) .unit))))) l] .bool r :=
  of4 l r fun R hR w0_ => have p := h R hR w0_
    (Exists.elim p fun r q1 => Exists.intro r ⟨q1.1, (Exists.elim q1.2 fun r1 q2 => Exists.intro r1 ⟨q2.1, (Exists.elim q2.2 fun r2 q3 => Exists.intro r2 ⟨(fun h9 => ⟨h9, (q3.1 (bnot_f (bnot_t h9)))⟩), ⟨(fun h13 => h13), ⟨(fun h16 => (bnot_t2 h16)), ⟨(fun h22 => (q3.2.1 (Or.imp (fun h => (bnot_t h)) (fun h => (bnot_t h)) (selB_ot h22)))), (fun h24 => (Exists.elim (q3.2.2 (bnot_f (selB_of h24).1) (bnot_f (selB_of h24).2)) fun r3 q25 => Exists.intro r3 ⟨q25.1, (Exists.elim q25.2 fun r4 q26 => Exists.intro r4 ⟨(fun h32 => ⟨h32, (q26.1 (Int.not_lt.1 (of_decide_eq_false (bnot_t h32))))⟩), (Exists.elim q26.2 fun r5 q33 => Exists.intro r5 ⟨(fun h39 => ⟨h39, (q33.1 (Int.not_lt.1 (of_decide_eq_false (bnot_t h39))))⟩), ⟨(fun h45 => ⟨⟨h45, h45⟩, (q33.2.1 (Int.not_lt.1 (of_decide_eq_false (bnot_t h45))))⟩), ⟨(fun h51 => ⟨h51, h51⟩), ⟨(fun h56 => (bnot_t2 h56)), ⟨(fun h60 => h60), ⟨(fun h63 => (bnot_t2 h63)), ⟨(fun h69 => (q33.2.2.1 (Or.imp (fun h => (Or.imp (fun h => (of_decide_eq_true h)) (fun h => (of_decide_eq_false (bnot_t h))) (selB_ot h))) (fun h => (of_decide_eq_true h)) (selB_ot h69)))), (fun h71 => (Exists.elim (q33.2.2.2 (Int.not_lt.1 (of_decide_eq_false (selB_of (selB_of h71).1).1)) (of_decide_eq_true (bnot_f (selB_of (selB_of h71).1).2)) (Int.not_lt.1 (of_decide_eq_false (selB_of h71).2))) fun I q72 => Exists.intro I (Exists.elim q72 fun μ q73 => Exists.intro μ ⟨q73.1, (fun x => (fun h74 => (fun h75 => ⟨(fun h138 => (Exists.elim ((((q73.2 x) h74) h75).1 (of_decide_eq_true h138)) fun r6 q139 => Exists.intro r6 ⟨q139.1, (Exists.elim q139.2 fun r7 q140 => Exists.intro r7 ⟨q140.1, (Exists.elim q140.2 fun r8 q141 => Exists.intro r8 ⟨(fun h147 => ⟨h147, (q141.1 (Int.not_lt.1 (of_decide_eq_false (bnot_t h147))))⟩), ⟨(fun h152 => ⟨h152, h152⟩), ⟨(fun h156 => (bnot_t2 h156)), ⟨(fun h159 => h159), ⟨(fun h161 => (bnot_t2 h161)), (Exists.elim q141.2 fun r9 q162 => Exists.intro r9 ⟨(fun h168 => ⟨h168, (q162.1 (Int.not_lt.1 (of_decide_eq_false (selB_of (selB_of (bnot_t h168)).1).1)) (Int.not_le.1 (of_decide_eq_false (selB_of (selB_of (bnot_t h168)).1).2)) (Int.not_lt.1 (of_decide_eq_false (selB_of (bnot_t h168)).2)))⟩), ⟨(fun h171 => ⟨h171, h171⟩), ⟨(fun h173 => (bnot_t2 h173)), (Exists.elim q162.2 fun r10 q174 => Exists.intro r10 ⟨(fun h180 => ⟨⟨h180, ⟨h180, h180⟩⟩, (q174.1 (Int.not_lt.1 (of_decide_eq_false (selB_of (selB_of (selB_of (bnot_t h180)).1).1).1)) (Int.not_le.1 (of_decide_eq_false (selB_of (selB_of (selB_of (bnot_t h180)).1).1).2)) (Int.not_lt.1 (of_decide_eq_false (selB_of (selB_of (bnot_t h180)).1).2)) (Int.not_le.1 (of_decide_eq_false (selB_of (bnot_t h180)).2)))⟩), ⟨(fun h184 => ⟨h184, h184⟩), ⟨(fun h187 => (bnot_t2 h187)), ⟨(fun h193 => (q174.2.1 (Or.imp (fun h => (Or.imp (fun h => (Or.imp (fun h => (Or.imp (fun h => (of_decide_eq_true h)) (fun h => (of_decide_eq_true h)) (selB_ot h))) (fun h => (of_decide_eq_true h)) (selB_ot h))) (fun h => (of_decide_eq_true h)) (selB_ot h))) (fun h => (of_decide_eq_false (bnot_t h))) (selB_ot h193)))), (fun h195 => ⟨(q174.2.2 (Int.not_lt.1 (of_decide_eq_false (selB_of (selB_of (selB_of (selB_of h195).1).1).1).1)) (Int.not_le.1 (of_decide_eq_false (selB_of (selB_of (selB_of (selB_of h195).1).1).1).2)) (Int.not_lt.1 (of_decide_eq_false (selB_of (selB_of (selB_of h195).1).1).2)) (Int.not_le.1 (of_decide_eq_false (selB_of (selB_of h195).1).2)) (of_decide_eq_true (bnot_f (selB_of h195).2))).1, ⟨(q174.2.2 (Int.not_lt.1 (of_decide_eq_false (selB_of (selB_of (selB_of (selB_of h195).1).1).1).1)) (Int.not_le.1 (of_decide_eq_false (selB_of (selB_of (selB_of (selB_of h195).1).1).1).2)) (Int.not_lt.1 (of_decide_eq_false (selB_of (selB_of (selB_of h195).1).1).2)) (Int.not_le.1 (of_decide_eq_false (selB_of (selB_of h195).1).2)) (of_decide_eq_true (bnot_f (selB_of h195).2))).2.1, (q174.2.2 (Int.not_lt.1 (of_decide_eq_false (selB_of (selB_of (selB_of (selB_of h195).1).1).1).1)) (Int.not_le.1 (of_decide_eq_false (selB_of (selB_of (selB_of (selB_of h195).1).1).1).2)) (Int.not_lt.1 (of_decide_eq_false (selB_of (selB_of (selB_of h195).1).1).2)) (Int.not_le.1 (of_decide_eq_false (selB_of (selB_of h195).1).2)) (of_decide_eq_true (bnot_f (selB_of h195).2))).2.2⟩⟩)⟩⟩⟩⟩)⟩⟩⟩)⟩⟩⟩⟩⟩)⟩)⟩)), (fun h197 => (Exists.elim ((((q73.2 x) h74) h75).2 (Int.not_lt.1 (of_decide_eq_false h197))) fun I1 q198 => Exists.intro I1 (Exists.elim q198 fun μ1 q199 => Exists.intro μ1 ⟨q199.1, (fun x1 => (fun h200 => (fun h201 => (Exists.elim (((q199.2 x1) h200) h201) fun r6 q202 => Exists.intro r6 ⟨q202.1, ⟨(fun h308 => (Exists.elim (q202.2.1 (of_decide_eq_true h308)) fun I2 q309 => Exists.intro I2 (Exists.elim q309 fun μ2 q310 => Exists.intro μ2 ⟨q310.1, (fun x2 => (fun h311 => (fun h312 => (Exists.elim (((q310.2 x2) h311) h312) fun r7 q313 => Exists.intro r7 ⟨q313.1, ⟨(fun h317 => h317), ⟨(fun h320 => h320), ⟨(fun h366 => (Exists.elim (q313.2.1 (of_decide_eq_true (selB_at h366).1) (of_decide_eq_true (selB_at h366).2)) fun r8 q367 => Exists.intro r8 ⟨q367.1, ⟨(fun h370 => ⟨h370, h370⟩), ⟨(fun h372 => (bnot_t2 h372)), (Exists.elim q367.2 fun r9 q373 => Exists.intro r9 ⟨(fun h379 => ⟨⟨h379, h379⟩, (q373.1 (Int.not_lt.1 (of_decide_eq_false (selB_of (bnot_t h379)).1)) (Int.not_le.1 (of_decide_eq_false (selB_of (bnot_t h379)).2)))⟩), ⟨(fun h382 => ⟨h382, h382⟩), ⟨(fun h384 => (bnot_t2 h384)), (Exists.elim q373.2 fun r10 q385 => Exists.intro r10 ⟨(fun h391 => ⟨⟨h391, h391⟩, (q385.1 (Int.not_lt.1 (of_decide_eq_false (selB_of (selB_of (bnot_t h391)).1).1)) (Int.not_le.1 (of_decide_eq_false (selB_of (selB_of (bnot_t h391)).1).2)) (of_decide_eq_true (bnot_f (selB_of (bnot_t h391)).2)))⟩), ⟨(fun h395 => ⟨h395, h395⟩), ⟨(fun h398 => (bnot_t2 h398)), ⟨(fun h404 => (q385.2.1 (Or.imp (fun h => (Or.imp (fun h => (Or.imp (fun h => (of_decide_eq_true h)) (fun h => (of_decide_eq_true h)) (selB_ot h))) (fun h => (of_decide_eq_false (bnot_t h))) (selB_ot h))) (fun h => (of_decide_eq_false (bnot_t h))) (selB_ot h404)))), (fun h406 => ⟨(q385.2.2 (Int.not_lt.1 (of_decide_eq_false (selB_of (selB_of (selB_of h406).1).1).1)) (Int.not_le.1 (of_decide_eq_false (selB_of (selB_of (selB_of h406).1).1).2)) (of_decide_eq_true (bnot_f (selB_of (selB_of h406).1).2)) (of_decide_eq_true (bnot_f (selB_of h406).2))).1, ⟨(q385.2.2 (Int.not_lt.1 (of_decide_eq_false (selB_of (selB_of (selB_of h406).1).1).1)) (Int.not_le.1 (of_decide_eq_false (selB_of (selB_of (selB_of h406).1).1).2)) (of_decide_eq_true (bnot_f (selB_of (selB_of h406).1).2)) (of_decide_eq_true (bnot_f (selB_of h406).2))).2.1, (q385.2.2 (Int.not_lt.1 (of_decide_eq_false (selB_of (selB_of (selB_of h406).1).1).1)) (Int.not_le.1 (of_decide_eq_false (selB_of (selB_of (selB_of h406).1).1).2)) (of_decide_eq_true (bnot_f (selB_of (selB_of h406).1).2)) (of_decide_eq_true (bnot_f (selB_of h406).2))).2.2⟩⟩)⟩⟩⟩⟩)⟩⟩⟩)⟩⟩⟩)), (fun h408 => ⟨(q313.2.2 (Or.imp (fun h => (Int.not_lt.1 (of_decide_eq_false h))) (fun h => (Int.not_lt.1 (of_decide_eq_false h))) (selB_af h408))).1, ⟨(q313.2.2 (Or.imp (fun h => (Int.not_lt.1 (of_decide_eq_false h))) (fun h => (Int.not_lt.1 (of_decide_eq_false h))) (selB_af h408))).2.1, (q313.2.2 (Or.imp (fun h => (Int.not_lt.1 (of_decide_eq_false h))) (fun h => (Int.not_lt.1 (of_decide_eq_false h))) (selB_af h408))).2.2⟩⟩)⟩⟩⟩⟩))))⟩))), (fun h410 => (q202.2.2 (Int.not_lt.1 (of_decide_eq_false h410))))⟩⟩))))⟩)))⟩)))⟩)))⟩⟩⟩⟩⟩⟩⟩)⟩)⟩))⟩⟩⟩⟩)⟩)⟩)
/- foresight/foresightlaw01.SignalValues -/
def cx5 : Cx := { T := tT, own := ownT, frz := [], loops := [(50016, 1221, ⟨[.val 11 (.int .i64)], 0⟩), (50009, 666, ⟨[.val 7 (.int .i64)], 0⟩)], cuts := [], inl := inlT }
set_option maxRecDepth 1000000 in
theorem of5 (l : (Ty.T (.sl (.st (.pair .str (.pair .bool (.pair (.int .i64) .unit))))))) (vals : (Ty.T (.sl (.int .i64)))) (r : Ty.T .bool) (h : ∀ R : Ty.T .bool → Prop, (∀ x, R x ↔ x = r) → WF (.sl (.st (.pair .str (.pair .bool (.pair (.int .i64) .unit))))) l → WF (.sl (.int .i64)) vals → 
    ∃ r : Bool,
    (CallP Tryd.prog tT (9 : Nat) [] Ty.bool r ∧
    ∃ r1 : Bool,
    (CallP Tryd.prog tT (10 : Nat) [(AV.c (Cap.d (Ty.sl (Ty.st (Ty.pair Ty.str (Ty.pair Ty.bool (Ty.pair (Ty.int Go.IntKind.i64) Ty.unit))))) l))] Ty.bool r1 ∧
    ∃ r2 : Bool,
    ((((!(!r1)) = true) →
      (((!(!r1)) = true) ∧
      CallP Tryd.prog tT (13 : Nat) [(AV.c (Cap.d (Ty.sl (Ty.st (Ty.pair Ty.str (Ty.pair Ty.bool (Ty.pair (Ty.int Go.IntKind.i64) Ty.unit))))) l))] Ty.bool r2)) ∧
    ((((!(!r1)) = true) →
      ((!(!r1)) = true)) ∧
    ((((!r1) = false) →
      ((!(!r1)) = true)) ∧
    ((((!(selB (!r1) true (!r2))) = true) →
      ((!(selB (!r1) true (!r2))) = true)) ∧
    ((((!(selB (!r1) true (!r2))) = true) →
      ((!(selB (!r1) true (!r2))) = true)) ∧
    ((((selB (!r1) true (!r2)) = false) →
      ((!(selB (!r1) true (!r2))) = true)) ∧
    ((((selB (selB (!r1) true (!r2)) true (decide ((20 : Int) < (((List.length vals) : Nat) : Int)))) = true) →
      (R r)) ∧
    (((selB (selB (!r1) true (!r2)) true (decide ((20 : Int) < (((List.length vals) : Nat) : Int)))) = false) →
      ∃ r3 : Int,
      (CallP Tryd.prog tT (19 : Nat) [(AV.c (Cap.d (Ty.sl (Ty.st (Ty.pair Ty.str (Ty.pair Ty.bool (Ty.pair (Ty.int Go.IntKind.i64) Ty.unit))))) l))] (Ty.int Go.IntKind.i64) r3 ∧
      ((((decide ((64 : Int) < r3)) = true) →
        (R false)) ∧
      (((decide ((64 : Int) < r3)) = false) →
        ∃ I : ((Int × Unit) → Prop),
        ∃ μ : ((Int × Unit) → Nat),
        ((I ((0 : Int), ())) ∧
        ∀ x : (Int × Unit),
        ((WF (Ty.int Go.IntKind.i64) x.1 ∧
          True) →
          ((I x) →
            ((((decide (x.1 < r3)) = true) →
              ∃ r4 : (List Int),
              (CallP Tryd.prog tT (33 : Nat) [(AV.c (Cap.d (Ty.sl (Ty.st (Ty.pair Ty.str (Ty.pair Ty.bool (Ty.pair (Ty.int Go.IntKind.i64) Ty.unit))))) l)), (AV.c (Cap.d (Ty.int Go.IntKind.i64) x.1))] (Ty.sl (Ty.int Go.IntKind.i64)) r4 ∧
              ∃ r5 : (Int × (Bool × Unit)),
              (CallP Tryd.prog tT (11 : Nat) [(AV.c (Cap.d (Ty.sl (Ty.st (Ty.pair Ty.str (Ty.pair Ty.bool (Ty.pair (Ty.int Go.IntKind.i64) Ty.unit))))) l)), (AV.c (Cap.d (Ty.sl (Ty.int Go.IntKind.i64)) r4))] (Ty.tup (Ty.pair (Ty.int Go.IntKind.i64) (Ty.pair Ty.bool Ty.unit))) r5 ∧
              ((((!(!r5.2.1)) = true) →
                (((!(!r5.2.1)) = true) ∧
                ((!(!r5.2.1)) = true))) ∧
              ((((!r5.2.1) = false) →
                ((!(!r5.2.1)) = true)) ∧
              ((((selB (!r5.2.1) true (!(decide (r5.1 = x.1)))) = true) →
                (R false)) ∧
              (((selB (!r5.2.1) true (!(decide (r5.1 = x.1)))) = false) →
                ∃ I1 : ((Int × Unit) → Prop),
                ∃ μ1 : ((Int × Unit) → Nat),
                ((I1 ((0 : Int), ())) ∧
                ∀ x1 : (Int × Unit),
                ((WF (Ty.int Go.IntKind.i64) x1.1 ∧
                  True) →
                  ((I1 x1) →
                    ((((decide (x1.1 < (((List.length r4) : Nat) : Int))) = true) →
                      ((((0 : Int) ≤ x1.1) ∧
                      (x1.1 < (((List.length r4) : Nat) : Int))) ∧
                      ((((!(decide ((List.getD r4 (Int.toNat x1.1) (0 : Int)) < (0 : Int)))) = true) →
                        ((((!(decide ((List.getD r4 (Int.toNat x1.1) (0 : Int)) < (0 : Int)))) = true) ∧
                        ((!(decide ((List.getD r4 (Int.toNat x1.1) (0 : Int)) < (0 : Int)))) = true)) ∧
                        (((0 : Int) ≤ x1.1) ∧
                        (x1.1 < (((List.length r4) : Nat) : Int))))) ∧
                      ((((!(decide ((List.getD r4 (Int.toNat x1.1) (0 : Int)) < (0 : Int)))) = true) →
                        ((!(decide ((List.getD r4 (Int.toNat x1.1) (0 : Int)) < (0 : Int)))) = true)) ∧
                      ((((!(decide ((List.getD r4 (Int.toNat x1.1) (0 : Int)) < (0 : Int)))) = true) →
                        ((((!(decide ((List.getD r4 (Int.toNat x1.1) (0 : Int)) < (0 : Int)))) = true) ∧
                        ((!(decide ((List.getD r4 (Int.toNat x1.1) (0 : Int)) < (0 : Int)))) = true)) ∧
                        (((0 : Int) ≤ x1.1) ∧
                        (x1.1 < (((List.length l) : Nat) : Int))))) ∧
                      ((((!(decide ((List.getD r4 (Int.toNat x1.1) (0 : Int)) < (0 : Int)))) = true) →
                        ((!(decide ((List.getD r4 (Int.toNat x1.1) (0 : Int)) < (0 : Int)))) = true)) ∧
                      ((((!(decide ((List.getD r4 (Int.toNat x1.1) (0 : Int)) < (0 : Int)))) = true) →
                        ((!(decide ((List.getD r4 (Int.toNat x1.1) (0 : Int)) < (0 : Int)))) = true)) ∧
                      ((((!(decide ((List.getD r4 (Int.toNat x1.1) (0 : Int)) < (0 : Int)))) = true) →
                        (((!(decide ((List.getD r4 (Int.toNat x1.1) (0 : Int)) < (0 : Int)))) = true) ∧
                        ((!(decide ((List.getD r4 (Int.toNat x1.1) (0 : Int)) < (0 : Int)))) = true))) ∧
                      ((((decide ((List.getD r4 (Int.toNat x1.1) (0 : Int)) < (0 : Int))) = false) →
                        ((!(decide ((List.getD r4 (Int.toNat x1.1) (0 : Int)) < (0 : Int)))) = true)) ∧
                      ((((selB (decide ((List.getD r4 (Int.toNat x1.1) (0 : Int)) < (0 : Int))) true (decide ((List.getD l (Int.toNat x1.1) (([] : List UInt8), (false, ((0 : Int), ())))).2.2.1 ≤ (List.getD r4 (Int.toNat x1.1) (0 : Int))))) = true) →
                        (R false)) ∧
                      (((selB (decide ((List.getD r4 (Int.toNat x1.1) (0 : Int)) < (0 : Int))) true (decide ((List.getD l (Int.toNat x1.1) (([] : List UInt8), (false, ((0 : Int), ())))).2.2.1 ≤ (List.getD r4 (Int.toNat x1.1) (0 : Int))))) = false) →
                        (inK Go.IntKind.i64 (x1.1 + (1 : Int)) ∧
                        ((I1 ((x1.1 + (1 : Int)), ())) ∧
                        ((μ1 ((x1.1 + (1 : Int)), ())) < (μ1 x1))))))))))))))) ∧
                    (((decide (x1.1 < (((List.length r4) : Nat) : Int))) = false) →
                      (inK Go.IntKind.i64 (x.1 + (1 : Int)) ∧
                      ((I ((x.1 + (1 : Int)), ())) ∧
                      ((μ ((x.1 + (1 : Int)), ())) < (μ x)))))))))))))))) ∧
            (((decide (x.1 < r3)) = false) →
              ∃ r4 : (Int × (Bool × Unit)),
              (CallP Tryd.prog tT (11 : Nat) [(AV.c (Cap.d (Ty.sl (Ty.st (Ty.pair Ty.str (Ty.pair Ty.bool (Ty.pair (Ty.int Go.IntKind.i64) Ty.unit))))) l)), (AV.c (Cap.d (Ty.sl (Ty.int Go.IntKind.i64)) vals))] (Ty.tup (Ty.pair (Ty.int Go.IntKind.i64) (Ty.pair Ty.bool Ty.unit))) r4 ∧
              (((r = true) →
                (r = true)) ∧
              (((r = true) →
                (r = true)) ∧
              ((((r && (!r4.2.1)) = true) →
                ((r && (!r4.2.1)) = true)) ∧
              (((r = true) →
                ((r = true) ∧
                (((!r4.2.1) = true) →
                  ((r && (!r4.2.1)) = true)))) ∧
              (((r = true) →
                (r = true)) ∧
              ((((r && (!(selB (!r4.2.1) (decide (r4.1 = (0 : Int))) false))) = true) →
                ((r && (!(selB (!r4.2.1) (decide (r4.1 = (0 : Int))) false))) = true)) ∧
              (((((r && (!(selB (!r4.2.1) (decide (r4.1 = (0 : Int))) false))) && r4.2.1) = true) →
                (((r && (!(selB (!r4.2.1) (decide (r4.1 = (0 : Int))) false))) && r4.2.1) = true)) ∧
              ((((r && (!(selB (!r4.2.1) (decide (r4.1 = (0 : Int))) false))) = true) →
                (((r && (!(selB (!r4.2.1) (decide (r4.1 = (0 : Int))) false))) = true) ∧
                ((r4.2.1 = true) →
                  (((r && (!(selB (!r4.2.1) (decide (r4.1 = (0 : Int))) false))) && r4.2.1) = true)))) ∧
              ((((r && (!(selB (!r4.2.1) (decide (r4.1 = (0 : Int))) false))) = true) →
                ((r && (!(selB (!r4.2.1) (decide (r4.1 = (0 : Int))) false))) = true)) ∧
              (((((r && (!(selB (!r4.2.1) (decide (r4.1 = (0 : Int))) false))) && (selB r4.2.1 (decide ((0 : Int) ≤ r4.1)) false)) = true) →
                ((((r && (!(selB (!r4.2.1) (decide (r4.1 = (0 : Int))) false))) && (selB r4.2.1 (decide ((0 : Int) ≤ r4.1)) false)) = true) ∧
                (((r && (!(selB (!r4.2.1) (decide (r4.1 = (0 : Int))) false))) && (selB r4.2.1 (decide ((0 : Int) ≤ r4.1)) false)) = true))) ∧
              ((((r && (!(selB (!r4.2.1) (decide (r4.1 = (0 : Int))) false))) = true) →
                (((r && (!(selB (!r4.2.1) (decide (r4.1 = (0 : Int))) false))) = true) ∧
                (((selB r4.2.1 (decide ((0 : Int) ≤ r4.1)) false) = true) →
                  (((r && (!(selB (!r4.2.1) (decide (r4.1 = (0 : Int))) false))) && (selB r4.2.1 (decide ((0 : Int) ≤ r4.1)) false)) = true)))) ∧
              ((((r && (!(selB (!r4.2.1) (decide (r4.1 = (0 : Int))) false))) = true) →
                ((r && (!(selB (!r4.2.1) (decide (r4.1 = (0 : Int))) false))) = true)) ∧
              ∃ r5 : (List Int),
              (((((r && (!(selB (!r4.2.1) (decide (r4.1 = (0 : Int))) false))) && (selB (selB r4.2.1 (decide ((0 : Int) ≤ r4.1)) false) (decide (r4.1 < r3)) false)) = true) →
                (((((r && (!(selB (!r4.2.1) (decide (r4.1 = (0 : Int))) false))) && (selB (selB r4.2.1 (decide ((0 : Int) ≤ r4.1)) false) (decide (r4.1 < r3)) false)) = true) ∧
                (((r && (!(selB (!r4.2.1) (decide (r4.1 = (0 : Int))) false))) && (selB (selB r4.2.1 (decide ((0 : Int) ≤ r4.1)) false) (decide (r4.1 < r3)) false)) = true)) ∧
                CallP Tryd.prog tT (33 : Nat) [(AV.c (Cap.d (Ty.sl (Ty.st (Ty.pair Ty.str (Ty.pair Ty.bool (Ty.pair (Ty.int Go.IntKind.i64) Ty.unit))))) l)), (AV.c (Cap.d (Ty.int Go.IntKind.i64) r4.1))] (Ty.sl (Ty.int Go.IntKind.i64)) r5)) ∧
              ∃ r6 : Bool,
              (((((r && (!(selB (!r4.2.1) (decide (r4.1 = (0 : Int))) false))) && (selB (selB r4.2.1 (decide ((0 : Int) ≤ r4.1)) false) (decide (r4.1 < r3)) false)) = true) →
                (((((r && (!(selB (!r4.2.1) (decide (r4.1 = (0 : Int))) false))) && (selB (selB r4.2.1 (decide ((0 : Int) ≤ r4.1)) false) (decide (r4.1 < r3)) false)) = true) ∧
                (((r && (!(selB (!r4.2.1) (decide (r4.1 = (0 : Int))) false))) && (selB (selB r4.2.1 (decide ((0 : Int) ≤ r4.1)) false) (decide (r4.1 < r3)) false)) = true)) ∧
                CallP Tryd.prog tT (34 : Nat) [(AV.c (Cap.d (Ty.sl (Ty.int Go.IntKind.i64)) r5)), (AV.c (Cap.d (Ty.sl (Ty.int Go.IntKind.i64)) vals))] Ty.bool r6)) ∧
              ((((r && (!(selB (!r4.2.1) (decide (r4.1 = (0 : Int))) false))) = true) →
                (((r && (!(selB (!r4.2.1) (decide (r4.1 = (0 : Int))) false))) = true) ∧
                (((selB (selB r4.2.1 (decide ((0 : Int) ≤ r4.1)) false) (decide (r4.1 < r3)) false) = true) →
                  (((r && (!(selB (!r4.2.1) (decide (r4.1 = (0 : Int))) false))) && (selB (selB r4.2.1 (decide ((0 : Int) ≤ r4.1)) false) (decide (r4.1 < r3)) false)) = true)))) ∧
              (((r = true) →
                ((r = true) ∧
                (((selB (!r4.2.1) (decide (r4.1 = (0 : Int))) false) = false) →
                  ((r && (!(selB (!r4.2.1) (decide (r4.1 = (0 : Int))) false))) = true)))) ∧
              (((r = true) →
                (r = true)) ∧
              (R (selB r (selB (selB (!r4.2.1) (decide (r4.1 = (0 : Int))) false) true (selB (selB (selB r4.2.1 (decide ((0 : Int) ≤ r4.1)) false) (decide (r4.1 < r3)) false) r6 false)) false))))))))))))))))))))))))))))))))))))))) : CallP Tryd.prog tT 5 [.d (.sl (.st (.pair .str (.pair .bool (.pair (.int .i64) .unit))))) l, .d (.sl (.int .i64)) vals] .bool r :=
  callP_of (cx := cx5) (d := 6) mixed tab_ok inl_ok Tryd.func5 ⟨fun _ _ => by kernel_rfl⟩ rfl rfl fun wf => Eq.mpr (by kernel_rfl) (h (fun x => x = r) (fun _ => Iff.rfl) (wf.1 rfl) (wf.2.1 rfl))
set_option maxRecDepth 1000000 in
theorem sf5 (l : (Ty.T (.sl (.st (.pair .str (.pair .bool (.pair (.int .i64) .unit))))))) (vals : (Ty.T (.sl (.int .i64)))) (r : Ty.T .bool) (h : ∀ R : Ty.T .bool → Prop, (∀ x, R x ↔ x = r) → WF (.sl (.st (.pair .str (.pair .bool (.pair (.int .i64) .unit))))) l → WF (.sl (.int .i64)) vals → 
    (∃ r : Bool,
    (CallP Tryd.prog tT (9 : Nat) [] Ty.bool r ∧
    (∃ r1 : Bool,
    (CallP Tryd.prog tT (10 : Nat) [(AV.c (Cap.d (Ty.sl (Ty.st (Ty.pair Ty.str (Ty.pair Ty.bool (Ty.pair (Ty.int Go.IntKind.i64) Ty.unit))))) l))] Ty.bool r1 ∧
    (∃ r2 : Bool,
    (((r1 = true) →
      CallP Tryd.prog tT (13 : Nat) [(AV.c (Cap.d (Ty.sl (Ty.st (Ty.pair Ty.str (Ty.pair Ty.bool (Ty.pair (Ty.int Go.IntKind.i64) Ty.unit))))) l))] Ty.bool r2) ∧
    (((((r1 = false) ∨ (r2 = false)) ∨ ((20 : Int) < (((List.length vals) : Nat) : Int))) →
      (R r)) ∧
    ((r1 = true) → (r2 = true) → ((((List.length vals) : Nat) : Int) ≤ (20 : Int)) →
      (∃ r3 : Int,
      (CallP Tryd.prog tT (19 : Nat) [(AV.c (Cap.d (Ty.sl (Ty.st (Ty.pair Ty.str (Ty.pair Ty.bool (Ty.pair (Ty.int Go.IntKind.i64) Ty.unit))))) l))] (Ty.int Go.IntKind.i64) r3 ∧
      ((((64 : Int) < r3) →
        (R false)) ∧
      ((r3 ≤ (64 : Int)) →
        (∃ I : ((Int × Unit) → Prop),
        (∃ μ : ((Int × Unit) → Nat),
        ((I ((0 : Int), ())) ∧
        (∀ x : (Int × Unit),
        ((WF (Ty.int Go.IntKind.i64) x.1 ∧
          True) →
          ((I x) →
            (((x.1 < r3) →
              (∃ r4 : (List Int),
              (CallP Tryd.prog tT (33 : Nat) [(AV.c (Cap.d (Ty.sl (Ty.st (Ty.pair Ty.str (Ty.pair Ty.bool (Ty.pair (Ty.int Go.IntKind.i64) Ty.unit))))) l)), (AV.c (Cap.d (Ty.int Go.IntKind.i64) x.1))] (Ty.sl (Ty.int Go.IntKind.i64)) r4 ∧
              (∃ r5 : (Int × (Bool × Unit)),
              (CallP Tryd.prog tT (11 : Nat) [(AV.c (Cap.d (Ty.sl (Ty.st (Ty.pair Ty.str (Ty.pair Ty.bool (Ty.pair (Ty.int Go.IntKind.i64) Ty.unit))))) l)), (AV.c (Cap.d (Ty.sl (Ty.int Go.IntKind.i64)) r4))] (Ty.tup (Ty.pair (Ty.int Go.IntKind.i64) (Ty.pair Ty.bool Ty.unit))) r5 ∧
              ((((r5.2.1 = false) ∨ (¬ (r5.1 = x.1))) →
                (R false)) ∧
              ((r5.2.1 = true) → (r5.1 = x.1) →
                (∃ I1 : ((Int × Unit) → Prop),
                (∃ μ1 : ((Int × Unit) → Nat),
                ((I1 ((0 : Int), ())) ∧
                (∀ x1 : (Int × Unit),
                ((WF (Ty.int Go.IntKind.i64) x1.1 ∧
                  True) →
                  ((I1 x1) →
                    (((x1.1 < (((List.length r4) : Nat) : Int)) →
                      (((0 : Int) ≤ x1.1) ∧
                      ((((0 : Int) ≤ (List.getD r4 (Int.toNat x1.1) (0 : Int))) →
                        (x1.1 < (((List.length l) : Nat) : Int))) ∧
                      (((((List.getD r4 (Int.toNat x1.1) (0 : Int)) < (0 : Int)) ∨ ((List.getD l (Int.toNat x1.1) (([] : List UInt8), (false, ((0 : Int), ())))).2.2.1 ≤ (List.getD r4 (Int.toNat x1.1) (0 : Int)))) →
                        (R false)) ∧
                      (((0 : Int) ≤ (List.getD r4 (Int.toNat x1.1) (0 : Int))) → ((List.getD r4 (Int.toNat x1.1) (0 : Int)) < (List.getD l (Int.toNat x1.1) (([] : List UInt8), (false, ((0 : Int), ())))).2.2.1) →
                        (inK Go.IntKind.i64 (x1.1 + (1 : Int)) ∧
                        ((I1 ((x1.1 + (1 : Int)), ())) ∧
                        ((μ1 ((x1.1 + (1 : Int)), ())) < (μ1 x1))))))))) ∧
                    (((((List.length r4) : Nat) : Int) ≤ x1.1) →
                      (inK Go.IntKind.i64 (x.1 + (1 : Int)) ∧
                      ((I ((x.1 + (1 : Int)), ())) ∧
                      ((μ ((x.1 + (1 : Int)), ())) < (μ x))))))))))))))))))) ∧
            ((r3 ≤ x.1) →
              (∃ r4 : (Int × (Bool × Unit)),
              (CallP Tryd.prog tT (11 : Nat) [(AV.c (Cap.d (Ty.sl (Ty.st (Ty.pair Ty.str (Ty.pair Ty.bool (Ty.pair (Ty.int Go.IntKind.i64) Ty.unit))))) l)), (AV.c (Cap.d (Ty.sl (Ty.int Go.IntKind.i64)) vals))] (Ty.tup (Ty.pair (Ty.int Go.IntKind.i64) (Ty.pair Ty.bool Ty.unit))) r4 ∧
              (∃ r5 : (List Int),
              (((r = true) → ((r4.2.1 = true) ∨ (¬ (r4.1 = (0 : Int)))) → (r4.2.1 = true) → ((0 : Int) ≤ r4.1) → (r4.1 < r3) →
                CallP Tryd.prog tT (33 : Nat) [(AV.c (Cap.d (Ty.sl (Ty.st (Ty.pair Ty.str (Ty.pair Ty.bool (Ty.pair (Ty.int Go.IntKind.i64) Ty.unit))))) l)), (AV.c (Cap.d (Ty.int Go.IntKind.i64) r4.1))] (Ty.sl (Ty.int Go.IntKind.i64)) r5) ∧
              (∃ r6 : Bool,
              (((r = true) → ((r4.2.1 = true) ∨ (¬ (r4.1 = (0 : Int)))) → (r4.2.1 = true) → ((0 : Int) ≤ r4.1) → (r4.1 < r3) →
                CallP Tryd.prog tT (34 : Nat) [(AV.c (Cap.d (Ty.sl (Ty.int Go.IntKind.i64)) r5)), (AV.c (Cap.d (Ty.sl (Ty.int Go.IntKind.i64)) vals))] Ty.bool r6) ∧
              (R (selB r (selB (selB (!r4.2.1) (decide (r4.1 = (0 : Int))) false) true (selB (selB (selB r4.2.1 (decide ((0 : Int) ≤ r4.1)) false) (decide (r4.1 < r3)) false) r6 false)) false))))))))))))))))))))))))))))) : CallP Tryd.prog tT 5 [.d (.sl (.st (.pair .str (.pair .bool (.pair (.int .i64) .unit))))) l, .d (.sl (.int .i64)) vals] .bool r :=
  of5 l vals r fun R hR w0_ w1_ => have p := h R hR w0_ w1_
    (Exists.elim p fun r q1 => Exists.intro r ⟨q1.1, (Exists.elim q1.2 fun r1 q2 => Exists.intro r1 ⟨q2.1, (Exists.elim q2.2 fun r2 q3 => Exists.intro r2 ⟨(fun h9 => ⟨h9, (q3.1 (bnot_f (bnot_t h9)))⟩), ⟨(fun h16 => h16), ⟨(fun h22 => (bnot_t2 h22)), ⟨(fun h27 => h27), ⟨(fun h31 => h31), ⟨(fun h34 => (bnot_t2 h34)), ⟨(fun h40 => (q3.2.1 (Or.imp (fun h => (Or.imp (fun h => (bnot_t h)) (fun h => (bnot_t h)) (selB_ot h))) (fun h => (of_decide_eq_true h)) (selB_ot h40)))), (fun h42 => (Exists.elim (q3.2.2 (bnot_f (selB_of (selB_of h42).1).1) (bnot_f (selB_of (selB_of h42).1).2) (Int.not_lt.1 (of_decide_eq_false (selB_of h42).2))) fun r3 q43 => Exists.intro r3 ⟨q43.1, ⟨(fun h49 => (q43.2.1 (of_decide_eq_true h49))), (fun h51 => (Exists.elim (q43.2.2 (Int.not_lt.1 (of_decide_eq_false h51))) fun I q52 => Exists.intro I (Exists.elim q52 fun μ q53 => Exists.intro μ ⟨q53.1, (fun x => (fun h54 => (fun h55 => ⟨(fun h168 => (Exists.elim ((((q53.2 x) h54) h55).1 (of_decide_eq_true h168)) fun r4 q169 => Exists.intro r4 ⟨q169.1, (Exists.elim q169.2 fun r5 q170 => Exists.intro r5 ⟨q170.1, ⟨(fun h174 => ⟨h174, h174⟩), ⟨(fun h177 => (bnot_t2 h177)), ⟨(fun h183 => (q170.2.1 (Or.imp (fun h => (bnot_t h)) (fun h => (of_decide_eq_false (bnot_t h))) (selB_ot h183)))), (fun h185 => (Exists.elim (q170.2.2 (bnot_f (selB_of h185).1) (of_decide_eq_true (bnot_f (selB_of h185).2))) fun I1 q186 => Exists.intro I1 (Exists.elim q186 fun μ1 q187 => Exists.intro μ1 ⟨q187.1, (fun x1 => (fun h188 => (fun h189 => ⟨(fun h234 => ⟨⟨((((q187.2 x1) h188) h189).1 (of_decide_eq_true h234)).1, (of_decide_eq_true h234)⟩, ⟨(fun h238 => ⟨⟨h238, h238⟩, ⟨((((q187.2 x1) h188) h189).1 (of_decide_eq_true h234)).1, (of_decide_eq_true h234)⟩⟩), ⟨(fun h241 => h241), ⟨(fun h247 => ⟨⟨h247, h247⟩, ⟨((((q187.2 x1) h188) h189).1 (of_decide_eq_true h234)).1, (((((q187.2 x1) h188) h189).1 (of_decide_eq_true h234)).2.1 (Int.not_lt.1 (of_decide_eq_false (bnot_t h247))))⟩⟩), ⟨(fun h253 => h253), ⟨(fun h258 => h258), ⟨(fun h262 => ⟨h262, h262⟩), ⟨(fun h265 => (bnot_t2 h265)), ⟨(fun h271 => (((((q187.2 x1) h188) h189).1 (of_decide_eq_true h234)).2.2.1 (Or.imp (fun h => (of_decide_eq_true h)) (fun h => (of_decide_eq_true h)) (selB_ot h271)))), (fun h273 => ⟨(((((q187.2 x1) h188) h189).1 (of_decide_eq_true h234)).2.2.2 (Int.not_lt.1 (of_decide_eq_false (selB_of h273).1)) (Int.not_le.1 (of_decide_eq_false (selB_of h273).2))).1, ⟨(((((q187.2 x1) h188) h189).1 (of_decide_eq_true h234)).2.2.2 (Int.not_lt.1 (of_decide_eq_false (selB_of h273).1)) (Int.not_le.1 (of_decide_eq_false (selB_of h273).2))).2.1, (((((q187.2 x1) h188) h189).1 (of_decide_eq_true h234)).2.2.2 (Int.not_lt.1 (of_decide_eq_false (selB_of h273).1)) (Int.not_le.1 (of_decide_eq_false (selB_of h273).2))).2.2⟩⟩)⟩⟩⟩⟩⟩⟩⟩⟩⟩), (fun h275 => ⟨((((q187.2 x1) h188) h189).2 (Int.not_lt.1 (of_decide_eq_false h275))).1, ⟨((((q187.2 x1) h188) h189).2 (Int.not_lt.1 (of_decide_eq_false h275))).2.1, ((((q187.2 x1) h188) h189).2 (Int.not_lt.1 (of_decide_eq_false h275))).2.2⟩⟩)⟩)))⟩)))⟩⟩⟩⟩)⟩)), (fun h277 => (Exists.elim ((((q53.2 x) h54) h55).2 (Int.not_lt.1 (of_decide_eq_false h277))) fun r4 q278 => Exists.intro r4 ⟨q278.1, ⟨(fun h294 => h294), ⟨(fun h309 => h309), ⟨(fun h323 => h323), ⟨(fun h336 => ⟨h336, (fun h337 => (and_at2 h336 h337))⟩), ⟨(fun h348 => h348), ⟨(fun h358 => h358), ⟨(fun h367 => h367), ⟨(fun h375 => ⟨h375, (fun h376 => (and_at2 h375 h376))⟩), ⟨(fun h382 => h382), ⟨(fun h387 => ⟨h387, h387⟩), ⟨(fun h391 => ⟨h391, (fun h392 => (and_at2 h391 h392))⟩), ⟨(fun h394 => h394), (Exists.elim q278.2 fun r5 q395 => Exists.intro r5 ⟨(fun h401 => ⟨⟨h401, h401⟩, (q395.1 ((and_at (and_at h401).1).1) (Or.imp (fun h => (bnot_f h)) (fun h => (of_decide_eq_false h)) (selB_af (bnot_t (and_at (and_at h401).1).2))) ((selB_at (selB_at (and_at h401).2).1).1) (of_decide_eq_true (selB_at (selB_at (and_at h401).2).1).2) (of_decide_eq_true (selB_at (and_at h401).2).2))⟩), (Exists.elim q395.2 fun r6 q402 => Exists.intro r6 ⟨(fun h408 => ⟨⟨h408, h408⟩, (q402.1 ((and_at (and_at h408).1).1) (Or.imp (fun h => (bnot_f h)) (fun h => (of_decide_eq_false h)) (selB_af (bnot_t (and_at (and_at h408).1).2))) ((selB_at (selB_at (and_at h408).2).1).1) (of_decide_eq_true (selB_at (selB_at (and_at h408).2).1).2) (of_decide_eq_true (selB_at (and_at h408).2).2))⟩), ⟨(fun h414 => ⟨h414, (fun h415 => (and_at2 h414 h415))⟩), ⟨(fun h419 => ⟨h419, (fun h420 => (and_at2 h419 (bnot_t2 h420)))⟩), ⟨(fun h422 => h422), q402.2⟩⟩⟩⟩)⟩)⟩⟩⟩⟩⟩⟩⟩⟩⟩⟩⟩⟩⟩))⟩)))⟩)))⟩⟩))⟩⟩⟩⟩⟩⟩⟩)⟩)⟩)
/- foresight/foresightlaw01.SignalHalves -/
def cx6 : Cx := { T := tT, own := ownT, frz := [], loops := [(60013, 880, ⟨[.val 11 .bool, .val 12 .bool, .val 13 (.int .i64)], 0⟩)], cuts := [], inl := inlT }
set_option maxRecDepth 1000000 in
theorem of6 (l : (Ty.T (.sl (.st (.pair .str (.pair .bool (.pair (.int .i64) .unit))))))) (rawA : (Ty.T (.int .u8))) (rawB : (Ty.T (.int .u8))) (r : Ty.T .bool) (h : ∀ R : Ty.T .bool → Prop, (∀ x, R x ↔ x = r) → WF (.sl (.st (.pair .str (.pair .bool (.pair (.int .i64) .unit))))) l → WF (.int .u8) rawA → WF (.int .u8) rawB → 
    ∃ r : Bool,
    (CallP Tryd.prog tT (9 : Nat) [] Ty.bool r ∧
    ∃ r1 : Bool,
    (CallP Tryd.prog tT (10 : Nat) [(AV.c (Cap.d (Ty.sl (Ty.st (Ty.pair Ty.str (Ty.pair Ty.bool (Ty.pair (Ty.int Go.IntKind.i64) Ty.unit))))) l))] Ty.bool r1 ∧
    ∃ r2 : Bool,
    ((((!(!r1)) = true) →
      (((!(!r1)) = true) ∧
      CallP Tryd.prog tT (13 : Nat) [(AV.c (Cap.d (Ty.sl (Ty.st (Ty.pair Ty.str (Ty.pair Ty.bool (Ty.pair (Ty.int Go.IntKind.i64) Ty.unit))))) l))] Ty.bool r2)) ∧
    ((((!(!r1)) = true) →
      ((!(!r1)) = true)) ∧
    ((((!r1) = false) →
      ((!(!r1)) = true)) ∧
    ((((selB (!r1) true (!r2)) = true) →
      (R r)) ∧
    (((selB (!r1) true (!r2)) = false) →
      ∃ r3 : Int,
      (CallP Tryd.prog tT (19 : Nat) [(AV.c (Cap.d (Ty.sl (Ty.st (Ty.pair Ty.str (Ty.pair Ty.bool (Ty.pair (Ty.int Go.IntKind.i64) Ty.unit))))) l))] (Ty.int Go.IntKind.i64) r3 ∧
      ((((decide (r3 < (1 : Int))) = true) →
        (R false)) ∧
      (((decide (r3 < (1 : Int))) = false) →
        (inK Go.IntKind.i64 rawA ∧
        ((((0 : Int) ≤ rawA) ∧
        ((0 : Int) < r3)) ∧
        (inK Go.IntKind.i64 rawB ∧
        ((((0 : Int) ≤ rawB) ∧
        ((0 : Int) < r3)) ∧
        ∃ I : ((Bool × (Bool × (Int × Unit))) → Prop),
        ∃ μ : ((Bool × (Bool × (Int × Unit))) → Nat),
        ((I (true, (true, ((0 : Int), ())))) ∧
        ∀ x : (Bool × (Bool × (Int × Unit))),
        ((WF Ty.bool x.1 ∧
          (WF Ty.bool x.2.1 ∧
          (WF (Ty.int Go.IntKind.i64) x.2.2.1 ∧
          True))) →
          ((I x) →
            ((((decide (x.2.2.1 < (((List.length l) : Nat) : Int))) = true) →
              ∃ r4 : Int,
              (CallP Tryd.prog tT (25 : Nat) [(AV.c (Cap.d (Ty.sl (Ty.st (Ty.pair Ty.str (Ty.pair Ty.bool (Ty.pair (Ty.int Go.IntKind.i64) Ty.unit))))) l)), (AV.c (Cap.d (Ty.int Go.IntKind.i64) (rawA % r3))), (AV.c (Cap.d (Ty.int Go.IntKind.i64) x.2.2.1))] (Ty.int Go.IntKind.i64) r4 ∧
              ∃ r5 : Int,
              (CallP Tryd.prog tT (25 : Nat) [(AV.c (Cap.d (Ty.sl (Ty.st (Ty.pair Ty.str (Ty.pair Ty.bool (Ty.pair (Ty.int Go.IntKind.i64) Ty.unit))))) l)), (AV.c (Cap.d (Ty.int Go.IntKind.i64) (rawB % r3))), (AV.c (Cap.d (Ty.int Go.IntKind.i64) x.2.2.1))] (Ty.int Go.IntKind.i64) r5 ∧
              ((((0 : Int) ≤ x.2.2.1) ∧
              (x.2.2.1 < (((List.length l) : Nat) : Int))) ∧
              ((((List.getD l (Int.toNat x.2.2.1) (([] : List UInt8), (false, ((0 : Int), ())))).2.1 = true) →
                (((x.1 = true) →
                  (x.1 = true)) ∧
                (inK Go.IntKind.i64 (x.2.2.1 + (1 : Int)) ∧
                ((I ((selB x.1 (decide (r4 = r5)) false), (x.2.1, ((x.2.2.1 + (1 : Int)), ())))) ∧
                ((μ ((selB x.1 (decide (r4 = r5)) false), (x.2.1, ((x.2.2.1 + (1 : Int)), ())))) < (μ x)))))) ∧
              (((List.getD l (Int.toNat x.2.2.1) (([] : List UInt8), (false, ((0 : Int), ())))).2.1 = false) →
                (((x.2.1 = true) →
                  (x.2.1 = true)) ∧
                (inK Go.IntKind.i64 (x.2.2.1 + (1 : Int)) ∧
                ((I (x.1, ((selB x.2.1 (decide (r4 = r5)) false), ((x.2.2.1 + (1 : Int)), ())))) ∧
                ((μ (x.1, ((selB x.2.1 (decide (r4 = r5)) false), ((x.2.2.1 + (1 : Int)), ())))) < (μ x))))))))))) ∧
            (((decide (x.2.2.1 < (((List.length l) : Nat) : Int))) = false) →
              ∃ r4 : Int,
              (((r = true) →
                (((r = true) ∧
                (r = true)) ∧
                CallP Tryd.prog tT (27 : Nat) [(AV.c (Cap.d (Ty.sl (Ty.st (Ty.pair Ty.str (Ty.pair Ty.bool (Ty.pair (Ty.int Go.IntKind.i64) Ty.unit))))) l)), (AV.c (Cap.d (Ty.int Go.IntKind.i64) (rawA % r3)))] (Ty.int Go.IntKind.i64) r4)) ∧
              ∃ r5 : Int,
              (((r = true) →
                (((r = true) ∧
                (r = true)) ∧
                CallP Tryd.prog tT (27 : Nat) [(AV.c (Cap.d (Ty.sl (Ty.st (Ty.pair Ty.str (Ty.pair Ty.bool (Ty.pair (Ty.int Go.IntKind.i64) Ty.unit))))) l)), (AV.c (Cap.d (Ty.int Go.IntKind.i64) (rawB % r3)))] (Ty.int Go.IntKind.i64) r5)) ∧
              (((r = true) →
                ((r = true) ∧
                (r = true))) ∧
              (((r = true) →
                ((r = true) ∧
                (r = true))) ∧
              (((r = true) →
                (r = true)) ∧
              ∃ r6 : Int,
              ((((selB r (x.1 == (decide (r4 = r5))) false) = true) →
                ((((selB r (x.1 == (decide (r4 = r5))) false) = true) ∧
                ((selB r (x.1 == (decide (r4 = r5))) false) = true)) ∧
                CallP Tryd.prog tT (29 : Nat) [(AV.c (Cap.d (Ty.sl (Ty.st (Ty.pair Ty.str (Ty.pair Ty.bool (Ty.pair (Ty.int Go.IntKind.i64) Ty.unit))))) l)), (AV.c (Cap.d (Ty.int Go.IntKind.i64) (rawA % r3)))] (Ty.int Go.IntKind.i64) r6)) ∧
              ∃ r7 : Int,
              ((((selB r (x.1 == (decide (r4 = r5))) false) = true) →
                ((((selB r (x.1 == (decide (r4 = r5))) false) = true) ∧
                ((selB r (x.1 == (decide (r4 = r5))) false) = true)) ∧
                CallP Tryd.prog tT (29 : Nat) [(AV.c (Cap.d (Ty.sl (Ty.st (Ty.pair Ty.str (Ty.pair Ty.bool (Ty.pair (Ty.int Go.IntKind.i64) Ty.unit))))) l)), (AV.c (Cap.d (Ty.int Go.IntKind.i64) (rawB % r3)))] (Ty.int Go.IntKind.i64) r7)) ∧
              ((((selB r (x.1 == (decide (r4 = r5))) false) = true) →
                (((selB r (x.1 == (decide (r4 = r5))) false) = true) ∧
                ((selB r (x.1 == (decide (r4 = r5))) false) = true))) ∧
              ((((selB r (x.1 == (decide (r4 = r5))) false) = true) →
                (((selB r (x.1 == (decide (r4 = r5))) false) = true) ∧
                ((selB r (x.1 == (decide (r4 = r5))) false) = true))) ∧
              ((((selB r (x.1 == (decide (r4 = r5))) false) = true) →
                ((selB r (x.1 == (decide (r4 = r5))) false) = true)) ∧
              (R (selB (selB r (x.1 == (decide (r4 = r5))) false) (x.2.1 == (decide (r6 = r7))) false)))))))))))))))))))))))))))))))) : CallP Tryd.prog tT 6 [.d (.sl (.st (.pair .str (.pair .bool (.pair (.int .i64) .unit))))) l, .d (.int .u8) rawA, .d (.int .u8) rawB] .bool r :=
  callP_of (cx := cx6) (d := 6) mixed tab_ok inl_ok Tryd.func6 ⟨fun _ _ => by kernel_rfl⟩ rfl rfl fun wf => Eq.mpr (by kernel_rfl) (h (fun x => x = r) (fun _ => Iff.rfl) (wf.1 rfl) (wf.2.1 rfl) (wf.2.2.1 rfl))
set_option maxRecDepth 1000000 in
theorem sf6 (l : (Ty.T (.sl (.st (.pair .str (.pair .bool (.pair (.int .i64) .unit))))))) (rawA : (Ty.T (.int .u8))) (rawB : (Ty.T (.int .u8))) (r : Ty.T .bool) (h : ∀ R : Ty.T .bool → Prop, (∀ x, R x ↔ x = r) → WF (.sl (.st (.pair .str (.pair .bool (.pair (.int .i64) .unit))))) l → WF (.int .u8) rawA → WF (.int .u8) rawB → 
    (∃ r : Bool,
    (CallP Tryd.prog tT (9 : Nat) [] Ty.bool r ∧
    (∃ r1 : Bool,
    (CallP Tryd.prog tT (10 : Nat) [(AV.c (Cap.d (Ty.sl (Ty.st (Ty.pair Ty.str (Ty.pair Ty.bool (Ty.pair (Ty.int Go.IntKind.i64) Ty.unit))))) l))] Ty.bool r1 ∧
    (∃ r2 : Bool,
    (((r1 = true) →
      CallP Tryd.prog tT (13 : Nat) [(AV.c (Cap.d (Ty.sl (Ty.st (Ty.pair Ty.str (Ty.pair Ty.bool (Ty.pair (Ty.int Go.IntKind.i64) Ty.unit))))) l))] Ty.bool r2) ∧
    ((((r1 = false) ∨ (r2 = false)) →
      (R r)) ∧
    ((r1 = true) → (r2 = true) →
      (∃ r3 : Int,
      (CallP Tryd.prog tT (19 : Nat) [(AV.c (Cap.d (Ty.sl (Ty.st (Ty.pair Ty.str (Ty.pair Ty.bool (Ty.pair (Ty.int Go.IntKind.i64) Ty.unit))))) l))] (Ty.int Go.IntKind.i64) r3 ∧
      (((r3 < (1 : Int)) →
        (R false)) ∧
      (((1 : Int) ≤ r3) →
        (inK Go.IntKind.i64 rawA ∧
        ((((0 : Int) ≤ rawA) ∧
        ((0 : Int) < r3)) ∧
        (inK Go.IntKind.i64 rawB ∧
        (((0 : Int) ≤ rawB) ∧
        (∃ I : ((Bool × (Bool × (Int × Unit))) → Prop),
        (∃ μ : ((Bool × (Bool × (Int × Unit))) → Nat),
        ((I (true, (true, ((0 : Int), ())))) ∧
        (∀ x : (Bool × (Bool × (Int × Unit))),
        ((WF Ty.bool x.1 ∧
          (WF Ty.bool x.2.1 ∧
          (WF (Ty.int Go.IntKind.i64) x.2.2.1 ∧
          True))) →
          ((I x) →
            (((x.2.2.1 < (((List.length l) : Nat) : Int)) →
              (∃ r4 : Int,
              (CallP Tryd.prog tT (25 : Nat) [(AV.c (Cap.d (Ty.sl (Ty.st (Ty.pair Ty.str (Ty.pair Ty.bool (Ty.pair (Ty.int Go.IntKind.i64) Ty.unit))))) l)), (AV.c (Cap.d (Ty.int Go.IntKind.i64) (rawA % r3))), (AV.c (Cap.d (Ty.int Go.IntKind.i64) x.2.2.1))] (Ty.int Go.IntKind.i64) r4 ∧
              (∃ r5 : Int,
              (CallP Tryd.prog tT (25 : Nat) [(AV.c (Cap.d (Ty.sl (Ty.st (Ty.pair Ty.str (Ty.pair Ty.bool (Ty.pair (Ty.int Go.IntKind.i64) Ty.unit))))) l)), (AV.c (Cap.d (Ty.int Go.IntKind.i64) (rawB % r3))), (AV.c (Cap.d (Ty.int Go.IntKind.i64) x.2.2.1))] (Ty.int Go.IntKind.i64) r5 ∧
              (((0 : Int) ≤ x.2.2.1) ∧
              ((((List.getD l (Int.toNat x.2.2.1) (([] : List UInt8), (false, ((0 : Int), ())))).2.1 = true) →
                (inK Go.IntKind.i64 (x.2.2.1 + (1 : Int)) ∧
                ((I ((selB x.1 (decide (r4 = r5)) false), (x.2.1, ((x.2.2.1 + (1 : Int)), ())))) ∧
                ((μ ((selB x.1 (decide (r4 = r5)) false), (x.2.1, ((x.2.2.1 + (1 : Int)), ())))) < (μ x))))) ∧
              (((List.getD l (Int.toNat x.2.2.1) (([] : List UInt8), (false, ((0 : Int), ())))).2.1 = false) →
                (inK Go.IntKind.i64 (x.2.2.1 + (1 : Int)) ∧
                ((I (x.1, ((selB x.2.1 (decide (r4 = r5)) false), ((x.2.2.1 + (1 : Int)), ())))) ∧
                ((μ (x.1, ((selB x.2.1 (decide (r4 = r5)) false), ((x.2.2.1 + (1 : Int)), ())))) < (μ x)))))))))))) ∧
            (((((List.length l) : Nat) : Int) ≤ x.2.2.1) →
              (∃ r4 : Int,
              (((r = true) →
                CallP Tryd.prog tT (27 : Nat) [(AV.c (Cap.d (Ty.sl (Ty.st (Ty.pair Ty.str (Ty.pair Ty.bool (Ty.pair (Ty.int Go.IntKind.i64) Ty.unit))))) l)), (AV.c (Cap.d (Ty.int Go.IntKind.i64) (rawA % r3)))] (Ty.int Go.IntKind.i64) r4) ∧
              (∃ r5 : Int,
              (((r = true) →
                CallP Tryd.prog tT (27 : Nat) [(AV.c (Cap.d (Ty.sl (Ty.st (Ty.pair Ty.str (Ty.pair Ty.bool (Ty.pair (Ty.int Go.IntKind.i64) Ty.unit))))) l)), (AV.c (Cap.d (Ty.int Go.IntKind.i64) (rawB % r3)))] (Ty.int Go.IntKind.i64) r5) ∧
              (∃ r6 : Int,
              (((r = true) → ((x.1 == (decide (r4 = r5))) = true) →
                CallP Tryd.prog tT (29 : Nat) [(AV.c (Cap.d (Ty.sl (Ty.st (Ty.pair Ty.str (Ty.pair Ty.bool (Ty.pair (Ty.int Go.IntKind.i64) Ty.unit))))) l)), (AV.c (Cap.d (Ty.int Go.IntKind.i64) (rawA % r3)))] (Ty.int Go.IntKind.i64) r6) ∧
              (∃ r7 : Int,
              (((r = true) → ((x.1 == (decide (r4 = r5))) = true) →
                CallP Tryd.prog tT (29 : Nat) [(AV.c (Cap.d (Ty.sl (Ty.st (Ty.pair Ty.str (Ty.pair Ty.bool (Ty.pair (Ty.int Go.IntKind.i64) Ty.unit))))) l)), (AV.c (Cap.d (Ty.int Go.IntKind.i64) (rawB % r3)))] (Ty.int Go.IntKind.i64) r7) ∧
              (R (selB (selB r (x.1 == (decide (r4 = r5))) false) (x.2.1 == (decide (r6 = r7))) false))))))))))))))))))))))))))))))))))) : CallP Tryd.prog tT 6 [.d (.sl (.st (.pair .str (.pair .bool (.pair (.int .i64) .unit))))) l, .d (.int .u8) rawA, .d (.int .u8) rawB] .bool r :=
  of6 l rawA rawB r fun R hR w0_ w1_ w2_ => have p := h R hR w0_ w1_ w2_
    (Exists.elim p fun r q1 => Exists.intro r ⟨q1.1, (Exists.elim q1.2 fun r1 q2 => Exists.intro r1 ⟨q2.1, (Exists.elim q2.2 fun r2 q3 => Exists.intro r2 ⟨(fun h9 => ⟨h9, (q3.1 (bnot_f (bnot_t h9)))⟩), ⟨(fun h13 => h13), ⟨(fun h16 => (bnot_t2 h16)), ⟨(fun h22 => (q3.2.1 (Or.imp (fun h => (bnot_t h)) (fun h => (bnot_t h)) (selB_ot h22)))), (fun h24 => (Exists.elim (q3.2.2 (bnot_f (selB_of h24).1) (bnot_f (selB_of h24).2)) fun r3 q25 => Exists.intro r3 ⟨q25.1, ⟨(fun h31 => (q25.2.1 (of_decide_eq_true h31))), (fun h33 => ⟨(q25.2.2 (Int.not_lt.1 (of_decide_eq_false h33))).1, ⟨⟨(q25.2.2 (Int.not_lt.1 (of_decide_eq_false h33))).2.1.1, (q25.2.2 (Int.not_lt.1 (of_decide_eq_false h33))).2.1.2⟩, ⟨(q25.2.2 (Int.not_lt.1 (of_decide_eq_false h33))).2.2.1, ⟨⟨(q25.2.2 (Int.not_lt.1 (of_decide_eq_false h33))).2.2.2.1, (q25.2.2 (Int.not_lt.1 (of_decide_eq_false h33))).2.1.2⟩, (Exists.elim (q25.2.2 (Int.not_lt.1 (of_decide_eq_false h33))).2.2.2.2 fun I q34 => Exists.intro I (Exists.elim q34 fun μ q35 => Exists.intro μ ⟨q35.1, (fun x => (fun h36 => (fun h37 => ⟨(fun h64 => (Exists.elim ((((q35.2 x) h36) h37).1 (of_decide_eq_true h64)) fun r4 q65 => Exists.intro r4 ⟨q65.1, (Exists.elim q65.2 fun r5 q66 => Exists.intro r5 ⟨q66.1, ⟨⟨q66.2.1, (of_decide_eq_true h64)⟩, ⟨(fun h78 => ⟨(fun h80 => h80), ⟨(q66.2.2.1 h78).1, ⟨(q66.2.2.1 h78).2.1, (q66.2.2.1 h78).2.2⟩⟩⟩), (fun h83 => ⟨(fun h85 => h85), ⟨(q66.2.2.2 h83).1, ⟨(q66.2.2.2 h83).2.1, (q66.2.2.2 h83).2.2⟩⟩⟩)⟩⟩⟩)⟩)), (fun h87 => (Exists.elim ((((q35.2 x) h36) h37).2 (Int.not_lt.1 (of_decide_eq_false h87))) fun r4 q88 => Exists.intro r4 ⟨(fun h94 => ⟨⟨h94, h94⟩, (q88.1 h94)⟩), (Exists.elim q88.2 fun r5 q95 => Exists.intro r5 ⟨(fun h101 => ⟨⟨h101, h101⟩, (q95.1 h101)⟩), ⟨(fun h105 => ⟨h105, h105⟩), ⟨(fun h108 => ⟨h108, h108⟩), ⟨(fun h110 => h110), (Exists.elim q95.2 fun r6 q111 => Exists.intro r6 ⟨(fun h117 => ⟨⟨h117, h117⟩, (q111.1 ((selB_at h117).1) ((selB_at h117).2))⟩), (Exists.elim q111.2 fun r7 q118 => Exists.intro r7 ⟨(fun h124 => ⟨⟨h124, h124⟩, (q118.1 ((selB_at h124).1) ((selB_at h124).2))⟩), ⟨(fun h128 => ⟨h128, h128⟩), ⟨(fun h131 => ⟨h131, h131⟩), ⟨(fun h133 => h133), q118.2⟩⟩⟩⟩)⟩)⟩⟩⟩⟩)⟩))⟩)))⟩))⟩⟩⟩⟩)⟩⟩))⟩⟩⟩⟩)⟩)⟩)
/- foresight/foresightlaw01.SignalOrder -/
def cx7 : Cx := { T := tT, own := ownT, frz := [(70011, 1173, [.row 1010])], loops := [(330004, 1010, ⟨[.own 5 0 3 (.int .i64), .val 6 (.int .i64)], 1⟩)], cuts := [], inl := ([33] ++ inlT) }
theorem inl_ok7 : ∀ f, f ∈ ([33] ++ inlT) → Enters Tryd.prog f := by
  intro f hf
  rw [List.mem_append] at hf
  rcases hf with hf | hf
  · simp only [List.mem_cons, List.not_mem_nil, or_false] at hf
    rcases hf with rfl
    · exact ⟨fun _ _ => by kernel_rfl⟩
  · exact inl_ok f hf
set_option maxRecDepth 1000000 in
theorem of7 (l : (Ty.T (.sl (.st (.pair .str (.pair .bool (.pair (.int .i64) .unit))))))) (raw : (Ty.T (.int .u8))) (which : (Ty.T (.int .u8))) (r : Ty.T .bool) (h : ∀ R : Ty.T .bool → Prop, (∀ x, R x ↔ x = r) → WF (.sl (.st (.pair .str (.pair .bool (.pair (.int .i64) .unit))))) l → WF (.int .u8) raw → WF (.int .u8) which → 
    ∃ r : Bool,
    (CallP Tryd.prog tT (9 : Nat) [] Ty.bool r ∧
    ∃ r1 : Bool,
    (CallP Tryd.prog tT (10 : Nat) [(AV.c (Cap.d (Ty.sl (Ty.st (Ty.pair Ty.str (Ty.pair Ty.bool (Ty.pair (Ty.int Go.IntKind.i64) Ty.unit))))) l))] Ty.bool r1 ∧
    ∃ r2 : Bool,
    ((((!(!r1)) = true) →
      (((!(!r1)) = true) ∧
      CallP Tryd.prog tT (13 : Nat) [(AV.c (Cap.d (Ty.sl (Ty.st (Ty.pair Ty.str (Ty.pair Ty.bool (Ty.pair (Ty.int Go.IntKind.i64) Ty.unit))))) l))] Ty.bool r2)) ∧
    ((((!(!r1)) = true) →
      ((!(!r1)) = true)) ∧
    ((((!r1) = false) →
      ((!(!r1)) = true)) ∧
    ((((selB (!r1) true (!r2)) = true) →
      (R r)) ∧
    (((selB (!r1) true (!r2)) = false) →
      ∃ r3 : Int,
      (CallP Tryd.prog tT (19 : Nat) [(AV.c (Cap.d (Ty.sl (Ty.st (Ty.pair Ty.str (Ty.pair Ty.bool (Ty.pair (Ty.int Go.IntKind.i64) Ty.unit))))) l))] (Ty.int Go.IntKind.i64) r3 ∧
      ((((!(decide (r3 < (1 : Int)))) = true) →
        ((!(decide (r3 < (1 : Int)))) = true)) ∧
      ((((!(decide (r3 < (1 : Int)))) = true) →
        ((!(decide (r3 < (1 : Int)))) = true)) ∧
      ((((decide (r3 < (1 : Int))) = false) →
        ((!(decide (r3 < (1 : Int)))) = true)) ∧
      ((((selB (decide (r3 < (1 : Int))) true (decide ((((List.length l) : Nat) : Int) = (0 : Int)))) = true) →
        (R false)) ∧
      (((selB (decide (r3 < (1 : Int))) true (decide ((((List.length l) : Nat) : Int) = (0 : Int)))) = false) →
        (inK Go.IntKind.i64 raw ∧
        ((((0 : Int) ≤ raw) ∧
        ((0 : Int) < r3)) ∧
        (inK Go.IntKind.i64 which ∧
        ((((0 : Int) ≤ which) ∧
        ((0 : Int) < (((List.length l) : Nat) : Int))) ∧
        ∃ I : (((List Int) × (Int × Unit)) → Prop),
        ∃ μ : (((List Int) × (Int × Unit)) → Nat),
        ((I (([] : List Int), ((0 : Int), ()))) ∧
        ∀ x : ((List Int) × (Int × Unit)),
        ((WF (Ty.sl (Ty.int Go.IntKind.i64)) x.1 ∧
          (WF (Ty.int Go.IntKind.i64) x.2.1 ∧
          True)) →
          ((I x) →
            ((((decide (x.2.1 < (((List.length l) : Nat) : Int))) = true) →
              ∃ r4 : Int,
              (CallP Tryd.prog tT (25 : Nat) [(AV.c (Cap.d (Ty.sl (Ty.st (Ty.pair Ty.str (Ty.pair Ty.bool (Ty.pair (Ty.int Go.IntKind.i64) Ty.unit))))) l)), (AV.c (Cap.d (Ty.int Go.IntKind.i64) (raw % r3))), (AV.c (Cap.d (Ty.int Go.IntKind.i64) x.2.1))] (Ty.int Go.IntKind.i64) r4 ∧
              (((((((List.length x.1) + (List.length [r4])) : Nat) : Int) * (((8 : Nat) : Nat) : Int)) ≤ (140737488355328 : Int)) ∧
              (inK Go.IntKind.i64 (x.2.1 + (1 : Int)) ∧
              ((I ((x.1 ++ [r4]), ((x.2.1 + (1 : Int)), ()))) ∧
              ((μ ((x.1 ++ [r4]), ((x.2.1 + (1 : Int)), ()))) < (μ x))))))) ∧
            (((decide (x.2.1 < (((List.length l) : Nat) : Int))) = false) →
              ((((0 : Int) ≤ (which % (((List.length l) : Nat) : Int))) ∧
              ((which % (((List.length l) : Nat) : Int)) < (((List.length x.1) : Nat) : Int))) ∧
              (inK Go.IntKind.i64 ((List.getD x.1 (Int.toNat (which % (((List.length l) : Nat) : Int))) (0 : Int)) + (1 : Int)) ∧
              ((((0 : Int) ≤ (which % (((List.length l) : Nat) : Int))) ∧
              ((which % (((List.length l) : Nat) : Int)) < (((List.length x.1) : Nat) : Int))) ∧
              ∃ r4 : (Int × (Bool × Unit)),
              (CallP Tryd.prog tT (11 : Nat) [(AV.c (Cap.d (Ty.sl (Ty.st (Ty.pair Ty.str (Ty.pair Ty.bool (Ty.pair (Ty.int Go.IntKind.i64) Ty.unit))))) l)), (AV.c (Cap.d (Ty.sl (Ty.int Go.IntKind.i64)) (List.set x.1 (Int.toNat (which % (((List.length l) : Nat) : Int))) ((List.getD x.1 (Int.toNat (which % (((List.length l) : Nat) : Int))) (0 : Int)) + (1 : Int)))))] (Ty.tup (Ty.pair (Ty.int Go.IntKind.i64) (Ty.pair Ty.bool Ty.unit))) r4 ∧
              ((((!r4.2.1) = true) →
                (((r = true) →
                  (((r = true) ∧
                  (r = true)) ∧
                  (((0 : Int) ≤ (which % (((List.length l) : Nat) : Int))) ∧
                  ((which % (((List.length l) : Nat) : Int)) < (((List.length (List.set x.1 (Int.toNat (which % (((List.length l) : Nat) : Int))) ((List.getD x.1 (Int.toNat (which % (((List.length l) : Nat) : Int))) (0 : Int)) + (1 : Int)))) : Nat) : Int))))) ∧
                (((r = true) →
                  (r = true)) ∧
                (((r = true) →
                  (((r = true) ∧
                  (r = true)) ∧
                  (((0 : Int) ≤ (which % (((List.length l) : Nat) : Int))) ∧
                  ((which % (((List.length l) : Nat) : Int)) < (((List.length l) : Nat) : Int))))) ∧
                (((r = true) →
                  (r = true)) ∧
                (((r = true) →
                  (r = true)) ∧
                (((r = true) →
                  ((r = true) ∧
                  (r = true))) ∧
                (((r = true) →
                  (r = true)) ∧
                (R (selB r (decide ((List.getD (List.set x.1 (Int.toNat (which % (((List.length l) : Nat) : Int))) ((List.getD x.1 (Int.toNat (which % (((List.length l) : Nat) : Int))) (0 : Int)) + (1 : Int))) (Int.toNat (which % (((List.length l) : Nat) : Int))) (0 : Int)) = (List.getD l (Int.toNat (which % (((List.length l) : Nat) : Int))) (([] : List UInt8), (false, ((0 : Int), ())))).2.2.1)) false)))))))))) ∧
              (((!r4.2.1) = false) →
                ((((decide (r4.1 ≤ (raw % r3))) = true) →
                  (R false)) ∧
                (((decide (r4.1 ≤ (raw % r3))) = false) →
                  ((((0 : Int) ≤ (which % (((List.length l) : Nat) : Int))) ∧
                  ((which % (((List.length l) : Nat) : Int)) < (((List.length l) : Nat) : Int))) ∧
                  ((((List.getD l (Int.toNat (which % (((List.length l) : Nat) : Int))) (([] : List UInt8), (false, ((0 : Int), ())))).2.1 = true) →
                    ∃ r5 : Int,
                    (((r = true) →
                      (((r = true) ∧
                      (r = true)) ∧
                      CallP Tryd.prog tT (27 : Nat) [(AV.c (Cap.d (Ty.sl (Ty.st (Ty.pair Ty.str (Ty.pair Ty.bool (Ty.pair (Ty.int Go.IntKind.i64) Ty.unit))))) l)), (AV.c (Cap.d (Ty.int Go.IntKind.i64) r4.1))] (Ty.int Go.IntKind.i64) r5)) ∧
                    ∃ r6 : Int,
                    (((r = true) →
                      (((r = true) ∧
                      (r = true)) ∧
                      CallP Tryd.prog tT (27 : Nat) [(AV.c (Cap.d (Ty.sl (Ty.st (Ty.pair Ty.str (Ty.pair Ty.bool (Ty.pair (Ty.int Go.IntKind.i64) Ty.unit))))) l)), (AV.c (Cap.d (Ty.int Go.IntKind.i64) (raw % r3)))] (Ty.int Go.IntKind.i64) r6)) ∧
                    (((r = true) →
                      ((r = true) ∧
                      (r = true))) ∧
                    (((r = true) →
                      (r = true)) ∧
                    ∃ r7 : Int,
                    ((((selB r (decide (r6 < r5)) false) = true) →
                      ((((selB r (decide (r6 < r5)) false) = true) ∧
                      ((selB r (decide (r6 < r5)) false) = true)) ∧
                      CallP Tryd.prog tT (29 : Nat) [(AV.c (Cap.d (Ty.sl (Ty.st (Ty.pair Ty.str (Ty.pair Ty.bool (Ty.pair (Ty.int Go.IntKind.i64) Ty.unit))))) l)), (AV.c (Cap.d (Ty.int Go.IntKind.i64) r4.1))] (Ty.int Go.IntKind.i64) r7)) ∧
                    ∃ r8 : Int,
                    ((((selB r (decide (r6 < r5)) false) = true) →
                      ((((selB r (decide (r6 < r5)) false) = true) ∧
                      ((selB r (decide (r6 < r5)) false) = true)) ∧
                      CallP Tryd.prog tT (29 : Nat) [(AV.c (Cap.d (Ty.sl (Ty.st (Ty.pair Ty.str (Ty.pair Ty.bool (Ty.pair (Ty.int Go.IntKind.i64) Ty.unit))))) l)), (AV.c (Cap.d (Ty.int Go.IntKind.i64) (raw % r3)))] (Ty.int Go.IntKind.i64) r8)) ∧
                    ((((selB r (decide (r6 < r5)) false) = true) →
                      (((selB r (decide (r6 < r5)) false) = true) ∧
                      ((selB r (decide (r6 < r5)) false) = true))) ∧
                    ((((selB r (decide (r6 < r5)) false) = true) →
                      ((selB r (decide (r6 < r5)) false) = true)) ∧
                    (R (selB (selB r (decide (r6 < r5)) false) (decide (r7 = r8)) false))))))))))) ∧
                  (((List.getD l (Int.toNat (which % (((List.length l) : Nat) : Int))) (([] : List UInt8), (false, ((0 : Int), ())))).2.1 = false) →
                    ∃ r5 : Int,
                    (((r = true) →
                      (((r = true) ∧
                      (r = true)) ∧
                      CallP Tryd.prog tT (29 : Nat) [(AV.c (Cap.d (Ty.sl (Ty.st (Ty.pair Ty.str (Ty.pair Ty.bool (Ty.pair (Ty.int Go.IntKind.i64) Ty.unit))))) l)), (AV.c (Cap.d (Ty.int Go.IntKind.i64) r4.1))] (Ty.int Go.IntKind.i64) r5)) ∧
                    ∃ r6 : Int,
                    (((r = true) →
                      (((r = true) ∧
                      (r = true)) ∧
                      CallP Tryd.prog tT (29 : Nat) [(AV.c (Cap.d (Ty.sl (Ty.st (Ty.pair Ty.str (Ty.pair Ty.bool (Ty.pair (Ty.int Go.IntKind.i64) Ty.unit))))) l)), (AV.c (Cap.d (Ty.int Go.IntKind.i64) (raw % r3)))] (Ty.int Go.IntKind.i64) r6)) ∧
                    (((r = true) →
                      ((r = true) ∧
                      (r = true))) ∧
                    (((r = true) →
                      (r = true)) ∧
                    ∃ r7 : Int,
                    ((((selB r (decide (r6 < r5)) false) = true) →
                      ((((selB r (decide (r6 < r5)) false) = true) ∧
                      ((selB r (decide (r6 < r5)) false) = true)) ∧
                      CallP Tryd.prog tT (27 : Nat) [(AV.c (Cap.d (Ty.sl (Ty.st (Ty.pair Ty.str (Ty.pair Ty.bool (Ty.pair (Ty.int Go.IntKind.i64) Ty.unit))))) l)), (AV.c (Cap.d (Ty.int Go.IntKind.i64) r4.1))] (Ty.int Go.IntKind.i64) r7)) ∧
                    ∃ r8 : Int,
                    ((((selB r (decide (r6 < r5)) false) = true) →
                      ((((selB r (decide (r6 < r5)) false) = true) ∧
                      ((selB r (decide (r6 < r5)) false) = true)) ∧
                      CallP Tryd.prog tT (27 : Nat) [(AV.c (Cap.d (Ty.sl (Ty.st (Ty.pair Ty.str (Ty.pair Ty.bool (Ty.pair (Ty.int Go.IntKind.i64) Ty.unit))))) l)), (AV.c (Cap.d (Ty.int Go.IntKind.i64) (raw % r3)))] (Ty.int Go.IntKind.i64) r8)) ∧
                    ((((selB r (decide (r6 < r5)) false) = true) →
                      (((selB r (decide (r6 < r5)) false) = true) ∧
                      ((selB r (decide (r6 < r5)) false) = true))) ∧
                    ((((selB r (decide (r6 < r5)) false) = true) →
                      ((selB r (decide (r6 < r5)) false) = true)) ∧
                    (R (selB (selB r (decide (r6 < r5)) false) (decide (r7 = r8)) false)))))))))))))))))))))))))))))))))))))))))))) : CallP Tryd.prog tT 7 [.d (.sl (.st (.pair .str (.pair .bool (.pair (.int .i64) .unit))))) l, .d (.int .u8) raw, .d (.int .u8) which] .bool r :=
  callP_of (cx := cx7) (d := 6) mixed tab_ok inl_ok7 Tryd.func7 ⟨fun _ _ => by kernel_rfl⟩ rfl rfl fun wf => Eq.mpr (by kernel_rfl) (h (fun x => x = r) (fun _ => Iff.rfl) (wf.1 rfl) (wf.2.1 rfl) (wf.2.2.1 rfl))
set_option maxRecDepth 1000000 in
theorem sf7 (l : (Ty.T (.sl (.st (.pair .str (.pair .bool (.pair (.int .i64) .unit))))))) (raw : (Ty.T (.int .u8))) (which : (Ty.T (.int .u8))) (r : Ty.T .bool) (h : ∀ R : Ty.T .bool → Prop, (∀ x, R x ↔ x = r) → WF (.sl (.st (.pair .str (.pair .bool (.pair (.int .i64) .unit))))) l → WF (.int .u8) raw → WF (.int .u8) which → 
    (∃ r : Bool,
    (CallP Tryd.prog tT (9 : Nat) [] Ty.bool r ∧
    (∃ r1 : Bool,
    (CallP Tryd.prog tT (10 : Nat) [(AV.c (Cap.d (Ty.sl (Ty.st (Ty.pair Ty.str (Ty.pair Ty.bool (Ty.pair (Ty.int Go.IntKind.i64) Ty.unit))))) l))] Ty.bool r1 ∧
    (∃ r2 : Bool,
    (((r1 = true) →
      CallP Tryd.prog tT (13 : Nat) [(AV.c (Cap.d (Ty.sl (Ty.st (Ty.pair Ty.str (Ty.pair Ty.bool (Ty.pair (Ty.int Go.IntKind.i64) Ty.unit))))) l))] Ty.bool r2) ∧
    ((((r1 = false) ∨ (r2 = false)) →
      (R r)) ∧
    ((r1 = true) → (r2 = true) →
      (∃ r3 : Int,
      (CallP Tryd.prog tT (19 : Nat) [(AV.c (Cap.d (Ty.sl (Ty.st (Ty.pair Ty.str (Ty.pair Ty.bool (Ty.pair (Ty.int Go.IntKind.i64) Ty.unit))))) l))] (Ty.int Go.IntKind.i64) r3 ∧
      ((((r3 < (1 : Int)) ∨ ((((List.length l) : Nat) : Int) = (0 : Int))) →
        (R false)) ∧
      (((1 : Int) ≤ r3) → (¬ ((((List.length l) : Nat) : Int) = (0 : Int))) →
        (inK Go.IntKind.i64 raw ∧
        ((((0 : Int) ≤ raw) ∧
        ((0 : Int) < r3)) ∧
        (inK Go.IntKind.i64 which ∧
        ((((0 : Int) ≤ which) ∧
        ((0 : Int) < (((List.length l) : Nat) : Int))) ∧
        (∃ I : (((List Int) × (Int × Unit)) → Prop),
        (∃ μ : (((List Int) × (Int × Unit)) → Nat),
        ((I (([] : List Int), ((0 : Int), ()))) ∧
        (∀ x : ((List Int) × (Int × Unit)),
        ((WF (Ty.sl (Ty.int Go.IntKind.i64)) x.1 ∧
          (WF (Ty.int Go.IntKind.i64) x.2.1 ∧
          True)) →
          ((I x) →
            (((x.2.1 < (((List.length l) : Nat) : Int)) →
              (∃ r4 : Int,
              (CallP Tryd.prog tT (25 : Nat) [(AV.c (Cap.d (Ty.sl (Ty.st (Ty.pair Ty.str (Ty.pair Ty.bool (Ty.pair (Ty.int Go.IntKind.i64) Ty.unit))))) l)), (AV.c (Cap.d (Ty.int Go.IntKind.i64) (raw % r3))), (AV.c (Cap.d (Ty.int Go.IntKind.i64) x.2.1))] (Ty.int Go.IntKind.i64) r4 ∧
              (((((((List.length x.1) + (List.length [r4])) : Nat) : Int) * (((8 : Nat) : Nat) : Int)) ≤ (140737488355328 : Int)) ∧
              (inK Go.IntKind.i64 (x.2.1 + (1 : Int)) ∧
              ((I ((x.1 ++ [r4]), ((x.2.1 + (1 : Int)), ()))) ∧
              ((μ ((x.1 ++ [r4]), ((x.2.1 + (1 : Int)), ()))) < (μ x)))))))) ∧
            (((((List.length l) : Nat) : Int) ≤ x.2.1) →
              ((((0 : Int) ≤ (which % (((List.length l) : Nat) : Int))) ∧
              ((which % (((List.length l) : Nat) : Int)) < (((List.length x.1) : Nat) : Int))) ∧
              (inK Go.IntKind.i64 ((List.getD x.1 (Int.toNat (which % (((List.length l) : Nat) : Int))) (0 : Int)) + (1 : Int)) ∧
              (∃ r4 : (Int × (Bool × Unit)),
              (CallP Tryd.prog tT (11 : Nat) [(AV.c (Cap.d (Ty.sl (Ty.st (Ty.pair Ty.str (Ty.pair Ty.bool (Ty.pair (Ty.int Go.IntKind.i64) Ty.unit))))) l)), (AV.c (Cap.d (Ty.sl (Ty.int Go.IntKind.i64)) (List.set x.1 (Int.toNat (which % (((List.length l) : Nat) : Int))) ((List.getD x.1 (Int.toNat (which % (((List.length l) : Nat) : Int))) (0 : Int)) + (1 : Int)))))] (Ty.tup (Ty.pair (Ty.int Go.IntKind.i64) (Ty.pair Ty.bool Ty.unit))) r4 ∧
              (((r4.2.1 = false) →
                (((r = true) →
                  ((which % (((List.length l) : Nat) : Int)) < (((List.length (List.set x.1 (Int.toNat (which % (((List.length l) : Nat) : Int))) ((List.getD x.1 (Int.toNat (which % (((List.length l) : Nat) : Int))) (0 : Int)) + (1 : Int)))) : Nat) : Int))) ∧
                (((r = true) →
                  ((which % (((List.length l) : Nat) : Int)) < (((List.length l) : Nat) : Int))) ∧
                (R (selB r (decide ((List.getD (List.set x.1 (Int.toNat (which % (((List.length l) : Nat) : Int))) ((List.getD x.1 (Int.toNat (which % (((List.length l) : Nat) : Int))) (0 : Int)) + (1 : Int))) (Int.toNat (which % (((List.length l) : Nat) : Int))) (0 : Int)) = (List.getD l (Int.toNat (which % (((List.length l) : Nat) : Int))) (([] : List UInt8), (false, ((0 : Int), ())))).2.2.1)) false))))) ∧
              ((r4.2.1 = true) →
                (((r4.1 ≤ (raw % r3)) →
                  (R false)) ∧
                (((raw % r3) < r4.1) →
                  (((which % (((List.length l) : Nat) : Int)) < (((List.length l) : Nat) : Int)) ∧
                  ((((List.getD l (Int.toNat (which % (((List.length l) : Nat) : Int))) (([] : List UInt8), (false, ((0 : Int), ())))).2.1 = true) →
                    (∃ r5 : Int,
                    (((r = true) →
                      CallP Tryd.prog tT (27 : Nat) [(AV.c (Cap.d (Ty.sl (Ty.st (Ty.pair Ty.str (Ty.pair Ty.bool (Ty.pair (Ty.int Go.IntKind.i64) Ty.unit))))) l)), (AV.c (Cap.d (Ty.int Go.IntKind.i64) r4.1))] (Ty.int Go.IntKind.i64) r5) ∧
                    (∃ r6 : Int,
                    (((r = true) →
                      CallP Tryd.prog tT (27 : Nat) [(AV.c (Cap.d (Ty.sl (Ty.st (Ty.pair Ty.str (Ty.pair Ty.bool (Ty.pair (Ty.int Go.IntKind.i64) Ty.unit))))) l)), (AV.c (Cap.d (Ty.int Go.IntKind.i64) (raw % r3)))] (Ty.int Go.IntKind.i64) r6) ∧
                    (∃ r7 : Int,
                    (((r = true) → (r6 < r5) →
                      CallP Tryd.prog tT (29 : Nat) [(AV.c (Cap.d (Ty.sl (Ty.st (Ty.pair Ty.str (Ty.pair Ty.bool (Ty.pair (Ty.int Go.IntKind.i64) Ty.unit))))) l)), (AV.c (Cap.d (Ty.int Go.IntKind.i64) r4.1))] (Ty.int Go.IntKind.i64) r7) ∧
                    (∃ r8 : Int,
                    (((r = true) → (r6 < r5) →
                      CallP Tryd.prog tT (29 : Nat) [(AV.c (Cap.d (Ty.sl (Ty.st (Ty.pair Ty.str (Ty.pair Ty.bool (Ty.pair (Ty.int Go.IntKind.i64) Ty.unit))))) l)), (AV.c (Cap.d (Ty.int Go.IntKind.i64) (raw % r3)))] (Ty.int Go.IntKind.i64) r8) ∧
                    (R (selB (selB r (decide (r6 < r5)) false) (decide (r7 = r8)) false))))))))))) ∧
                  (((List.getD l (Int.toNat (which % (((List.length l) : Nat) : Int))) (([] : List UInt8), (false, ((0 : Int), ())))).2.1 = false) →
                    (∃ r5 : Int,
                    (((r = true) →
                      CallP Tryd.prog tT (29 : Nat) [(AV.c (Cap.d (Ty.sl (Ty.st (Ty.pair Ty.str (Ty.pair Ty.bool (Ty.pair (Ty.int Go.IntKind.i64) Ty.unit))))) l)), (AV.c (Cap.d (Ty.int Go.IntKind.i64) r4.1))] (Ty.int Go.IntKind.i64) r5) ∧
                    (∃ r6 : Int,
                    (((r = true) →
                      CallP Tryd.prog tT (29 : Nat) [(AV.c (Cap.d (Ty.sl (Ty.st (Ty.pair Ty.str (Ty.pair Ty.bool (Ty.pair (Ty.int Go.IntKind.i64) Ty.unit))))) l)), (AV.c (Cap.d (Ty.int Go.IntKind.i64) (raw % r3)))] (Ty.int Go.IntKind.i64) r6) ∧
                    (∃ r7 : Int,
                    (((r = true) → (r6 < r5) →
                      CallP Tryd.prog tT (27 : Nat) [(AV.c (Cap.d (Ty.sl (Ty.st (Ty.pair Ty.str (Ty.pair Ty.bool (Ty.pair (Ty.int Go.IntKind.i64) Ty.unit))))) l)), (AV.c (Cap.d (Ty.int Go.IntKind.i64) r4.1))] (Ty.int Go.IntKind.i64) r7) ∧
                    (∃ r8 : Int,
                    (((r = true) → (r6 < r5) →
                      CallP Tryd.prog tT (27 : Nat) [(AV.c (Cap.d (Ty.sl (Ty.st (Ty.pair Ty.str (Ty.pair Ty.bool (Ty.pair (Ty.int Go.IntKind.i64) Ty.unit))))) l)), (AV.c (Cap.d (Ty.int Go.IntKind.i64) (raw % r3)))] (Ty.int Go.IntKind.i64) r8) ∧
                    (R (selB (selB r (decide (r6 < r5)) false) (decide (r7 = r8)) false)))))))))))))))))))))))))))))))))))))))))))))) : CallP Tryd.prog tT 7 [.d (.sl (.st (.pair .str (.pair .bool (.pair (.int .i64) .unit))))) l, .d (.int .u8) raw, .d (.int .u8) which] .bool r :=
  of7 l raw which r fun R hR w0_ w1_ w2_ => have p := h R hR w0_ w1_ w2_
    (Exists.elim p fun r q1 => Exists.intro r ⟨q1.1, (Exists.elim q1.2 fun r1 q2 => Exists.intro r1 ⟨q2.1, (Exists.elim q2.2 fun r2 q3 => Exists.intro r2 ⟨(fun h9 => ⟨h9, (q3.1 (bnot_f (bnot_t h9)))⟩), ⟨(fun h13 => h13), ⟨(fun h16 => (bnot_t2 h16)), ⟨(fun h22 => (q3.2.1 (Or.imp (fun h => (bnot_t h)) (fun h => (bnot_t h)) (selB_ot h22)))), (fun h24 => (Exists.elim (q3.2.2 (bnot_f (selB_of h24).1) (bnot_f (selB_of h24).2)) fun r3 q25 => Exists.intro r3 ⟨q25.1, ⟨(fun h30 => h30), ⟨(fun h34 => h34), ⟨(fun h37 => (bnot_t2 h37)), ⟨(fun h43 => (q25.2.1 (Or.imp (fun h => (of_decide_eq_true h)) (fun h => (of_decide_eq_true h)) (selB_ot h43)))), (fun h45 => ⟨(q25.2.2 (Int.not_lt.1 (of_decide_eq_false (selB_of h45).1)) (of_decide_eq_false (selB_of h45).2)).1, ⟨⟨(q25.2.2 (Int.not_lt.1 (of_decide_eq_false (selB_of h45).1)) (of_decide_eq_false (selB_of h45).2)).2.1.1, (q25.2.2 (Int.not_lt.1 (of_decide_eq_false (selB_of h45).1)) (of_decide_eq_false (selB_of h45).2)).2.1.2⟩, ⟨(q25.2.2 (Int.not_lt.1 (of_decide_eq_false (selB_of h45).1)) (of_decide_eq_false (selB_of h45).2)).2.2.1, ⟨⟨(q25.2.2 (Int.not_lt.1 (of_decide_eq_false (selB_of h45).1)) (of_decide_eq_false (selB_of h45).2)).2.2.2.1.1, (q25.2.2 (Int.not_lt.1 (of_decide_eq_false (selB_of h45).1)) (of_decide_eq_false (selB_of h45).2)).2.2.2.1.2⟩, (Exists.elim (q25.2.2 (Int.not_lt.1 (of_decide_eq_false (selB_of h45).1)) (of_decide_eq_false (selB_of h45).2)).2.2.2.2 fun I q46 => Exists.intro I (Exists.elim q46 fun μ q47 => Exists.intro μ ⟨q47.1, (fun x => (fun h48 => (fun h49 => ⟨(fun h56 => (Exists.elim ((((q47.2 x) h48) h49).1 (of_decide_eq_true h56)) fun r4 q57 => Exists.intro r4 ⟨q57.1, ⟨q57.2.1, ⟨q57.2.2.1, ⟨q57.2.2.2.1, q57.2.2.2.2⟩⟩⟩⟩)), (fun h59 => ⟨⟨((((q47.2 x) h48) h49).2 (Int.not_lt.1 (of_decide_eq_false h59))).1.1, ((((q47.2 x) h48) h49).2 (Int.not_lt.1 (of_decide_eq_false h59))).1.2⟩, ⟨((((q47.2 x) h48) h49).2 (Int.not_lt.1 (of_decide_eq_false h59))).2.1, ⟨⟨((((q47.2 x) h48) h49).2 (Int.not_lt.1 (of_decide_eq_false h59))).1.1, ((((q47.2 x) h48) h49).2 (Int.not_lt.1 (of_decide_eq_false h59))).1.2⟩, (Exists.elim ((((q47.2 x) h48) h49).2 (Int.not_lt.1 (of_decide_eq_false h59))).2.2 fun r4 q60 => Exists.intro r4 ⟨q60.1, ⟨(fun h99 => ⟨(fun h105 => ⟨⟨h105, h105⟩, ⟨((((q47.2 x) h48) h49).2 (Int.not_lt.1 (of_decide_eq_false h59))).1.1, ((q60.2.1 (bnot_t h99)).1 h105)⟩⟩), ⟨(fun h108 => h108), ⟨(fun h114 => ⟨⟨h114, h114⟩, ⟨((((q47.2 x) h48) h49).2 (Int.not_lt.1 (of_decide_eq_false h59))).1.1, ((q60.2.1 (bnot_t h99)).2.1 h114)⟩⟩), ⟨(fun h119 => h119), ⟨(fun h123 => h123), ⟨(fun h126 => ⟨h126, h126⟩), ⟨(fun h128 => h128), (q60.2.1 (bnot_t h99)).2.2⟩⟩⟩⟩⟩⟩⟩), (fun h131 => ⟨(fun h137 => ((q60.2.2 (bnot_f h131)).1 (of_decide_eq_true h137))), (fun h139 => ⟨⟨((((q47.2 x) h48) h49).2 (Int.not_lt.1 (of_decide_eq_false h59))).1.1, ((q60.2.2 (bnot_f h131)).2 (Int.not_le.1 (of_decide_eq_false h139))).1⟩, ⟨(fun h183 => (Exists.elim (((q60.2.2 (bnot_f h131)).2 (Int.not_le.1 (of_decide_eq_false h139))).2.1 h183) fun r5 q184 => Exists.intro r5 ⟨(fun h190 => ⟨⟨h190, h190⟩, (q184.1 h190)⟩), (Exists.elim q184.2 fun r6 q191 => Exists.intro r6 ⟨(fun h197 => ⟨⟨h197, h197⟩, (q191.1 h197)⟩), ⟨(fun h200 => ⟨h200, h200⟩), ⟨(fun h202 => h202), (Exists.elim q191.2 fun r7 q203 => Exists.intro r7 ⟨(fun h209 => ⟨⟨h209, h209⟩, (q203.1 ((selB_at h209).1) (of_decide_eq_true (selB_at h209).2))⟩), (Exists.elim q203.2 fun r8 q210 => Exists.intro r8 ⟨(fun h216 => ⟨⟨h216, h216⟩, (q210.1 ((selB_at h216).1) (of_decide_eq_true (selB_at h216).2))⟩), ⟨(fun h219 => ⟨h219, h219⟩), ⟨(fun h221 => h221), q210.2⟩⟩⟩)⟩)⟩⟩⟩)⟩)), (fun h223 => (Exists.elim (((q60.2.2 (bnot_f h131)).2 (Int.not_le.1 (of_decide_eq_false h139))).2.2 h223) fun r5 q224 => Exists.intro r5 ⟨(fun h230 => ⟨⟨h230, h230⟩, (q224.1 h230)⟩), (Exists.elim q224.2 fun r6 q231 => Exists.intro r6 ⟨(fun h237 => ⟨⟨h237, h237⟩, (q231.1 h237)⟩), ⟨(fun h240 => ⟨h240, h240⟩), ⟨(fun h242 => h242), (Exists.elim q231.2 fun r7 q243 => Exists.intro r7 ⟨(fun h249 => ⟨⟨h249, h249⟩, (q243.1 ((selB_at h249).1) (of_decide_eq_true (selB_at h249).2))⟩), (Exists.elim q243.2 fun r8 q250 => Exists.intro r8 ⟨(fun h256 => ⟨⟨h256, h256⟩, (q250.1 ((selB_at h256).1) (of_decide_eq_true (selB_at h256).2))⟩), ⟨(fun h259 => ⟨h259, h259⟩), ⟨(fun h261 => h261), q250.2⟩⟩⟩)⟩)⟩⟩⟩)⟩))⟩⟩)⟩)⟩⟩)⟩⟩⟩)⟩)))⟩))⟩⟩⟩⟩)⟩⟩⟩⟩⟩))⟩⟩⟩⟩)⟩)⟩)
/- foresight/foresightlaw01.SignalParts -/
def cx8 : Cx := { T := tT, own := ownT, frz := [], loops := [(80006, 364, ⟨[.val 6 (.int .i64)], 0⟩)], cuts := [], inl := inlT }
set_option maxRecDepth 1000000 in
theorem of8 (l : (Ty.T (.sl (.st (.pair .str (.pair .bool (.pair (.int .i64) .unit))))))) (which : (Ty.T (.int .u8))) (r : Ty.T .bool) (h : ∀ R : Ty.T .bool → Prop, (∀ x, R x ↔ x = r) → WF (.sl (.st (.pair .str (.pair .bool (.pair (.int .i64) .unit))))) l → WF (.int .u8) which → 
    ∃ r : Bool,
    (CallP Tryd.prog tT (9 : Nat) [] Ty.bool r ∧
    ∃ r1 : Bool,
    (CallP Tryd.prog tT (10 : Nat) [(AV.c (Cap.d (Ty.sl (Ty.st (Ty.pair Ty.str (Ty.pair Ty.bool (Ty.pair (Ty.int Go.IntKind.i64) Ty.unit))))) l))] Ty.bool r1 ∧
    ∃ r2 : Bool,
    ((((!(!r1)) = true) →
      (((!(!r1)) = true) ∧
      CallP Tryd.prog tT (13 : Nat) [(AV.c (Cap.d (Ty.sl (Ty.st (Ty.pair Ty.str (Ty.pair Ty.bool (Ty.pair (Ty.int Go.IntKind.i64) Ty.unit))))) l))] Ty.bool r2)) ∧
    ((((!(!r1)) = true) →
      ((!(!r1)) = true)) ∧
    ((((!r1) = false) →
      ((!(!r1)) = true)) ∧
    ((((!(selB (!r1) true (!r2))) = true) →
      ((!(selB (!r1) true (!r2))) = true)) ∧
    ((((!(selB (!r1) true (!r2))) = true) →
      ((!(selB (!r1) true (!r2))) = true)) ∧
    ((((selB (!r1) true (!r2)) = false) →
      ((!(selB (!r1) true (!r2))) = true)) ∧
    ((((selB (selB (!r1) true (!r2)) true (decide ((((List.length l) : Nat) : Int) = (0 : Int)))) = true) →
      (R r)) ∧
    (((selB (selB (!r1) true (!r2)) true (decide ((((List.length l) : Nat) : Int) = (0 : Int)))) = false) →
      ∃ I : ((Int × Unit) → Prop),
      ∃ μ : ((Int × Unit) → Nat),
      ((I ((0 : Int), ())) ∧
      ∀ x : (Int × Unit),
      ((WF (Ty.int Go.IntKind.i64) x.1 ∧
        True) →
        ((I x) →
          ((((decide (x.1 < (((List.length l) : Nat) : Int))) = true) →
            ((((0 : Int) ≤ x.1) ∧
            (x.1 < (((List.length l) : Nat) : Int))) ∧
            ∃ r3 : Int,
            (CallP Tryd.prog tT (17 : Nat) [(AV.c (Cap.d (Ty.sl (Ty.st (Ty.pair Ty.str (Ty.pair Ty.bool (Ty.pair (Ty.int Go.IntKind.i64) Ty.unit))))) l)), (AV.c (Cap.d Ty.str (List.getD l (Int.toNat x.1) (([] : List UInt8), (false, ((0 : Int), ())))).1))] (Ty.int Go.IntKind.i64) r3 ∧
            ((((!(decide (r3 = x.1))) = true) →
              (R false)) ∧
            (((!(decide (r3 = x.1))) = false) →
              (inK Go.IntKind.i64 (x.1 + (1 : Int)) ∧
              ((I ((x.1 + (1 : Int)), ())) ∧
              ((μ ((x.1 + (1 : Int)), ())) < (μ x))))))))) ∧
          (((decide (x.1 < (((List.length l) : Nat) : Int))) = false) →
            (inK Go.IntKind.i64 which ∧
            ((((0 : Int) ≤ which) ∧
            ((0 : Int) < (((List.length l) : Nat) : Int))) ∧
            ((((0 : Int) ≤ (which % (((List.length l) : Nat) : Int))) ∧
            ((which % (((List.length l) : Nat) : Int)) ≤ (((List.length l) : Nat) : Int))) ∧
            (((((((List.length ([] : List ((List UInt8) × (Bool × (Int × Unit))))) + (List.length (List.take (Int.toNat (which % (((List.length l) : Nat) : Int))) l))) : Nat) : Int) * (((32 : Nat) : Nat) : Int)) ≤ (140737488355328 : Int)) ∧
            (inK Go.IntKind.i64 ((which % (((List.length l) : Nat) : Int)) + (1 : Int)) ∧
            ((((0 : Int) ≤ ((which % (((List.length l) : Nat) : Int)) + (1 : Int))) ∧
            (((which % (((List.length l) : Nat) : Int)) + (1 : Int)) ≤ (((List.length l) : Nat) : Int))) ∧
            (((((((List.length (([] : List ((List UInt8) × (Bool × (Int × Unit)))) ++ (List.take (Int.toNat (which % (((List.length l) : Nat) : Int))) l))) + (List.length (List.drop (Int.toNat ((which % (((List.length l) : Nat) : Int)) + (1 : Int))) l))) : Nat) : Int) * (((32 : Nat) : Nat) : Int)) ≤ (140737488355328 : Int)) ∧
            ((((decide ((((List.length ((([] : List ((List UInt8) × (Bool × (Int × Unit)))) ++ (List.take (Int.toNat (which % (((List.length l) : Nat) : Int))) l)) ++ (List.drop (Int.toNat ((which % (((List.length l) : Nat) : Int)) + (1 : Int))) l))) : Nat) : Int) = (0 : Int))) = true) →
              ∃ r3 : Bool,
              (((r = true) →
                ((r = true) ∧
                CallP Tryd.prog tT (13 : Nat) [(AV.c (Cap.d (Ty.sl (Ty.st (Ty.pair Ty.str (Ty.pair Ty.bool (Ty.pair (Ty.int Go.IntKind.i64) Ty.unit))))) ((([] : List ((List UInt8) × (Bool × (Int × Unit)))) ++ (List.take (Int.toNat (which % (((List.length l) : Nat) : Int))) l)) ++ (List.drop (Int.toNat ((which % (((List.length l) : Nat) : Int)) + (1 : Int))) l))))] Ty.bool r3)) ∧
              (((r = true) →
                (r = true)) ∧
              (((r = true) →
                (r = true)) ∧
              (R (selB r (!r3) false)))))) ∧
            (((decide ((((List.length ((([] : List ((List UInt8) × (Bool × (Int × Unit)))) ++ (List.take (Int.toNat (which % (((List.length l) : Nat) : Int))) l)) ++ (List.drop (Int.toNat ((which % (((List.length l) : Nat) : Int)) + (1 : Int))) l))) : Nat) : Int) = (0 : Int))) = false) →
              ∃ r3 : Bool,
              (((r = true) →
                ((r = true) ∧
                CallP Tryd.prog tT (13 : Nat) [(AV.c (Cap.d (Ty.sl (Ty.st (Ty.pair Ty.str (Ty.pair Ty.bool (Ty.pair (Ty.int Go.IntKind.i64) Ty.unit))))) ((([] : List ((List UInt8) × (Bool × (Int × Unit)))) ++ (List.take (Int.toNat (which % (((List.length l) : Nat) : Int))) l)) ++ (List.drop (Int.toNat ((which % (((List.length l) : Nat) : Int)) + (1 : Int))) l))))] Ty.bool r3)) ∧
              (((r = true) →
                (r = true)) ∧
              ∃ r4 : Int,
              ((((selB r r3 false) = true) →
                (((selB r r3 false) = true) ∧
                CallP Tryd.prog tT (19 : Nat) [(AV.c (Cap.d (Ty.sl (Ty.st (Ty.pair Ty.str (Ty.pair Ty.bool (Ty.pair (Ty.int Go.IntKind.i64) Ty.unit))))) ((([] : List ((List UInt8) × (Bool × (Int × Unit)))) ++ (List.take (Int.toNat (which % (((List.length l) : Nat) : Int))) l)) ++ (List.drop (Int.toNat ((which % (((List.length l) : Nat) : Int)) + (1 : Int))) l))))] (Ty.int Go.IntKind.i64) r4)) ∧
              ((((selB r r3 false) = true) →
                ((((selB r r3 false) = true) ∧
                ((selB r r3 false) = true)) ∧
                (((0 : Int) ≤ (which % (((List.length l) : Nat) : Int))) ∧
                ((which % (((List.length l) : Nat) : Int)) < (((List.length l) : Nat) : Int))))) ∧
              ((((selB r r3 false) = true) →
                ((selB r r3 false) = true)) ∧
              ((((selB r r3 false) = true) →
                ((selB r r3 false) = true)) ∧
              ((((selB r r3 false) = true) →
                ((((selB r r3 false) = true) ∧
                ((selB r r3 false) = true)) ∧
                inK Go.IntKind.i64 (r4 * (List.getD l (Int.toNat (which % (((List.length l) : Nat) : Int))) (([] : List UInt8), (false, ((0 : Int), ())))).2.2.1))) ∧
              ∃ r5 : Int,
              ((((selB r r3 false) = true) →
                (((selB r r3 false) = true) ∧
                CallP Tryd.prog tT (19 : Nat) [(AV.c (Cap.d (Ty.sl (Ty.st (Ty.pair Ty.str (Ty.pair Ty.bool (Ty.pair (Ty.int Go.IntKind.i64) Ty.unit))))) l))] (Ty.int Go.IntKind.i64) r5)) ∧
              ((((selB r r3 false) = true) →
                (((selB r r3 false) = true) ∧
                ((selB r r3 false) = true))) ∧
              ((((selB r r3 false) = true) →
                ((selB r r3 false) = true)) ∧
              ((((selB (selB r r3 false) (decide ((r4 * (List.getD l (Int.toNat (which % (((List.length l) : Nat) : Int))) (([] : List UInt8), (false, ((0 : Int), ())))).2.2.1) = r5)) false) = true) →
                ((((selB (selB r r3 false) (decide ((r4 * (List.getD l (Int.toNat (which % (((List.length l) : Nat) : Int))) (([] : List UInt8), (false, ((0 : Int), ())))).2.2.1) = r5)) false) = true) ∧
                ((selB (selB r r3 false) (decide ((r4 * (List.getD l (Int.toNat (which % (((List.length l) : Nat) : Int))) (([] : List UInt8), (false, ((0 : Int), ())))).2.2.1) = r5)) false) = true)) ∧
                (((0 : Int) ≤ (which % (((List.length l) : Nat) : Int))) ∧
                ((which % (((List.length l) : Nat) : Int)) < (((List.length l) : Nat) : Int))))) ∧
              ((((selB (selB r r3 false) (decide ((r4 * (List.getD l (Int.toNat (which % (((List.length l) : Nat) : Int))) (([] : List UInt8), (false, ((0 : Int), ())))).2.2.1) = r5)) false) = true) →
                ((selB (selB r r3 false) (decide ((r4 * (List.getD l (Int.toNat (which % (((List.length l) : Nat) : Int))) (([] : List UInt8), (false, ((0 : Int), ())))).2.2.1) = r5)) false) = true)) ∧
              ((((selB (selB r r3 false) (decide ((r4 * (List.getD l (Int.toNat (which % (((List.length l) : Nat) : Int))) (([] : List UInt8), (false, ((0 : Int), ())))).2.2.1) = r5)) false) = true) →
                ((selB (selB r r3 false) (decide ((r4 * (List.getD l (Int.toNat (which % (((List.length l) : Nat) : Int))) (([] : List UInt8), (false, ((0 : Int), ())))).2.2.1) = r5)) false) = true)) ∧
              ∃ r6 : Int,
              ((((selB (selB r r3 false) (decide ((r4 * (List.getD l (Int.toNat (which % (((List.length l) : Nat) : Int))) (([] : List UInt8), (false, ((0 : Int), ())))).2.2.1) = r5)) false) = true) →
                ((((selB (selB r r3 false) (decide ((r4 * (List.getD l (Int.toNat (which % (((List.length l) : Nat) : Int))) (([] : List UInt8), (false, ((0 : Int), ())))).2.2.1) = r5)) false) = true) ∧
                ((selB (selB r r3 false) (decide ((r4 * (List.getD l (Int.toNat (which % (((List.length l) : Nat) : Int))) (([] : List UInt8), (false, ((0 : Int), ())))).2.2.1) = r5)) false) = true)) ∧
                CallP Tryd.prog tT (17 : Nat) [(AV.c (Cap.d (Ty.sl (Ty.st (Ty.pair Ty.str (Ty.pair Ty.bool (Ty.pair (Ty.int Go.IntKind.i64) Ty.unit))))) ((([] : List ((List UInt8) × (Bool × (Int × Unit)))) ++ (List.take (Int.toNat (which % (((List.length l) : Nat) : Int))) l)) ++ (List.drop (Int.toNat ((which % (((List.length l) : Nat) : Int)) + (1 : Int))) l)))), (AV.c (Cap.d Ty.str (List.getD l (Int.toNat (which % (((List.length l) : Nat) : Int))) (([] : List UInt8), (false, ((0 : Int), ())))).1))] (Ty.int Go.IntKind.i64) r6)) ∧
              ((((selB (selB r r3 false) (decide ((r4 * (List.getD l (Int.toNat (which % (((List.length l) : Nat) : Int))) (([] : List UInt8), (false, ((0 : Int), ())))).2.2.1) = r5)) false) = true) →
                ((selB (selB r r3 false) (decide ((r4 * (List.getD l (Int.toNat (which % (((List.length l) : Nat) : Int))) (([] : List UInt8), (false, ((0 : Int), ())))).2.2.1) = r5)) false) = true)) ∧
              ((((selB (selB r r3 false) (decide ((r4 * (List.getD l (Int.toNat (which % (((List.length l) : Nat) : Int))) (([] : List UInt8), (false, ((0 : Int), ())))).2.2.1) = r5)) false) = true) →
                ((selB (selB r r3 false) (decide ((r4 * (List.getD l (Int.toNat (which % (((List.length l) : Nat) : Int))) (([] : List UInt8), (false, ((0 : Int), ())))).2.2.1) = r5)) false) = true)) ∧
              (R (selB (selB (selB r r3 false) (decide ((r4 * (List.getD l (Int.toNat (which % (((List.length l) : Nat) : Int))) (([] : List UInt8), (false, ((0 : Int), ())))).2.2.1) = r5)) false) (decide (r6 = (-(1 : Int)))) false))))))))))))))))))))))))))))))))))))))))))) : CallP Tryd.prog tT 8 [.d (.sl (.st (.pair .str (.pair .bool (.pair (.int .i64) .unit))))) l, .d (.int .u8) which] .bool r :=
  callP_of (cx := cx8) (d := 6) mixed tab_ok inl_ok Tryd.func8 ⟨fun _ _ => by kernel_rfl⟩ rfl rfl fun wf => Eq.mpr (by kernel_rfl) (h (fun x => x = r) (fun _ => Iff.rfl) (wf.1 rfl) (wf.2.1 rfl))
set_option maxRecDepth 1000000 in
theorem sf8 (l : (Ty.T (.sl (.st (.pair .str (.pair .bool (.pair (.int .i64) .unit))))))) (which : (Ty.T (.int .u8))) (r : Ty.T .bool) (h : ∀ R : Ty.T .bool → Prop, (∀ x, R x ↔ x = r) → WF (.sl (.st (.pair .str (.pair .bool (.pair (.int .i64) .unit))))) l → WF (.int .u8) which → 
    (∃ r : Bool,
    (CallP Tryd.prog tT (9 : Nat) [] Ty.bool r ∧
    (∃ r1 : Bool,
    (CallP Tryd.prog tT (10 : Nat) [(AV.c (Cap.d (Ty.sl (Ty.st (Ty.pair Ty.str (Ty.pair Ty.bool (Ty.pair (Ty.int Go.IntKind.i64) Ty.unit))))) l))] Ty.bool r1 ∧
    (∃ r2 : Bool,
    (((r1 = true) →
      CallP Tryd.prog tT (13 : Nat) [(AV.c (Cap.d (Ty.sl (Ty.st (Ty.pair Ty.str (Ty.pair Ty.bool (Ty.pair (Ty.int Go.IntKind.i64) Ty.unit))))) l))] Ty.bool r2) ∧
    (((((r1 = false) ∨ (r2 = false)) ∨ ((((List.length l) : Nat) : Int) = (0 : Int))) →
      (R r)) ∧
    ((r1 = true) → (r2 = true) → (¬ ((((List.length l) : Nat) : Int) = (0 : Int))) →
      (∃ I : ((Int × Unit) → Prop),
      (∃ μ : ((Int × Unit) → Nat),
      ((I ((0 : Int), ())) ∧
      (∀ x : (Int × Unit),
      ((WF (Ty.int Go.IntKind.i64) x.1 ∧
        True) →
        ((I x) →
          (((x.1 < (((List.length l) : Nat) : Int)) →
            (((0 : Int) ≤ x.1) ∧
            (∃ r3 : Int,
            (CallP Tryd.prog tT (17 : Nat) [(AV.c (Cap.d (Ty.sl (Ty.st (Ty.pair Ty.str (Ty.pair Ty.bool (Ty.pair (Ty.int Go.IntKind.i64) Ty.unit))))) l)), (AV.c (Cap.d Ty.str (List.getD l (Int.toNat x.1) (([] : List UInt8), (false, ((0 : Int), ())))).1))] (Ty.int Go.IntKind.i64) r3 ∧
            (((¬ (r3 = x.1)) →
              (R false)) ∧
            ((r3 = x.1) →
              (inK Go.IntKind.i64 (x.1 + (1 : Int)) ∧
              ((I ((x.1 + (1 : Int)), ())) ∧
              ((μ ((x.1 + (1 : Int)), ())) < (μ x)))))))))) ∧
          (((((List.length l) : Nat) : Int) ≤ x.1) →
            (inK Go.IntKind.i64 which ∧
            ((((0 : Int) ≤ which) ∧
            ((0 : Int) < (((List.length l) : Nat) : Int))) ∧
            ((((0 : Int) ≤ (which % (((List.length l) : Nat) : Int))) ∧
            ((which % (((List.length l) : Nat) : Int)) ≤ (((List.length l) : Nat) : Int))) ∧
            (((((((List.length ([] : List ((List UInt8) × (Bool × (Int × Unit))))) + (List.length (List.take (Int.toNat (which % (((List.length l) : Nat) : Int))) l))) : Nat) : Int) * (((32 : Nat) : Nat) : Int)) ≤ (140737488355328 : Int)) ∧
            (inK Go.IntKind.i64 ((which % (((List.length l) : Nat) : Int)) + (1 : Int)) ∧
            ((((0 : Int) ≤ ((which % (((List.length l) : Nat) : Int)) + (1 : Int))) ∧
            (((which % (((List.length l) : Nat) : Int)) + (1 : Int)) ≤ (((List.length l) : Nat) : Int))) ∧
            (((((((List.length (([] : List ((List UInt8) × (Bool × (Int × Unit)))) ++ (List.take (Int.toNat (which % (((List.length l) : Nat) : Int))) l))) + (List.length (List.drop (Int.toNat ((which % (((List.length l) : Nat) : Int)) + (1 : Int))) l))) : Nat) : Int) * (((32 : Nat) : Nat) : Int)) ≤ (140737488355328 : Int)) ∧
            ((((((List.length ((([] : List ((List UInt8) × (Bool × (Int × Unit)))) ++ (List.take (Int.toNat (which % (((List.length l) : Nat) : Int))) l)) ++ (List.drop (Int.toNat ((which % (((List.length l) : Nat) : Int)) + (1 : Int))) l))) : Nat) : Int) = (0 : Int)) →
              (∃ r3 : Bool,
              (((r = true) →
                CallP Tryd.prog tT (13 : Nat) [(AV.c (Cap.d (Ty.sl (Ty.st (Ty.pair Ty.str (Ty.pair Ty.bool (Ty.pair (Ty.int Go.IntKind.i64) Ty.unit))))) ((([] : List ((List UInt8) × (Bool × (Int × Unit)))) ++ (List.take (Int.toNat (which % (((List.length l) : Nat) : Int))) l)) ++ (List.drop (Int.toNat ((which % (((List.length l) : Nat) : Int)) + (1 : Int))) l))))] Ty.bool r3) ∧
              (R (selB r (!r3) false))))) ∧
            ((¬ ((((List.length ((([] : List ((List UInt8) × (Bool × (Int × Unit)))) ++ (List.take (Int.toNat (which % (((List.length l) : Nat) : Int))) l)) ++ (List.drop (Int.toNat ((which % (((List.length l) : Nat) : Int)) + (1 : Int))) l))) : Nat) : Int) = (0 : Int))) →
              (∃ r3 : Bool,
              (((r = true) →
                CallP Tryd.prog tT (13 : Nat) [(AV.c (Cap.d (Ty.sl (Ty.st (Ty.pair Ty.str (Ty.pair Ty.bool (Ty.pair (Ty.int Go.IntKind.i64) Ty.unit))))) ((([] : List ((List UInt8) × (Bool × (Int × Unit)))) ++ (List.take (Int.toNat (which % (((List.length l) : Nat) : Int))) l)) ++ (List.drop (Int.toNat ((which % (((List.length l) : Nat) : Int)) + (1 : Int))) l))))] Ty.bool r3) ∧
              (∃ r4 : Int,
              (((r = true) → (r3 = true) →
                CallP Tryd.prog tT (19 : Nat) [(AV.c (Cap.d (Ty.sl (Ty.st (Ty.pair Ty.str (Ty.pair Ty.bool (Ty.pair (Ty.int Go.IntKind.i64) Ty.unit))))) ((([] : List ((List UInt8) × (Bool × (Int × Unit)))) ++ (List.take (Int.toNat (which % (((List.length l) : Nat) : Int))) l)) ++ (List.drop (Int.toNat ((which % (((List.length l) : Nat) : Int)) + (1 : Int))) l))))] (Ty.int Go.IntKind.i64) r4) ∧
              (((r = true) → (r3 = true) →
                ((which % (((List.length l) : Nat) : Int)) < (((List.length l) : Nat) : Int))) ∧
              (((r = true) → (r3 = true) →
                inK Go.IntKind.i64 (r4 * (List.getD l (Int.toNat (which % (((List.length l) : Nat) : Int))) (([] : List UInt8), (false, ((0 : Int), ())))).2.2.1)) ∧
              (∃ r5 : Int,
              (((r = true) → (r3 = true) →
                CallP Tryd.prog tT (19 : Nat) [(AV.c (Cap.d (Ty.sl (Ty.st (Ty.pair Ty.str (Ty.pair Ty.bool (Ty.pair (Ty.int Go.IntKind.i64) Ty.unit))))) l))] (Ty.int Go.IntKind.i64) r5) ∧
              (∃ r6 : Int,
              (((r = true) → (r3 = true) → ((r4 * (List.getD l (Int.toNat (which % (((List.length l) : Nat) : Int))) (([] : List UInt8), (false, ((0 : Int), ())))).2.2.1) = r5) →
                CallP Tryd.prog tT (17 : Nat) [(AV.c (Cap.d (Ty.sl (Ty.st (Ty.pair Ty.str (Ty.pair Ty.bool (Ty.pair (Ty.int Go.IntKind.i64) Ty.unit))))) ((([] : List ((List UInt8) × (Bool × (Int × Unit)))) ++ (List.take (Int.toNat (which % (((List.length l) : Nat) : Int))) l)) ++ (List.drop (Int.toNat ((which % (((List.length l) : Nat) : Int)) + (1 : Int))) l)))), (AV.c (Cap.d Ty.str (List.getD l (Int.toNat (which % (((List.length l) : Nat) : Int))) (([] : List UInt8), (false, ((0 : Int), ())))).1))] (Ty.int Go.IntKind.i64) r6) ∧
              (R (selB (selB (selB r r3 false) (decide ((r4 * (List.getD l (Int.toNat (which % (((List.length l) : Nat) : Int))) (([] : List UInt8), (false, ((0 : Int), ())))).2.2.1) = r5)) false) (decide (r6 = (-(1 : Int)))) false)))))))))))))))))))))))))))))))))))))) : CallP Tryd.prog tT 8 [.d (.sl (.st (.pair .str (.pair .bool (.pair (.int .i64) .unit))))) l, .d (.int .u8) which] .bool r :=
  of8 l which r fun R hR w0_ w1_ => have p := h R hR w0_ w1_
    (Exists.elim p fun r q1 => Exists.intro r ⟨q1.1, (Exists.elim q1.2 fun r1 q2 => Exists.intro r1 ⟨q2.1, (Exists.elim q2.2 fun r2 q3 => Exists.intro r2 ⟨(fun h9 => ⟨h9, (q3.1 (bnot_f (bnot_t h9)))⟩), ⟨(fun h16 => h16), ⟨(fun h22 => (bnot_t2 h22)), ⟨(fun h27 => h27), ⟨(fun h31 => h31), ⟨(fun h34 => (bnot_t2 h34)), ⟨(fun h40 => (q3.2.1 (Or.imp (fun h => (Or.imp (fun h => (bnot_t h)) (fun h => (bnot_t h)) (selB_ot h))) (fun h => (of_decide_eq_true h)) (selB_ot h40)))), (fun h42 => (Exists.elim (q3.2.2 (bnot_f (selB_of (selB_of h42).1).1) (bnot_f (selB_of (selB_of h42).1).2) (of_decide_eq_false (selB_of h42).2)) fun I q43 => Exists.intro I (Exists.elim q43 fun μ q44 => Exists.intro μ ⟨q44.1, (fun x => (fun h45 => (fun h46 => ⟨(fun h61 => ⟨⟨((((q44.2 x) h45) h46).1 (of_decide_eq_true h61)).1, (of_decide_eq_true h61)⟩, (Exists.elim ((((q44.2 x) h45) h46).1 (of_decide_eq_true h61)).2 fun r3 q62 => Exists.intro r3 ⟨q62.1, ⟨(fun h68 => (q62.2.1 (of_decide_eq_false (bnot_t h68)))), (fun h70 => ⟨(q62.2.2 (of_decide_eq_true (bnot_f h70))).1, ⟨(q62.2.2 (of_decide_eq_true (bnot_f h70))).2.1, (q62.2.2 (of_decide_eq_true (bnot_f h70))).2.2⟩⟩)⟩⟩)⟩), (fun h72 => ⟨((((q44.2 x) h45) h46).2 (Int.not_lt.1 (of_decide_eq_false h72))).1, ⟨⟨((((q44.2 x) h45) h46).2 (Int.not_lt.1 (of_decide_eq_false h72))).2.1.1, ((((q44.2 x) h45) h46).2 (Int.not_lt.1 (of_decide_eq_false h72))).2.1.2⟩, ⟨⟨((((q44.2 x) h45) h46).2 (Int.not_lt.1 (of_decide_eq_false h72))).2.2.1.1, ((((q44.2 x) h45) h46).2 (Int.not_lt.1 (of_decide_eq_false h72))).2.2.1.2⟩, ⟨((((q44.2 x) h45) h46).2 (Int.not_lt.1 (of_decide_eq_false h72))).2.2.2.1, ⟨((((q44.2 x) h45) h46).2 (Int.not_lt.1 (of_decide_eq_false h72))).2.2.2.2.1, ⟨⟨((((q44.2 x) h45) h46).2 (Int.not_lt.1 (of_decide_eq_false h72))).2.2.2.2.2.1.1, ((((q44.2 x) h45) h46).2 (Int.not_lt.1 (of_decide_eq_false h72))).2.2.2.2.2.1.2⟩, ⟨((((q44.2 x) h45) h46).2 (Int.not_lt.1 (of_decide_eq_false h72))).2.2.2.2.2.2.1, ⟨(fun h90 => (Exists.elim (((((q44.2 x) h45) h46).2 (Int.not_lt.1 (of_decide_eq_false h72))).2.2.2.2.2.2.2.1 (of_decide_eq_true h90)) fun r3 q91 => Exists.intro r3 ⟨(fun h97 => ⟨h97, (q91.1 h97)⟩), ⟨(fun h100 => h100), ⟨(fun h102 => h102), q91.2⟩⟩⟩)), (fun h104 => (Exists.elim (((((q44.2 x) h45) h46).2 (Int.not_lt.1 (of_decide_eq_false h72))).2.2.2.2.2.2.2.2 (of_decide_eq_false h104)) fun r3 q105 => Exists.intro r3 ⟨(fun h111 => ⟨h111, (q105.1 h111)⟩), ⟨(fun h113 => h113), (Exists.elim q105.2 fun r4 q114 => Exists.intro r4 ⟨(fun h120 => ⟨h120, (q114.1 ((selB_at h120).1) ((selB_at h120).2))⟩), ⟨(fun h126 => ⟨⟨h126, h126⟩, ⟨((((q44.2 x) h45) h46).2 (Int.not_lt.1 (of_decide_eq_false h72))).2.2.1.1, (q114.2.1 ((selB_at h126).1) ((selB_at h126).2))⟩⟩), ⟨(fun h130 => h130), ⟨(fun h133 => h133), ⟨(fun h139 => ⟨⟨h139, h139⟩, (q114.2.2.1 ((selB_at h139).1) ((selB_at h139).2))⟩), (Exists.elim q114.2.2.2 fun r5 q140 => Exists.intro r5 ⟨(fun h146 => ⟨h146, (q140.1 ((selB_at h146).1) ((selB_at h146).2))⟩), ⟨(fun h152 => ⟨h152, h152⟩), ⟨(fun h157 => h157), ⟨(fun h161 => ⟨⟨h161, h161⟩, ⟨((((q44.2 x) h45) h46).2 (Int.not_lt.1 (of_decide_eq_false h72))).2.2.1.1, (q114.2.1 ((selB_at (selB_at h161).1).1) ((selB_at (selB_at h161).1).2))⟩⟩), ⟨(fun h164 => h164), ⟨(fun h166 => h166), (Exists.elim q140.2 fun r6 q167 => Exists.intro r6 ⟨(fun h173 => ⟨⟨h173, h173⟩, (q167.1 ((selB_at (selB_at h173).1).1) ((selB_at (selB_at h173).1).2) (of_decide_eq_true (selB_at h173).2))⟩), ⟨(fun h176 => h176), ⟨(fun h178 => h178), q167.2⟩⟩⟩)⟩⟩⟩⟩⟩⟩)⟩⟩⟩⟩⟩)⟩⟩))⟩⟩⟩⟩⟩⟩⟩⟩)⟩)))⟩)))⟩⟩⟩⟩⟩⟩⟩)⟩)⟩)
end Go.Proofs.YtlkgkjpnphdhdaaDoor
