/-
  What must be shown of each function, worked out from its text; the kernel holds it against the text.
-/
import Derived.Test.YtblibehfjjgdeaaTab
import Derived.Test.YtblibehfjjgdeaaNe
namespace Go.Proofs.Ytblibehfjjgdeaa
open Go.RowKit
/- foresight/foresightref02.Short -/
def cx11 : Cx := { T := tT, own := ownT, frz := [], loops := [], cuts := [], inl := inlT }
set_option maxRecDepth 1000000 in
theorem of11 (w : (Ty.T (.st (.pair (.sl (.int .i64)) (.pair (.sl (.int .i64)) .unit))))) (r : Ty.T .bool) (h : ∀ R : Ty.T .bool → Prop, (∀ x, R x ↔ x = r) → WF (.st (.pair (.sl (.int .i64)) (.pair (.sl (.int .i64)) .unit))) w → 
    ((((decide ((((List.length w.1) : Nat) : Int) ≤ (80 : Int))) = true) →
      ((decide ((((List.length w.1) : Nat) : Int) ≤ (80 : Int))) = true)) ∧
    ((((decide ((((List.length w.1) : Nat) : Int) ≤ (80 : Int))) = true) →
      ((decide ((((List.length w.1) : Nat) : Int) ≤ (80 : Int))) = true)) ∧
    ((((decide ((((List.length w.1) : Nat) : Int) ≤ (80 : Int))) = true) →
      ((decide ((((List.length w.1) : Nat) : Int) ≤ (80 : Int))) = true)) ∧
    ((((decide ((((List.length w.1) : Nat) : Int) ≤ (80 : Int))) = true) →
      ((decide ((((List.length w.1) : Nat) : Int) ≤ (80 : Int))) = true)) ∧
    (R (selB (decide ((((List.length w.1) : Nat) : Int) ≤ (80 : Int))) (decide ((((List.length w.2.1) : Nat) : Int) ≤ (80 : Int))) false))))))) : CallP Try.prog tT 11 [.d (.st (.pair (.sl (.int .i64)) (.pair (.sl (.int .i64)) .unit))) w] .bool r :=
  callP_of (cx := cx11) (d := 6) mixed tab_ok inl_ok Try.func11 ⟨fun _ _ => by kernel_rfl⟩ rfl rfl fun wf => Eq.mpr (by kernel_rfl) (h (fun x => x = r) (fun _ => Iff.rfl) (wf.1 rfl))
set_option maxRecDepth 1000000 in
theorem sf11 (w : (Ty.T (.st (.pair (.sl (.int .i64)) (.pair (.sl (.int .i64)) .unit))))) (r : Ty.T .bool) (h : ∀ R : Ty.T .bool → Prop, (∀ x, R x ↔ x = r) → WF (.st (.pair (.sl (.int .i64)) (.pair (.sl (.int .i64)) .unit))) w → 
    (R (selB (decide ((((List.length w.1) : Nat) : Int) ≤ (80 : Int))) (decide ((((List.length w.2.1) : Nat) : Int) ≤ (80 : Int))) false))) : CallP Try.prog tT 11 [.d (.st (.pair (.sl (.int .i64)) (.pair (.sl (.int .i64)) .unit))) w] .bool r :=
  of11 w r fun R hR w0_ => have p := h R hR w0_
    ⟨(fun h5 => h5), ⟨(fun h9 => h9), ⟨(fun h12 => h12), ⟨(fun h14 => h14), p⟩⟩⟩⟩
/- foresight/word.Valid -/
def cx12 : Cx := { T := tT, own := ownT, frz := [], loops := [], cuts := [], inl := inlT }
set_option maxRecDepth 1000000 in
theorem of12 (letters : (Ty.T (.int .i64))) (w : (Ty.T (.st (.pair (.sl (.int .i64)) (.pair (.sl (.int .i64)) .unit))))) (r : Ty.T .bool) (h : ∀ R : Ty.T .bool → Prop, (∀ x, R x ↔ x = r) → WF (.int .i64) letters → WF (.st (.pair (.sl (.int .i64)) (.pair (.sl (.int .i64)) .unit))) w → 
    ∃ r : Bool,
    (CallP Try.prog tT (34 : Nat) [(AV.c (Cap.d (Ty.st (Ty.pair (Ty.sl (Ty.int Go.IntKind.i64)) (Ty.pair (Ty.sl (Ty.int Go.IntKind.i64)) Ty.unit))) w))] Ty.bool r ∧
    (((r = true) →
      (r = true)) ∧
    ∃ r1 : Int,
    (((r = true) →
      ((r = true) ∧
      CallP Try.prog tT (35 : Nat) [(AV.c (Cap.d (Ty.sl (Ty.int Go.IntKind.i64)) w.2.1))] (Ty.int Go.IntKind.i64) r1)) ∧
    (((r = true) →
      (r = true)) ∧
    ∃ r2 : Int,
    (((r = true) →
      ((r = true) ∧
      CallP Try.prog tT (36 : Nat) [(AV.c (Cap.d (Ty.sl (Ty.int Go.IntKind.i64)) w.1))] (Ty.int Go.IntKind.i64) r2)) ∧
    (((r = true) →
      ((r = true) ∧
      (r = true))) ∧
    (((r = true) →
      ((r = true) ∧
      (r = true))) ∧
    (((r = true) →
      (r = true)) ∧
    (R (selB r (decide ((Max.max r1 r2) < letters)) false))))))))))) : CallP Try.prog tT 12 [.d (.int .i64) letters, .d (.st (.pair (.sl (.int .i64)) (.pair (.sl (.int .i64)) .unit))) w] .bool r :=
  callP_of (cx := cx12) (d := 6) mixed tab_ok inl_ok Try.func12 ⟨fun _ _ => by kernel_rfl⟩ rfl rfl fun wf => Eq.mpr (by kernel_rfl) (h (fun x => x = r) (fun _ => Iff.rfl) (wf.1 rfl) (wf.2.1 rfl))
set_option maxRecDepth 1000000 in
theorem sf12 (letters : (Ty.T (.int .i64))) (w : (Ty.T (.st (.pair (.sl (.int .i64)) (.pair (.sl (.int .i64)) .unit))))) (r : Ty.T .bool) (h : ∀ R : Ty.T .bool → Prop, (∀ x, R x ↔ x = r) → WF (.int .i64) letters → WF (.st (.pair (.sl (.int .i64)) (.pair (.sl (.int .i64)) .unit))) w → 
    (∃ r : Bool,
    (CallP Try.prog tT (34 : Nat) [(AV.c (Cap.d (Ty.st (Ty.pair (Ty.sl (Ty.int Go.IntKind.i64)) (Ty.pair (Ty.sl (Ty.int Go.IntKind.i64)) Ty.unit))) w))] Ty.bool r ∧
    (∃ r1 : Int,
    (((r = true) →
      CallP Try.prog tT (35 : Nat) [(AV.c (Cap.d (Ty.sl (Ty.int Go.IntKind.i64)) w.2.1))] (Ty.int Go.IntKind.i64) r1) ∧
    (∃ r2 : Int,
    (((r = true) →
      CallP Try.prog tT (36 : Nat) [(AV.c (Cap.d (Ty.sl (Ty.int Go.IntKind.i64)) w.1))] (Ty.int Go.IntKind.i64) r2) ∧
    (R (selB r (decide ((Max.max r1 r2) < letters)) false))))))))) : CallP Try.prog tT 12 [.d (.int .i64) letters, .d (.st (.pair (.sl (.int .i64)) (.pair (.sl (.int .i64)) .unit))) w] .bool r :=
  of12 letters w r fun R hR w0_ w1_ => have p := h R hR w0_ w1_
    (Exists.elim p fun r q1 => Exists.intro r ⟨q1.1, ⟨(fun h3 => h3), (Exists.elim q1.2 fun r1 q4 => Exists.intro r1 ⟨(fun h10 => ⟨h10, (q4.1 h10)⟩), ⟨(fun h12 => h12), (Exists.elim q4.2 fun r2 q13 => Exists.intro r2 ⟨(fun h19 => ⟨h19, (q13.1 h19)⟩), ⟨(fun h23 => ⟨h23, h23⟩), ⟨(fun h26 => ⟨h26, h26⟩), ⟨(fun h28 => h28), q13.2⟩⟩⟩⟩)⟩⟩)⟩⟩)
/- foresight/foresightref02.Valid -/
def cx13 : Cx := { T := tT, own := ownT, frz := [], loops := [(130003, 74, ⟨[.val 5 (.int .i64)], 0⟩), (130008, 148, ⟨[.val 6 (.int .i64)], 0⟩)], cuts := [], inl := inlT }
set_option maxRecDepth 1000000 in
theorem of13 (letters : (Ty.T (.int .i64))) (w : (Ty.T (.st (.pair (.sl (.int .i64)) (.pair (.sl (.int .i64)) .unit))))) (r : Ty.T .bool) (h : ∀ R : Ty.T .bool → Prop, (∀ x, R x ↔ x = r) → WF (.int .i64) letters → WF (.st (.pair (.sl (.int .i64)) (.pair (.sl (.int .i64)) .unit))) w → 
    ∃ I : ((Int × Unit) → Prop),
    ∃ μ : ((Int × Unit) → Nat),
    ((I ((0 : Int), ())) ∧
    ∀ x : (Int × Unit),
    ((WF (Ty.int Go.IntKind.i64) x.1 ∧
      True) →
      ((I x) →
        ((((decide (x.1 < (((List.length w.1) : Nat) : Int))) = true) →
          ((((0 : Int) ≤ x.1) ∧
          (x.1 < (((List.length w.1) : Nat) : Int))) ∧
          ((((decide (letters ≤ (List.getD w.1 (Int.toNat x.1) (0 : Int)))) = true) →
            (R false)) ∧
          (((decide (letters ≤ (List.getD w.1 (Int.toNat x.1) (0 : Int)))) = false) →
            (inK Go.IntKind.i64 (x.1 + (1 : Int)) ∧
            ((I ((x.1 + (1 : Int)), ())) ∧
            ((μ ((x.1 + (1 : Int)), ())) < (μ x)))))))) ∧
        (((decide (x.1 < (((List.length w.1) : Nat) : Int))) = false) →
          ∃ I1 : ((Int × Unit) → Prop),
          ∃ μ1 : ((Int × Unit) → Nat),
          ((I1 ((0 : Int), ())) ∧
          ∀ x1 : (Int × Unit),
          ((WF (Ty.int Go.IntKind.i64) x1.1 ∧
            True) →
            ((I1 x1) →
              ((((decide (x1.1 < (((List.length w.2.1) : Nat) : Int))) = true) →
                ((((0 : Int) ≤ x1.1) ∧
                (x1.1 < (((List.length w.2.1) : Nat) : Int))) ∧
                ((((decide (letters ≤ (List.getD w.2.1 (Int.toNat x1.1) (0 : Int)))) = true) →
                  (R false)) ∧
                (((decide (letters ≤ (List.getD w.2.1 (Int.toNat x1.1) (0 : Int)))) = false) →
                  (inK Go.IntKind.i64 (x1.1 + (1 : Int)) ∧
                  ((I1 ((x1.1 + (1 : Int)), ())) ∧
                  ((μ1 ((x1.1 + (1 : Int)), ())) < (μ1 x1)))))))) ∧
              (((decide (x1.1 < (((List.length w.2.1) : Nat) : Int))) = false) →
                ∃ r : Bool,
                (CallP Try.prog tT (30 : Nat) [(AV.c (Cap.d (Ty.st (Ty.pair (Ty.sl (Ty.int Go.IntKind.i64)) (Ty.pair (Ty.sl (Ty.int Go.IntKind.i64)) Ty.unit))) w))] Ty.bool r ∧
                (R r))))))))))))) : CallP Try.prog tT 13 [.d (.int .i64) letters, .d (.st (.pair (.sl (.int .i64)) (.pair (.sl (.int .i64)) .unit))) w] .bool r :=
  callP_of (cx := cx13) (d := 6) mixed tab_ok inl_ok Try.func13 ⟨fun _ _ => by kernel_rfl⟩ rfl rfl fun wf => Eq.mpr (by kernel_rfl) (h (fun x => x = r) (fun _ => Iff.rfl) (wf.1 rfl) (wf.2.1 rfl))
/- foresight/word.At -/
def cx14 : Cx := { T := tT, own := ownT, frz := [], loops := [], cuts := [], inl := inlT }
set_option maxRecDepth 1000000 in
theorem of14 (w : (Ty.T (.st (.pair (.sl (.int .i64)) (.pair (.sl (.int .i64)) .unit))))) (i : (Ty.T (.int .i64))) (r : Ty.T (.int .i64)) (h : ∀ R : Ty.T (.int .i64) → Prop, (∀ x, R x ↔ x = r) → WF (.st (.pair (.sl (.int .i64)) (.pair (.sl (.int .i64)) .unit))) w → WF (.int .i64) i → 
    ∃ r : Bool,
    ((((!(decide (i < (0 : Int)))) = true) →
      (((!(decide (i < (0 : Int)))) = true) ∧
      CallP Try.prog tT (34 : Nat) [(AV.c (Cap.d (Ty.st (Ty.pair (Ty.sl (Ty.int Go.IntKind.i64)) (Ty.pair (Ty.sl (Ty.int Go.IntKind.i64)) Ty.unit))) w))] Ty.bool r)) ∧
    ((((!(decide (i < (0 : Int)))) = true) →
      ((!(decide (i < (0 : Int)))) = true)) ∧
    ((((decide (i < (0 : Int))) = false) →
      ((!(decide (i < (0 : Int)))) = true)) ∧
    ((((selB (decide (i < (0 : Int))) true (!r)) = true) →
      (R (-(1 : Int)))) ∧
    (((selB (decide (i < (0 : Int))) true (!r)) = false) →
      ((((decide (i < (((List.length w.1) : Nat) : Int))) = true) →
        ((((0 : Int) ≤ i) ∧
        (i < (((List.length w.1) : Nat) : Int))) ∧
        (R (List.getD w.1 (Int.toNat i) (0 : Int))))) ∧
      (((decide (i < (((List.length w.1) : Nat) : Int))) = false) →
        (inK Go.IntKind.i64 (i - (((List.length w.1) : Nat) : Int)) ∧
        ((((0 : Int) ≤ (i - (((List.length w.1) : Nat) : Int))) ∧
        ((0 : Int) < (((List.length w.2.1) : Nat) : Int))) ∧
        ((((0 : Int) ≤ ((i - (((List.length w.1) : Nat) : Int)) % (((List.length w.2.1) : Nat) : Int))) ∧
        (((i - (((List.length w.1) : Nat) : Int)) % (((List.length w.2.1) : Nat) : Int)) < (((List.length w.2.1) : Nat) : Int))) ∧
        (R (List.getD w.2.1 (Int.toNat ((i - (((List.length w.1) : Nat) : Int)) % (((List.length w.2.1) : Nat) : Int))) (0 : Int)))))))))))))) : CallP Try.prog tT 14 [.d (.st (.pair (.sl (.int .i64)) (.pair (.sl (.int .i64)) .unit))) w, .d (.int .i64) i] (.int .i64) r :=
  callP_of (cx := cx14) (d := 6) mixed tab_ok inl_ok Try.func14 ⟨fun _ _ => by kernel_rfl⟩ rfl rfl fun wf => Eq.mpr (by kernel_rfl) (h (fun x => x = r) (fun _ => Iff.rfl) (wf.1 rfl) (wf.2.1 rfl))
set_option maxRecDepth 1000000 in
theorem sf14 (w : (Ty.T (.st (.pair (.sl (.int .i64)) (.pair (.sl (.int .i64)) .unit))))) (i : (Ty.T (.int .i64))) (r : Ty.T (.int .i64)) (h : ∀ R : Ty.T (.int .i64) → Prop, (∀ x, R x ↔ x = r) → WF (.st (.pair (.sl (.int .i64)) (.pair (.sl (.int .i64)) .unit))) w → WF (.int .i64) i → 
    (∃ r : Bool,
    ((((0 : Int) ≤ i) →
      CallP Try.prog tT (34 : Nat) [(AV.c (Cap.d (Ty.st (Ty.pair (Ty.sl (Ty.int Go.IntKind.i64)) (Ty.pair (Ty.sl (Ty.int Go.IntKind.i64)) Ty.unit))) w))] Ty.bool r) ∧
    ((((i < (0 : Int)) ∨ (r = false)) →
      (R (-(1 : Int)))) ∧
    (((0 : Int) ≤ i) → (r = true) →
      (((i < (((List.length w.1) : Nat) : Int)) →
        (R (List.getD w.1 (Int.toNat i) (0 : Int)))) ∧
      (((((List.length w.1) : Nat) : Int) ≤ i) →
        (inK Go.IntKind.i64 (i - (((List.length w.1) : Nat) : Int)) ∧
        ((((0 : Int) ≤ (i - (((List.length w.1) : Nat) : Int))) ∧
        ((0 : Int) < (((List.length w.2.1) : Nat) : Int))) ∧
        ((((0 : Int) ≤ ((i - (((List.length w.1) : Nat) : Int)) % (((List.length w.2.1) : Nat) : Int))) ∧
        (((i - (((List.length w.1) : Nat) : Int)) % (((List.length w.2.1) : Nat) : Int)) < (((List.length w.2.1) : Nat) : Int))) ∧
        (R (List.getD w.2.1 (Int.toNat ((i - (((List.length w.1) : Nat) : Int)) % (((List.length w.2.1) : Nat) : Int))) (0 : Int))))))))))))) : CallP Try.prog tT 14 [.d (.st (.pair (.sl (.int .i64)) (.pair (.sl (.int .i64)) .unit))) w, .d (.int .i64) i] (.int .i64) r :=
  of14 w i r fun R hR w0_ w1_ => have p := h R hR w0_ w1_
    (Exists.elim p fun r q1 => Exists.intro r ⟨(fun h7 => ⟨h7, (q1.1 (Int.not_lt.1 (of_decide_eq_false (bnot_t h7))))⟩), ⟨(fun h11 => h11), ⟨(fun h14 => (bnot_t2 h14)), ⟨(fun h20 => (q1.2.1 (Or.imp (fun h => (of_decide_eq_true h)) (fun h => (bnot_t h)) (selB_ot h20)))), (fun h23 => ⟨(fun h29 => ⟨⟨(Int.not_lt.1 (of_decide_eq_false (selB_of h23).1)), (of_decide_eq_true h29)⟩, ((q1.2.2 (Int.not_lt.1 (of_decide_eq_false (selB_of h23).1)) (bnot_f (selB_of h23).2)).1 (of_decide_eq_true h29))⟩), (fun h31 => ⟨((q1.2.2 (Int.not_lt.1 (of_decide_eq_false (selB_of h23).1)) (bnot_f (selB_of h23).2)).2 (Int.not_lt.1 (of_decide_eq_false h31))).1, ⟨⟨((q1.2.2 (Int.not_lt.1 (of_decide_eq_false (selB_of h23).1)) (bnot_f (selB_of h23).2)).2 (Int.not_lt.1 (of_decide_eq_false h31))).2.1.1, ((q1.2.2 (Int.not_lt.1 (of_decide_eq_false (selB_of h23).1)) (bnot_f (selB_of h23).2)).2 (Int.not_lt.1 (of_decide_eq_false h31))).2.1.2⟩, ⟨⟨((q1.2.2 (Int.not_lt.1 (of_decide_eq_false (selB_of h23).1)) (bnot_f (selB_of h23).2)).2 (Int.not_lt.1 (of_decide_eq_false h31))).2.2.1.1, ((q1.2.2 (Int.not_lt.1 (of_decide_eq_false (selB_of h23).1)) (bnot_f (selB_of h23).2)).2 (Int.not_lt.1 (of_decide_eq_false h31))).2.2.1.2⟩, ((q1.2.2 (Int.not_lt.1 (of_decide_eq_false (selB_of h23).1)) (bnot_f (selB_of h23).2)).2 (Int.not_lt.1 (of_decide_eq_false h31))).2.2.2⟩⟩⟩)⟩)⟩⟩⟩⟩)
/- foresight/foresightref02.Ints -/
def cx16 : Cx := { T := tT, own := ownT, frz := [], loops := [(160005, 78, ⟨[.val 5 (.int .i64)], 0⟩)], cuts := [], inl := inlT }
set_option maxRecDepth 1000000 in
theorem of16 (a : (Ty.T (.sl (.int .i64)))) (b : (Ty.T (.sl (.int .i64)))) (r : Ty.T .bool) (h : ∀ R : Ty.T .bool → Prop, (∀ x, R x ↔ x = r) → WF (.sl (.int .i64)) a → WF (.sl (.int .i64)) b → 
    ((((!(decide ((((List.length a) : Nat) : Int) = (((List.length b) : Nat) : Int)))) = true) →
      (R false)) ∧
    (((!(decide ((((List.length a) : Nat) : Int) = (((List.length b) : Nat) : Int)))) = false) →
      ∃ I : ((Int × Unit) → Prop),
      ∃ μ : ((Int × Unit) → Nat),
      ((I ((0 : Int), ())) ∧
      ∀ x : (Int × Unit),
      ((WF (Ty.int Go.IntKind.i64) x.1 ∧
        True) →
        ((I x) →
          ((((decide (x.1 < (((List.length a) : Nat) : Int))) = true) →
            ((((0 : Int) ≤ x.1) ∧
            (x.1 < (((List.length a) : Nat) : Int))) ∧
            ((((0 : Int) ≤ x.1) ∧
            (x.1 < (((List.length b) : Nat) : Int))) ∧
            ((((!(decide ((List.getD a (Int.toNat x.1) (0 : Int)) = (List.getD b (Int.toNat x.1) (0 : Int))))) = true) →
              (R false)) ∧
            (((!(decide ((List.getD a (Int.toNat x.1) (0 : Int)) = (List.getD b (Int.toNat x.1) (0 : Int))))) = false) →
              (inK Go.IntKind.i64 (x.1 + (1 : Int)) ∧
              ((I ((x.1 + (1 : Int)), ())) ∧
              ((μ ((x.1 + (1 : Int)), ())) < (μ x))))))))) ∧
          (((decide (x.1 < (((List.length a) : Nat) : Int))) = false) →
            (R true))))))))) : CallP Try.prog tT 16 [.d (.sl (.int .i64)) a, .d (.sl (.int .i64)) b] .bool r :=
  callP_of (cx := cx16) (d := 6) mixed tab_ok inl_ok Try.func16 ⟨fun _ _ => by kernel_rfl⟩ rfl rfl fun wf => Eq.mpr (by kernel_rfl) (h (fun x => x = r) (fun _ => Iff.rfl) (wf.1 rfl) (wf.2.1 rfl))
/- slices.Max[[]int,int] -/
def cx35 : Cx := { T := tT, own := ownT, frz := [], loops := [(350006, 125, ⟨[.val 3 (.int .i64), .val 4 (.int .i64)], 0⟩), (350006, 100, ⟨[.val 3 (.int .i64), .val 4 (.int .i64)], 0⟩)], cuts := [], inl := inlT }
set_option maxRecDepth 1000000 in
theorem of35 (x_ : (Ty.T (.sl (.int .i64)))) (r : Ty.T (.int .i64)) (h : ∀ R : Ty.T (.int .i64) → Prop, (∀ x, R x ↔ x = r) → WF (.sl (.int .i64)) x_ → 
    ((((decide ((((List.length x_) : Nat) : Int) < (1 : Int))) = true) →
      (Never ∧
      ((((0 : Int) ≤ (0 : Int)) ∧
      ((0 : Int) < (((List.length x_) : Nat) : Int))) ∧
      ∃ I : ((Int × (Int × Unit)) → Prop),
      ∃ μ : ((Int × (Int × Unit)) → Nat),
      ((I ((List.getD x_ (Int.toNat (0 : Int)) (0 : Int)), ((1 : Int), ()))) ∧
      ∀ x : (Int × (Int × Unit)),
      ((WF (Ty.int Go.IntKind.i64) x.1 ∧
        (WF (Ty.int Go.IntKind.i64) x.2.1 ∧
        True)) →
        ((I x) →
          ((((decide (x.2.1 < (((List.length x_) : Nat) : Int))) = true) →
            ((((0 : Int) ≤ x.2.1) ∧
            (x.2.1 < (((List.length x_) : Nat) : Int))) ∧
            (inK Go.IntKind.i64 (x.2.1 + (1 : Int)) ∧
            ((I ((Max.max x.1 (List.getD x_ (Int.toNat x.2.1) (0 : Int))), ((x.2.1 + (1 : Int)), ()))) ∧
            ((μ ((Max.max x.1 (List.getD x_ (Int.toNat x.2.1) (0 : Int))), ((x.2.1 + (1 : Int)), ()))) < (μ x)))))) ∧
          (((decide (x.2.1 < (((List.length x_) : Nat) : Int))) = false) →
            (R x.1))))))))) ∧
    (((decide ((((List.length x_) : Nat) : Int) < (1 : Int))) = false) →
      ((((0 : Int) ≤ (0 : Int)) ∧
      ((0 : Int) < (((List.length x_) : Nat) : Int))) ∧
      ∃ I : ((Int × (Int × Unit)) → Prop),
      ∃ μ : ((Int × (Int × Unit)) → Nat),
      ((I ((List.getD x_ (Int.toNat (0 : Int)) (0 : Int)), ((1 : Int), ()))) ∧
      ∀ x : (Int × (Int × Unit)),
      ((WF (Ty.int Go.IntKind.i64) x.1 ∧
        (WF (Ty.int Go.IntKind.i64) x.2.1 ∧
        True)) →
        ((I x) →
          ((((decide (x.2.1 < (((List.length x_) : Nat) : Int))) = true) →
            ((((0 : Int) ≤ x.2.1) ∧
            (x.2.1 < (((List.length x_) : Nat) : Int))) ∧
            (inK Go.IntKind.i64 (x.2.1 + (1 : Int)) ∧
            ((I ((Max.max x.1 (List.getD x_ (Int.toNat x.2.1) (0 : Int))), ((x.2.1 + (1 : Int)), ()))) ∧
            ((μ ((Max.max x.1 (List.getD x_ (Int.toNat x.2.1) (0 : Int))), ((x.2.1 + (1 : Int)), ()))) < (μ x)))))) ∧
          (((decide (x.2.1 < (((List.length x_) : Nat) : Int))) = false) →
            (R x.1)))))))))) : CallP Try.prog tT 35 [.d (.sl (.int .i64)) x_] (.int .i64) r :=
  callP_of (cx := cx35) (d := 6) mixed tab_ok inl_ok Try.func35 ⟨fun _ _ => by kernel_rfl⟩ rfl rfl fun wf => Eq.mpr (by kernel_rfl) (h (fun x => x = r) (fun _ => Iff.rfl) (wf.1 rfl))
/- foresight/word.maximum -/
def cx36 : Cx := { T := tT, own := ownT, frz := [], loops := [], cuts := [], inl := inlT }
set_option maxRecDepth 1000000 in
theorem of36 (l : (Ty.T (.sl (.int .i64)))) (r : Ty.T (.int .i64)) (h : ∀ R : Ty.T (.int .i64) → Prop, (∀ x, R x ↔ x = r) → WF (.sl (.int .i64)) l → 
    ((((decide ((((List.length l) : Nat) : Int) = (0 : Int))) = true) →
      (R (0 : Int))) ∧
    (((decide ((((List.length l) : Nat) : Int) = (0 : Int))) = false) →
      ∃ r : Int,
      (CallP Try.prog tT (35 : Nat) [(AV.c (Cap.d (Ty.sl (Ty.int Go.IntKind.i64)) l))] (Ty.int Go.IntKind.i64) r ∧
      (R r))))) : CallP Try.prog tT 36 [.d (.sl (.int .i64)) l] (.int .i64) r :=
  callP_of (cx := cx36) (d := 6) mixed tab_ok inl_ok Try.func36 ⟨fun _ _ => by kernel_rfl⟩ rfl rfl fun wf => Eq.mpr (by kernel_rfl) (h (fun x => x = r) (fun _ => Iff.rfl) (wf.1 rfl))
set_option maxRecDepth 1000000 in
theorem sf36 (l : (Ty.T (.sl (.int .i64)))) (r : Ty.T (.int .i64)) (h : ∀ R : Ty.T (.int .i64) → Prop, (∀ x, R x ↔ x = r) → WF (.sl (.int .i64)) l → 
    ((((((List.length l) : Nat) : Int) = (0 : Int)) →
      (R (0 : Int))) ∧
    ((¬ ((((List.length l) : Nat) : Int) = (0 : Int))) →
      (∃ r : Int,
      (CallP Try.prog tT (35 : Nat) [(AV.c (Cap.d (Ty.sl (Ty.int Go.IntKind.i64)) l))] (Ty.int Go.IntKind.i64) r ∧
      (R r)))))) : CallP Try.prog tT 36 [.d (.sl (.int .i64)) l] (.int .i64) r :=
  of36 l r fun R hR w0_ => have p := h R hR w0_
    ⟨(fun h6 => (p.1 (of_decide_eq_true h6))), (fun h8 => (Exists.elim (p.2 (of_decide_eq_false h8)) fun r q9 => Exists.intro r ⟨q9.1, q9.2⟩))⟩
/- foresight/word.shortest -/
def cx40 : Cx := { T := tT, own := ownT, frz := [], loops := [(400004, 222, ⟨[.val 4 (.int .i64), .val 5 (.int .i64)], 0⟩)], cuts := [], inl := inlT }
set_option maxRecDepth 1000000 in
theorem of40 (w : (Ty.T (.st (.pair (.sl (.int .i64)) (.pair (.sl (.int .i64)) .unit))))) (r : Ty.T (.st (.pair (.sl (.int .i64)) (.pair (.sl (.int .i64)) .unit)))) (h : ∀ R : Ty.T (.st (.pair (.sl (.int .i64)) (.pair (.sl (.int .i64)) .unit))) → Prop, (∀ x, R x ↔ x = r) → WF (.st (.pair (.sl (.int .i64)) (.pair (.sl (.int .i64)) .unit))) w → 
    ∃ r : Int,
    (CallP Try.prog tT (53 : Nat) [(AV.c (Cap.d (Ty.sl (Ty.int Go.IntKind.i64)) w.2.1))] (Ty.int Go.IntKind.i64) r ∧
    ((((0 : Int) ≤ r) ∧
    (r ≤ (((List.length w.2.1) : Nat) : Int))) ∧
    ∃ r1 : (List Int),
    (CallP Try.prog tT (52 : Nat) [(AV.c (Cap.d (Ty.sl (Ty.int Go.IntKind.i64)) (List.take (Int.toNat r) w.2.1)))] (Ty.sl (Ty.int Go.IntKind.i64)) r1 ∧
    ∃ I : ((Int × (Int × Unit)) → Prop),
    ∃ μ : ((Int × (Int × Unit)) → Nat),
    ((I ((((List.length w.1) : Nat) : Int), ((((List.length r1) : Nat) : Int), ()))) ∧
    ∀ x : (Int × (Int × Unit)),
    ((WF (Ty.int Go.IntKind.i64) x.1 ∧
      (WF (Ty.int Go.IntKind.i64) x.2.1 ∧
      True)) →
      ((I x) →
        ((((decide ((0 : Int) < x.1)) = true) →
          ((decide ((0 : Int) < x.1)) = true)) ∧
        ((((decide ((0 : Int) < x.1)) = true) →
          (((decide ((0 : Int) < x.1)) = true) ∧
          inK Go.IntKind.i64 (x.1 - (1 : Int)))) ∧
        ((((decide ((0 : Int) < x.1)) = true) →
          ((((decide ((0 : Int) < x.1)) = true) ∧
          ((decide ((0 : Int) < x.1)) = true)) ∧
          (((0 : Int) ≤ (x.1 - (1 : Int))) ∧
          ((x.1 - (1 : Int)) < (((List.length w.1) : Nat) : Int))))) ∧
        ((((decide ((0 : Int) < x.1)) = true) →
          ((decide ((0 : Int) < x.1)) = true)) ∧
        ((((decide ((0 : Int) < x.1)) = true) →
          (((decide ((0 : Int) < x.1)) = true) ∧
          inK Go.IntKind.i64 (x.2.1 - (1 : Int)))) ∧
        ((((decide ((0 : Int) < x.1)) = true) →
          ((decide ((0 : Int) < x.1)) = true)) ∧
        ((((decide ((0 : Int) < x.1)) = true) →
          ((((decide ((0 : Int) < x.1)) = true) ∧
          ((decide ((0 : Int) < x.1)) = true)) ∧
          inK Go.IntKind.i64 ((x.2.1 - (1 : Int)) + (((List.length r1) : Nat) : Int)))) ∧
        ((((decide ((0 : Int) < x.1)) = true) →
          ((decide ((0 : Int) < x.1)) = true)) ∧
        ((((decide ((0 : Int) < x.1)) = true) →
          ((((decide ((0 : Int) < x.1)) = true) ∧
          ((decide ((0 : Int) < x.1)) = true)) ∧
          (((0 : Int) ≤ ((x.2.1 - (1 : Int)) + (((List.length r1) : Nat) : Int))) ∧
          ((0 : Int) < (((List.length r1) : Nat) : Int))))) ∧
        ((((decide ((0 : Int) < x.1)) = true) →
          ((((decide ((0 : Int) < x.1)) = true) ∧
          ((decide ((0 : Int) < x.1)) = true)) ∧
          (((0 : Int) ≤ (((x.2.1 - (1 : Int)) + (((List.length r1) : Nat) : Int)) % (((List.length r1) : Nat) : Int))) ∧
          ((((x.2.1 - (1 : Int)) + (((List.length r1) : Nat) : Int)) % (((List.length r1) : Nat) : Int)) < (((List.length r1) : Nat) : Int))))) ∧
        ((((decide ((0 : Int) < x.1)) = true) →
          ((decide ((0 : Int) < x.1)) = true)) ∧
        ((((decide ((0 : Int) < x.1)) = true) →
          (((decide ((0 : Int) < x.1)) = true) ∧
          ((decide ((0 : Int) < x.1)) = true))) ∧
        ((((decide ((0 : Int) < x.1)) = true) →
          ((decide ((0 : Int) < x.1)) = true)) ∧
        ((((selB (decide ((0 : Int) < x.1)) (decide ((List.getD w.1 (Int.toNat (x.1 - (1 : Int))) (0 : Int)) = (List.getD r1 (Int.toNat (((x.2.1 - (1 : Int)) + (((List.length r1) : Nat) : Int)) % (((List.length r1) : Nat) : Int))) (0 : Int)))) false) = true) →
          (inK Go.IntKind.i64 (x.1 - (1 : Int)) ∧
          (inK Go.IntKind.i64 (x.2.1 - (1 : Int)) ∧
          (inK Go.IntKind.i64 ((x.2.1 - (1 : Int)) + (((List.length r1) : Nat) : Int)) ∧
          ((((0 : Int) ≤ ((x.2.1 - (1 : Int)) + (((List.length r1) : Nat) : Int))) ∧
          ((0 : Int) < (((List.length r1) : Nat) : Int))) ∧
          ((I ((x.1 - (1 : Int)), ((((x.2.1 - (1 : Int)) + (((List.length r1) : Nat) : Int)) % (((List.length r1) : Nat) : Int)), ()))) ∧
          ((μ ((x.1 - (1 : Int)), ((((x.2.1 - (1 : Int)) + (((List.length r1) : Nat) : Int)) % (((List.length r1) : Nat) : Int)), ()))) < (μ x)))))))) ∧
        (((selB (decide ((0 : Int) < x.1)) (decide ((List.getD w.1 (Int.toNat (x.1 - (1 : Int))) (0 : Int)) = (List.getD r1 (Int.toNat (((x.2.1 - (1 : Int)) + (((List.length r1) : Nat) : Int)) % (((List.length r1) : Nat) : Int))) (0 : Int)))) false) = false) →
          ((((0 : Int) ≤ (((List.length r1) : Nat) : Int)) ∧
          (((((List.length r1) : Nat) : Int) ≤ (((List.length r1) : Nat) : Int)) ∧
          (((((List.length r1) : Nat) : Int) * (((8 : Nat) : Nat) : Int)) ≤ (140737488355328 : Int)))) ∧
          ((((0 : Int) ≤ x.2.1) ∧
          (x.2.1 ≤ (((List.length r1) : Nat) : Int))) ∧
          ((((0 : Int) ≤ (((Min.min (List.length (List.drop (Int.toNat x.2.1) r1)) (List.length (List.replicate (Int.toNat (((List.length r1) : Nat) : Int)) (0 : Int)))) : Nat) : Int)) ∧
          ((((Min.min (List.length (List.drop (Int.toNat x.2.1) r1)) (List.length (List.replicate (Int.toNat (((List.length r1) : Nat) : Int)) (0 : Int)))) : Nat) : Int) ≤ (((List.length (((List.take (0 : Nat) (List.replicate (Int.toNat (((List.length r1) : Nat) : Int)) (0 : Int))) ++ (List.take (List.length (List.replicate (Int.toNat (((List.length r1) : Nat) : Int)) (0 : Int))) (List.drop (Int.toNat x.2.1) r1))) ++ (List.drop ((0 : Nat) + (List.length (List.take (List.length (List.replicate (Int.toNat (((List.length r1) : Nat) : Int)) (0 : Int))) (List.drop (Int.toNat x.2.1) r1)))) (List.replicate (Int.toNat (((List.length r1) : Nat) : Int)) (0 : Int))))) : Nat) : Int))) ∧
          ((((0 : Int) ≤ x.2.1) ∧
          (x.2.1 ≤ (((List.length r1) : Nat) : Int))) ∧
          ((((0 : Int) ≤ x.1) ∧
          (x.1 ≤ (((List.length w.1) : Nat) : Int))) ∧
          ∃ r2 : (List Int),
          (CallP Try.prog tT (52 : Nat) [(AV.c (Cap.d (Ty.sl (Ty.int Go.IntKind.i64)) (List.take (Int.toNat x.1) w.1)))] (Ty.sl (Ty.int Go.IntKind.i64)) r2 ∧
          (R (r2, ((((List.take (Int.toNat (((Min.min (List.length (List.drop (Int.toNat x.2.1) r1)) (List.length (List.replicate (Int.toNat (((List.length r1) : Nat) : Int)) (0 : Int)))) : Nat) : Int)) (((List.take (0 : Nat) (List.replicate (Int.toNat (((List.length r1) : Nat) : Int)) (0 : Int))) ++ (List.take (List.length (List.replicate (Int.toNat (((List.length r1) : Nat) : Int)) (0 : Int))) (List.drop (Int.toNat x.2.1) r1))) ++ (List.drop ((0 : Nat) + (List.length (List.take (List.length (List.replicate (Int.toNat (((List.length r1) : Nat) : Int)) (0 : Int))) (List.drop (Int.toNat x.2.1) r1)))) (List.replicate (Int.toNat (((List.length r1) : Nat) : Int)) (0 : Int))))) ++ (List.take ((List.length (((List.take (0 : Nat) (List.replicate (Int.toNat (((List.length r1) : Nat) : Int)) (0 : Int))) ++ (List.take (List.length (List.replicate (Int.toNat (((List.length r1) : Nat) : Int)) (0 : Int))) (List.drop (Int.toNat x.2.1) r1))) ++ (List.drop ((0 : Nat) + (List.length (List.take (List.length (List.replicate (Int.toNat (((List.length r1) : Nat) : Int)) (0 : Int))) (List.drop (Int.toNat x.2.1) r1)))) (List.replicate (Int.toNat (((List.length r1) : Nat) : Int)) (0 : Int))))) - (Int.toNat (((Min.min (List.length (List.drop (Int.toNat x.2.1) r1)) (List.length (List.replicate (Int.toNat (((List.length r1) : Nat) : Int)) (0 : Int)))) : Nat) : Int))) (List.take (Int.toNat x.2.1) r1))) ++ (List.drop ((Int.toNat (((Min.min (List.length (List.drop (Int.toNat x.2.1) r1)) (List.length (List.replicate (Int.toNat (((List.length r1) : Nat) : Int)) (0 : Int)))) : Nat) : Int)) + (List.length (List.take ((List.length (((List.take (0 : Nat) (List.replicate (Int.toNat (((List.length r1) : Nat) : Int)) (0 : Int))) ++ (List.take (List.length (List.replicate (Int.toNat (((List.length r1) : Nat) : Int)) (0 : Int))) (List.drop (Int.toNat x.2.1) r1))) ++ (List.drop ((0 : Nat) + (List.length (List.take (List.length (List.replicate (Int.toNat (((List.length r1) : Nat) : Int)) (0 : Int))) (List.drop (Int.toNat x.2.1) r1)))) (List.replicate (Int.toNat (((List.length r1) : Nat) : Int)) (0 : Int))))) - (Int.toNat (((Min.min (List.length (List.drop (Int.toNat x.2.1) r1)) (List.length (List.replicate (Int.toNat (((List.length r1) : Nat) : Int)) (0 : Int)))) : Nat) : Int))) (List.take (Int.toNat x.2.1) r1)))) (((List.take (0 : Nat) (List.replicate (Int.toNat (((List.length r1) : Nat) : Int)) (0 : Int))) ++ (List.take (List.length (List.replicate (Int.toNat (((List.length r1) : Nat) : Int)) (0 : Int))) (List.drop (Int.toNat x.2.1) r1))) ++ (List.drop ((0 : Nat) + (List.length (List.take (List.length (List.replicate (Int.toNat (((List.length r1) : Nat) : Int)) (0 : Int))) (List.drop (Int.toNat x.2.1) r1)))) (List.replicate (Int.toNat (((List.length r1) : Nat) : Int)) (0 : Int)))))), ()))))))))))))))))))))))))))))))) : CallP Try.prog tT 40 [.d (.st (.pair (.sl (.int .i64)) (.pair (.sl (.int .i64)) .unit))) w] (.st (.pair (.sl (.int .i64)) (.pair (.sl (.int .i64)) .unit))) r :=
  callP_of (cx := cx40) (d := 6) mixed tab_ok inl_ok Try.func40 ⟨fun _ _ => by kernel_rfl⟩ rfl rfl fun wf => Eq.mpr (by kernel_rfl) (h (fun x => x = r) (fun _ => Iff.rfl) (wf.1 rfl))
set_option maxRecDepth 1000000 in
theorem sf40 (w : (Ty.T (.st (.pair (.sl (.int .i64)) (.pair (.sl (.int .i64)) .unit))))) (r : Ty.T (.st (.pair (.sl (.int .i64)) (.pair (.sl (.int .i64)) .unit)))) (h : ∀ R : Ty.T (.st (.pair (.sl (.int .i64)) (.pair (.sl (.int .i64)) .unit))) → Prop, (∀ x, R x ↔ x = r) → WF (.st (.pair (.sl (.int .i64)) (.pair (.sl (.int .i64)) .unit))) w → 
    (∃ r : Int,
    (CallP Try.prog tT (53 : Nat) [(AV.c (Cap.d (Ty.sl (Ty.int Go.IntKind.i64)) w.2.1))] (Ty.int Go.IntKind.i64) r ∧
    ((((0 : Int) ≤ r) ∧
    (r ≤ (((List.length w.2.1) : Nat) : Int))) ∧
    (∃ r1 : (List Int),
    (CallP Try.prog tT (52 : Nat) [(AV.c (Cap.d (Ty.sl (Ty.int Go.IntKind.i64)) (List.take (Int.toNat r) w.2.1)))] (Ty.sl (Ty.int Go.IntKind.i64)) r1 ∧
    (∃ I : ((Int × (Int × Unit)) → Prop),
    (∃ μ : ((Int × (Int × Unit)) → Nat),
    ((I ((((List.length w.1) : Nat) : Int), ((((List.length r1) : Nat) : Int), ()))) ∧
    (∀ x : (Int × (Int × Unit)),
    ((WF (Ty.int Go.IntKind.i64) x.1 ∧
      (WF (Ty.int Go.IntKind.i64) x.2.1 ∧
      True)) →
      ((I x) →
        ((((0 : Int) < x.1) →
          inK Go.IntKind.i64 (x.1 - (1 : Int))) ∧
        ((((0 : Int) < x.1) →
          (((0 : Int) ≤ (x.1 - (1 : Int))) ∧
          ((x.1 - (1 : Int)) < (((List.length w.1) : Nat) : Int)))) ∧
        ((((0 : Int) < x.1) →
          inK Go.IntKind.i64 (x.2.1 - (1 : Int))) ∧
        ((((0 : Int) < x.1) →
          inK Go.IntKind.i64 ((x.2.1 - (1 : Int)) + (((List.length r1) : Nat) : Int))) ∧
        ((((0 : Int) < x.1) →
          (((0 : Int) ≤ ((x.2.1 - (1 : Int)) + (((List.length r1) : Nat) : Int))) ∧
          ((0 : Int) < (((List.length r1) : Nat) : Int)))) ∧
        ((((0 : Int) < x.1) →
          (((0 : Int) ≤ (((x.2.1 - (1 : Int)) + (((List.length r1) : Nat) : Int)) % (((List.length r1) : Nat) : Int))) ∧
          ((((x.2.1 - (1 : Int)) + (((List.length r1) : Nat) : Int)) % (((List.length r1) : Nat) : Int)) < (((List.length r1) : Nat) : Int)))) ∧
        ((((0 : Int) < x.1) → ((List.getD w.1 (Int.toNat (x.1 - (1 : Int))) (0 : Int)) = (List.getD r1 (Int.toNat (((x.2.1 - (1 : Int)) + (((List.length r1) : Nat) : Int)) % (((List.length r1) : Nat) : Int))) (0 : Int))) →
          ((I ((x.1 - (1 : Int)), ((((x.2.1 - (1 : Int)) + (((List.length r1) : Nat) : Int)) % (((List.length r1) : Nat) : Int)), ()))) ∧
          ((μ ((x.1 - (1 : Int)), ((((x.2.1 - (1 : Int)) + (((List.length r1) : Nat) : Int)) % (((List.length r1) : Nat) : Int)), ()))) < (μ x)))) ∧
        (((x.1 ≤ (0 : Int)) ∨ (¬ ((List.getD w.1 (Int.toNat (x.1 - (1 : Int))) (0 : Int)) = (List.getD r1 (Int.toNat (((x.2.1 - (1 : Int)) + (((List.length r1) : Nat) : Int)) % (((List.length r1) : Nat) : Int))) (0 : Int))))) →
          ((((0 : Int) ≤ (((List.length r1) : Nat) : Int)) ∧
          (((((List.length r1) : Nat) : Int) ≤ (((List.length r1) : Nat) : Int)) ∧
          (((((List.length r1) : Nat) : Int) * (((8 : Nat) : Nat) : Int)) ≤ (140737488355328 : Int)))) ∧
          ((((0 : Int) ≤ x.2.1) ∧
          (x.2.1 ≤ (((List.length r1) : Nat) : Int))) ∧
          ((((0 : Int) ≤ (((Min.min (List.length (List.drop (Int.toNat x.2.1) r1)) (List.length (List.replicate (Int.toNat (((List.length r1) : Nat) : Int)) (0 : Int)))) : Nat) : Int)) ∧
          ((((Min.min (List.length (List.drop (Int.toNat x.2.1) r1)) (List.length (List.replicate (Int.toNat (((List.length r1) : Nat) : Int)) (0 : Int)))) : Nat) : Int) ≤ (((List.length (((List.take (0 : Nat) (List.replicate (Int.toNat (((List.length r1) : Nat) : Int)) (0 : Int))) ++ (List.take (List.length (List.replicate (Int.toNat (((List.length r1) : Nat) : Int)) (0 : Int))) (List.drop (Int.toNat x.2.1) r1))) ++ (List.drop ((0 : Nat) + (List.length (List.take (List.length (List.replicate (Int.toNat (((List.length r1) : Nat) : Int)) (0 : Int))) (List.drop (Int.toNat x.2.1) r1)))) (List.replicate (Int.toNat (((List.length r1) : Nat) : Int)) (0 : Int))))) : Nat) : Int))) ∧
          ((((0 : Int) ≤ x.1) ∧
          (x.1 ≤ (((List.length w.1) : Nat) : Int))) ∧
          (∃ r2 : (List Int),
          (CallP Try.prog tT (52 : Nat) [(AV.c (Cap.d (Ty.sl (Ty.int Go.IntKind.i64)) (List.take (Int.toNat x.1) w.1)))] (Ty.sl (Ty.int Go.IntKind.i64)) r2 ∧
          (R (r2, ((((List.take (Int.toNat (((Min.min (List.length (List.drop (Int.toNat x.2.1) r1)) (List.length (List.replicate (Int.toNat (((List.length r1) : Nat) : Int)) (0 : Int)))) : Nat) : Int)) (((List.take (0 : Nat) (List.replicate (Int.toNat (((List.length r1) : Nat) : Int)) (0 : Int))) ++ (List.take (List.length (List.replicate (Int.toNat (((List.length r1) : Nat) : Int)) (0 : Int))) (List.drop (Int.toNat x.2.1) r1))) ++ (List.drop ((0 : Nat) + (List.length (List.take (List.length (List.replicate (Int.toNat (((List.length r1) : Nat) : Int)) (0 : Int))) (List.drop (Int.toNat x.2.1) r1)))) (List.replicate (Int.toNat (((List.length r1) : Nat) : Int)) (0 : Int))))) ++ (List.take ((List.length (((List.take (0 : Nat) (List.replicate (Int.toNat (((List.length r1) : Nat) : Int)) (0 : Int))) ++ (List.take (List.length (List.replicate (Int.toNat (((List.length r1) : Nat) : Int)) (0 : Int))) (List.drop (Int.toNat x.2.1) r1))) ++ (List.drop ((0 : Nat) + (List.length (List.take (List.length (List.replicate (Int.toNat (((List.length r1) : Nat) : Int)) (0 : Int))) (List.drop (Int.toNat x.2.1) r1)))) (List.replicate (Int.toNat (((List.length r1) : Nat) : Int)) (0 : Int))))) - (Int.toNat (((Min.min (List.length (List.drop (Int.toNat x.2.1) r1)) (List.length (List.replicate (Int.toNat (((List.length r1) : Nat) : Int)) (0 : Int)))) : Nat) : Int))) (List.take (Int.toNat x.2.1) r1))) ++ (List.drop ((Int.toNat (((Min.min (List.length (List.drop (Int.toNat x.2.1) r1)) (List.length (List.replicate (Int.toNat (((List.length r1) : Nat) : Int)) (0 : Int)))) : Nat) : Int)) + (List.length (List.take ((List.length (((List.take (0 : Nat) (List.replicate (Int.toNat (((List.length r1) : Nat) : Int)) (0 : Int))) ++ (List.take (List.length (List.replicate (Int.toNat (((List.length r1) : Nat) : Int)) (0 : Int))) (List.drop (Int.toNat x.2.1) r1))) ++ (List.drop ((0 : Nat) + (List.length (List.take (List.length (List.replicate (Int.toNat (((List.length r1) : Nat) : Int)) (0 : Int))) (List.drop (Int.toNat x.2.1) r1)))) (List.replicate (Int.toNat (((List.length r1) : Nat) : Int)) (0 : Int))))) - (Int.toNat (((Min.min (List.length (List.drop (Int.toNat x.2.1) r1)) (List.length (List.replicate (Int.toNat (((List.length r1) : Nat) : Int)) (0 : Int)))) : Nat) : Int))) (List.take (Int.toNat x.2.1) r1)))) (((List.take (0 : Nat) (List.replicate (Int.toNat (((List.length r1) : Nat) : Int)) (0 : Int))) ++ (List.take (List.length (List.replicate (Int.toNat (((List.length r1) : Nat) : Int)) (0 : Int))) (List.drop (Int.toNat x.2.1) r1))) ++ (List.drop ((0 : Nat) + (List.length (List.take (List.length (List.replicate (Int.toNat (((List.length r1) : Nat) : Int)) (0 : Int))) (List.drop (Int.toNat x.2.1) r1)))) (List.replicate (Int.toNat (((List.length r1) : Nat) : Int)) (0 : Int)))))), ()))))))))))))))))))))))))))))) : CallP Try.prog tT 40 [.d (.st (.pair (.sl (.int .i64)) (.pair (.sl (.int .i64)) .unit))) w] (.st (.pair (.sl (.int .i64)) (.pair (.sl (.int .i64)) .unit))) r :=
  of40 w r fun R hR w0_ => have p := h R hR w0_
    (Exists.elim p fun r q1 => Exists.intro r ⟨q1.1, ⟨⟨q1.2.1.1, q1.2.1.2⟩, (Exists.elim q1.2.2 fun r1 q2 => Exists.intro r1 ⟨q2.1, (Exists.elim q2.2 fun I q3 => Exists.intro I (Exists.elim q3 fun μ q4 => Exists.intro μ ⟨q4.1, (fun x => (fun h5 => (fun h6 => ⟨(fun h9 => h9), ⟨(fun h15 => ⟨h15, ((((q4.2 x) h5) h6).1 (of_decide_eq_true h15))⟩), ⟨(fun h21 => ⟨⟨h21, h21⟩, ⟨((((q4.2 x) h5) h6).2.1 (of_decide_eq_true h21)).1, ((((q4.2 x) h5) h6).2.1 (of_decide_eq_true h21)).2⟩⟩), ⟨(fun h24 => h24), ⟨(fun h30 => ⟨h30, ((((q4.2 x) h5) h6).2.2.1 (of_decide_eq_true h30))⟩), ⟨(fun h33 => h33), ⟨(fun h39 => ⟨⟨h39, h39⟩, ((((q4.2 x) h5) h6).2.2.2.1 (of_decide_eq_true h39))⟩), ⟨(fun h42 => h42), ⟨(fun h48 => ⟨⟨h48, h48⟩, ⟨((((q4.2 x) h5) h6).2.2.2.2.1 (of_decide_eq_true h48)).1, ((((q4.2 x) h5) h6).2.2.2.2.1 (of_decide_eq_true h48)).2⟩⟩), ⟨(fun h54 => ⟨⟨h54, h54⟩, ⟨((((q4.2 x) h5) h6).2.2.2.2.2.1 (of_decide_eq_true h54)).1, ((((q4.2 x) h5) h6).2.2.2.2.2.1 (of_decide_eq_true h54)).2⟩⟩), ⟨(fun h59 => h59), ⟨(fun h63 => ⟨h63, h63⟩), ⟨(fun h66 => h66), ⟨(fun h72 => ⟨((((q4.2 x) h5) h6).1 ((of_decide_eq_true (selB_at h72).1))), ⟨((((q4.2 x) h5) h6).2.2.1 ((of_decide_eq_true (selB_at h72).1))), ⟨((((q4.2 x) h5) h6).2.2.2.1 ((of_decide_eq_true (selB_at h72).1))), ⟨⟨((((q4.2 x) h5) h6).2.2.2.2.1 ((of_decide_eq_true (selB_at h72).1))).1, ((((q4.2 x) h5) h6).2.2.2.2.1 ((of_decide_eq_true (selB_at h72).1))).2⟩, ⟨((((q4.2 x) h5) h6).2.2.2.2.2.2.1 (of_decide_eq_true (selB_at h72).1) (of_decide_eq_true (selB_at h72).2)).1, ((((q4.2 x) h5) h6).2.2.2.2.2.2.1 (of_decide_eq_true (selB_at h72).1) (of_decide_eq_true (selB_at h72).2)).2⟩⟩⟩⟩⟩), (fun h74 => ⟨⟨((((q4.2 x) h5) h6).2.2.2.2.2.2.2 (Or.imp (fun h => (Int.not_lt.1 (of_decide_eq_false h))) (fun h => (of_decide_eq_false h)) (selB_af h74))).1.1, ⟨((((q4.2 x) h5) h6).2.2.2.2.2.2.2 (Or.imp (fun h => (Int.not_lt.1 (of_decide_eq_false h))) (fun h => (of_decide_eq_false h)) (selB_af h74))).1.2.1, ((((q4.2 x) h5) h6).2.2.2.2.2.2.2 (Or.imp (fun h => (Int.not_lt.1 (of_decide_eq_false h))) (fun h => (of_decide_eq_false h)) (selB_af h74))).1.2.2⟩⟩, ⟨⟨((((q4.2 x) h5) h6).2.2.2.2.2.2.2 (Or.imp (fun h => (Int.not_lt.1 (of_decide_eq_false h))) (fun h => (of_decide_eq_false h)) (selB_af h74))).2.1.1, ((((q4.2 x) h5) h6).2.2.2.2.2.2.2 (Or.imp (fun h => (Int.not_lt.1 (of_decide_eq_false h))) (fun h => (of_decide_eq_false h)) (selB_af h74))).2.1.2⟩, ⟨⟨((((q4.2 x) h5) h6).2.2.2.2.2.2.2 (Or.imp (fun h => (Int.not_lt.1 (of_decide_eq_false h))) (fun h => (of_decide_eq_false h)) (selB_af h74))).2.2.1.1, ((((q4.2 x) h5) h6).2.2.2.2.2.2.2 (Or.imp (fun h => (Int.not_lt.1 (of_decide_eq_false h))) (fun h => (of_decide_eq_false h)) (selB_af h74))).2.2.1.2⟩, ⟨⟨((((q4.2 x) h5) h6).2.2.2.2.2.2.2 (Or.imp (fun h => (Int.not_lt.1 (of_decide_eq_false h))) (fun h => (of_decide_eq_false h)) (selB_af h74))).2.1.1, ((((q4.2 x) h5) h6).2.2.2.2.2.2.2 (Or.imp (fun h => (Int.not_lt.1 (of_decide_eq_false h))) (fun h => (of_decide_eq_false h)) (selB_af h74))).2.1.2⟩, ⟨⟨((((q4.2 x) h5) h6).2.2.2.2.2.2.2 (Or.imp (fun h => (Int.not_lt.1 (of_decide_eq_false h))) (fun h => (of_decide_eq_false h)) (selB_af h74))).2.2.2.1.1, ((((q4.2 x) h5) h6).2.2.2.2.2.2.2 (Or.imp (fun h => (Int.not_lt.1 (of_decide_eq_false h))) (fun h => (of_decide_eq_false h)) (selB_af h74))).2.2.2.1.2⟩, (Exists.elim ((((q4.2 x) h5) h6).2.2.2.2.2.2.2 (Or.imp (fun h => (Int.not_lt.1 (of_decide_eq_false h))) (fun h => (of_decide_eq_false h)) (selB_af h74))).2.2.2.2 fun r2 q75 => Exists.intro r2 ⟨q75.1, q75.2⟩)⟩⟩⟩⟩⟩)⟩⟩⟩⟩⟩⟩⟩⟩⟩⟩⟩⟩⟩⟩)))⟩))⟩)⟩⟩)
/- foresight/foresightref02.At -/
def cx15 : Cx := { T := tT, own := ownT, frz := [], loops := [], cuts := [], inl := inlT }
set_option maxRecDepth 1000000 in
theorem of15 (w : (Ty.T (.st (.pair (.sl (.int .i64)) (.pair (.sl (.int .i64)) .unit))))) (i : (Ty.T (.int .i64))) (r : Ty.T (.int .i64)) (h : ∀ R : Ty.T (.int .i64) → Prop, (∀ x, R x ↔ x = r) → WF (.st (.pair (.sl (.int .i64)) (.pair (.sl (.int .i64)) .unit))) w → WF (.int .i64) i → 
    ∃ r : Bool,
    ((((!(decide (i < (0 : Int)))) = true) →
      (((!(decide (i < (0 : Int)))) = true) ∧
      CallP Try.prog tT (30 : Nat) [(AV.c (Cap.d (Ty.st (Ty.pair (Ty.sl (Ty.int Go.IntKind.i64)) (Ty.pair (Ty.sl (Ty.int Go.IntKind.i64)) Ty.unit))) w))] Ty.bool r)) ∧
    ((((!(decide (i < (0 : Int)))) = true) →
      ((!(decide (i < (0 : Int)))) = true)) ∧
    ((((decide (i < (0 : Int))) = false) →
      ((!(decide (i < (0 : Int)))) = true)) ∧
    ((((selB (decide (i < (0 : Int))) true (!r)) = true) →
      (R (-(1 : Int)))) ∧
    (((selB (decide (i < (0 : Int))) true (!r)) = false) →
      ∃ r1 : Int,
      (CallP Try.prog tT (37 : Nat) [(AV.c (Cap.d (Ty.st (Ty.pair (Ty.sl (Ty.int Go.IntKind.i64)) (Ty.pair (Ty.sl (Ty.int Go.IntKind.i64)) Ty.unit))) w)), (AV.c (Cap.d (Ty.int Go.IntKind.i64) i))] (Ty.int Go.IntKind.i64) r1 ∧
      (R r1)))))))) : CallP Try.prog tT 15 [.d (.st (.pair (.sl (.int .i64)) (.pair (.sl (.int .i64)) .unit))) w, .d (.int .i64) i] (.int .i64) r :=
  callP_of (cx := cx15) (d := 6) mixed tab_ok inl_ok Try.func15 ⟨fun _ _ => by kernel_rfl⟩ rfl rfl fun wf => Eq.mpr (by kernel_rfl) (h (fun x => x = r) (fun _ => Iff.rfl) (wf.1 rfl) (wf.2.1 rfl))
set_option maxRecDepth 1000000 in
theorem sf15 (w : (Ty.T (.st (.pair (.sl (.int .i64)) (.pair (.sl (.int .i64)) .unit))))) (i : (Ty.T (.int .i64))) (r : Ty.T (.int .i64)) (h : ∀ R : Ty.T (.int .i64) → Prop, (∀ x, R x ↔ x = r) → WF (.st (.pair (.sl (.int .i64)) (.pair (.sl (.int .i64)) .unit))) w → WF (.int .i64) i → 
    (∃ r : Bool,
    ((((0 : Int) ≤ i) →
      CallP Try.prog tT (30 : Nat) [(AV.c (Cap.d (Ty.st (Ty.pair (Ty.sl (Ty.int Go.IntKind.i64)) (Ty.pair (Ty.sl (Ty.int Go.IntKind.i64)) Ty.unit))) w))] Ty.bool r) ∧
    ((((i < (0 : Int)) ∨ (r = false)) →
      (R (-(1 : Int)))) ∧
    (((0 : Int) ≤ i) → (r = true) →
      (∃ r1 : Int,
      (CallP Try.prog tT (37 : Nat) [(AV.c (Cap.d (Ty.st (Ty.pair (Ty.sl (Ty.int Go.IntKind.i64)) (Ty.pair (Ty.sl (Ty.int Go.IntKind.i64)) Ty.unit))) w)), (AV.c (Cap.d (Ty.int Go.IntKind.i64) i))] (Ty.int Go.IntKind.i64) r1 ∧
      (R r1)))))))) : CallP Try.prog tT 15 [.d (.st (.pair (.sl (.int .i64)) (.pair (.sl (.int .i64)) .unit))) w, .d (.int .i64) i] (.int .i64) r :=
  of15 w i r fun R hR w0_ w1_ => have p := h R hR w0_ w1_
    (Exists.elim p fun r q1 => Exists.intro r ⟨(fun h7 => ⟨h7, (q1.1 (Int.not_lt.1 (of_decide_eq_false (bnot_t h7))))⟩), ⟨(fun h11 => h11), ⟨(fun h14 => (bnot_t2 h14)), ⟨(fun h20 => (q1.2.1 (Or.imp (fun h => (of_decide_eq_true h)) (fun h => (bnot_t h)) (selB_ot h20)))), (fun h22 => (Exists.elim (q1.2.2 (Int.not_lt.1 (of_decide_eq_false (selB_of h22).1)) (bnot_f (selB_of h22).2)) fun r1 q23 => Exists.intro r1 ⟨q23.1, q23.2⟩))⟩⟩⟩⟩)
/- foresight/foresightref02.Prefix -/
def cx18 : Cx := { T := tT, own := ownT, frz := [], loops := [(180004, 81, ⟨[.own 5 0 3 (.int .i64), .val 6 (.int .i64)], 1⟩)], cuts := [], inl := inlT }
set_option maxRecDepth 1000000 in
theorem of18 (w : (Ty.T (.st (.pair (.sl (.int .i64)) (.pair (.sl (.int .i64)) .unit))))) (n : (Ty.T (.int .i64))) (r : Ty.T (.sl (.int .i64))) (h : ∀ R : Ty.T (.sl (.int .i64)) → Prop, (∀ x, R x ↔ x = r) → WF (.st (.pair (.sl (.int .i64)) (.pair (.sl (.int .i64)) .unit))) w → WF (.int .i64) n → 
    ∃ I : (((List Int) × (Int × Unit)) → Prop),
    ∃ μ : (((List Int) × (Int × Unit)) → Nat),
    ((I (([] : List Int), ((0 : Int), ()))) ∧
    ∀ x : ((List Int) × (Int × Unit)),
    ((WF (Ty.sl (Ty.int Go.IntKind.i64)) x.1 ∧
      (WF (Ty.int Go.IntKind.i64) x.2.1 ∧
      True)) →
      ((I x) →
        ((((decide (x.2.1 < n)) = true) →
          ((decide (x.2.1 < n)) = true)) ∧
        ((((decide (x.2.1 < n)) = true) →
          ((decide (x.2.1 < n)) = true)) ∧
        ∃ r : Bool,
        ((((selB (decide (x.2.1 < n)) (decide (n ≤ (500 : Int))) false) = true) →
          (((selB (decide (x.2.1 < n)) (decide (n ≤ (500 : Int))) false) = true) ∧
          CallP Try.prog tT (30 : Nat) [(AV.c (Cap.d (Ty.st (Ty.pair (Ty.sl (Ty.int Go.IntKind.i64)) (Ty.pair (Ty.sl (Ty.int Go.IntKind.i64)) Ty.unit))) w))] Ty.bool r)) ∧
        ((((selB (decide (x.2.1 < n)) (decide (n ≤ (500 : Int))) false) = true) →
          ((selB (decide (x.2.1 < n)) (decide (n ≤ (500 : Int))) false) = true)) ∧
        ((((selB (selB (decide (x.2.1 < n)) (decide (n ≤ (500 : Int))) false) r false) = true) →
          ∃ r1 : Int,
          (CallP Try.prog tT (37 : Nat) [(AV.c (Cap.d (Ty.st (Ty.pair (Ty.sl (Ty.int Go.IntKind.i64)) (Ty.pair (Ty.sl (Ty.int Go.IntKind.i64)) Ty.unit))) w)), (AV.c (Cap.d (Ty.int Go.IntKind.i64) x.2.1))] (Ty.int Go.IntKind.i64) r1 ∧
          (((((((List.length x.1) + (List.length [r1])) : Nat) : Int) * (((8 : Nat) : Nat) : Int)) ≤ (140737488355328 : Int)) ∧
          (inK Go.IntKind.i64 (x.2.1 + (1 : Int)) ∧
          ((I ((x.1 ++ [r1]), ((x.2.1 + (1 : Int)), ()))) ∧
          ((μ ((x.1 ++ [r1]), ((x.2.1 + (1 : Int)), ()))) < (μ x))))))) ∧
        (((selB (selB (decide (x.2.1 < n)) (decide (n ≤ (500 : Int))) false) r false) = false) →
          (R x.1))))))))))) : CallP Try.prog tT 18 [.d (.st (.pair (.sl (.int .i64)) (.pair (.sl (.int .i64)) .unit))) w, .d (.int .i64) n] (.sl (.int .i64)) r :=
  callP_of (cx := cx18) (d := 6) mixed tab_ok inl_ok Try.func18 ⟨fun _ _ => by kernel_rfl⟩ rfl rfl fun wf => Eq.mpr (by kernel_rfl) (h (fun x => x = r) (fun _ => Iff.rfl) (wf.1 rfl) (wf.2.1 rfl))
set_option maxRecDepth 1000000 in
theorem sf18 (w : (Ty.T (.st (.pair (.sl (.int .i64)) (.pair (.sl (.int .i64)) .unit))))) (n : (Ty.T (.int .i64))) (r : Ty.T (.sl (.int .i64))) (h : ∀ R : Ty.T (.sl (.int .i64)) → Prop, (∀ x, R x ↔ x = r) → WF (.st (.pair (.sl (.int .i64)) (.pair (.sl (.int .i64)) .unit))) w → WF (.int .i64) n → 
    (∃ I : (((List Int) × (Int × Unit)) → Prop),
    (∃ μ : (((List Int) × (Int × Unit)) → Nat),
    ((I (([] : List Int), ((0 : Int), ()))) ∧
    (∀ x : ((List Int) × (Int × Unit)),
    ((WF (Ty.sl (Ty.int Go.IntKind.i64)) x.1 ∧
      (WF (Ty.int Go.IntKind.i64) x.2.1 ∧
      True)) →
      ((I x) →
        (∃ r : Bool,
        (((x.2.1 < n) → (n ≤ (500 : Int)) →
          CallP Try.prog tT (30 : Nat) [(AV.c (Cap.d (Ty.st (Ty.pair (Ty.sl (Ty.int Go.IntKind.i64)) (Ty.pair (Ty.sl (Ty.int Go.IntKind.i64)) Ty.unit))) w))] Ty.bool r) ∧
        (((x.2.1 < n) → (n ≤ (500 : Int)) → (r = true) →
          (∃ r1 : Int,
          (CallP Try.prog tT (37 : Nat) [(AV.c (Cap.d (Ty.st (Ty.pair (Ty.sl (Ty.int Go.IntKind.i64)) (Ty.pair (Ty.sl (Ty.int Go.IntKind.i64)) Ty.unit))) w)), (AV.c (Cap.d (Ty.int Go.IntKind.i64) x.2.1))] (Ty.int Go.IntKind.i64) r1 ∧
          (((((((List.length x.1) + (List.length [r1])) : Nat) : Int) * (((8 : Nat) : Nat) : Int)) ≤ (140737488355328 : Int)) ∧
          (inK Go.IntKind.i64 (x.2.1 + (1 : Int)) ∧
          ((I ((x.1 ++ [r1]), ((x.2.1 + (1 : Int)), ()))) ∧
          ((μ ((x.1 ++ [r1]), ((x.2.1 + (1 : Int)), ()))) < (μ x)))))))) ∧
        ((((n ≤ x.2.1) ∨ ((500 : Int) < n)) ∨ (r = false)) →
          (R x.1)))))))))))) : CallP Try.prog tT 18 [.d (.st (.pair (.sl (.int .i64)) (.pair (.sl (.int .i64)) .unit))) w, .d (.int .i64) n] (.sl (.int .i64)) r :=
  of18 w n r fun R hR w0_ w1_ => have p := h R hR w0_ w1_
    (Exists.elim p fun I q1 => Exists.intro I (Exists.elim q1 fun μ q2 => Exists.intro μ ⟨q2.1, (fun x => (fun h3 => (fun h4 => ⟨(fun h7 => h7), ⟨(fun h9 => h9), (Exists.elim (((q2.2 x) h3) h4) fun r q10 => Exists.intro r ⟨(fun h16 => ⟨h16, (q10.1 (of_decide_eq_true (selB_at h16).1) (of_decide_eq_true (selB_at h16).2))⟩), ⟨(fun h19 => h19), ⟨(fun h26 => (Exists.elim (q10.2.1 (of_decide_eq_true (selB_at (selB_at h26).1).1) (of_decide_eq_true (selB_at (selB_at h26).1).2) ((selB_at h26).2)) fun r1 q27 => Exists.intro r1 ⟨q27.1, ⟨q27.2.1, ⟨q27.2.2.1, ⟨q27.2.2.2.1, q27.2.2.2.2⟩⟩⟩⟩)), (fun h29 => (q10.2.2 (Or.imp (fun h => (Or.imp (fun h => (Int.not_lt.1 (of_decide_eq_false h))) (fun h => (Int.not_le.1 (of_decide_eq_false h))) (selB_af h))) (fun h => h) (selB_af h29))))⟩⟩⟩)⟩⟩)))⟩))
/- foresight/foresightref02.Equal -/
def cx19 : Cx := { T := tT, own := ownT, frz := [], loops := [], cuts := [], inl := inlT }
set_option maxRecDepth 1000000 in
theorem of19 (a : (Ty.T (.st (.pair (.sl (.int .i64)) (.pair (.sl (.int .i64)) .unit))))) (b : (Ty.T (.st (.pair (.sl (.int .i64)) (.pair (.sl (.int .i64)) .unit))))) (r : Ty.T .bool) (h : ∀ R : Ty.T .bool → Prop, (∀ x, R x ↔ x = r) → WF (.st (.pair (.sl (.int .i64)) (.pair (.sl (.int .i64)) .unit))) a → WF (.st (.pair (.sl (.int .i64)) (.pair (.sl (.int .i64)) .unit))) b → 
    ∃ r : Bool,
    (CallP Try.prog tT (16 : Nat) [(AV.c (Cap.d (Ty.sl (Ty.int Go.IntKind.i64)) a.1)), (AV.c (Cap.d (Ty.sl (Ty.int Go.IntKind.i64)) b.1))] Ty.bool r ∧
    (((r = true) →
      (r = true)) ∧
    (((r = true) →
      (r = true)) ∧
    ∃ r1 : Bool,
    (((r = true) →
      (((r = true) ∧
      (r = true)) ∧
      CallP Try.prog tT (16 : Nat) [(AV.c (Cap.d (Ty.sl (Ty.int Go.IntKind.i64)) a.2.1)), (AV.c (Cap.d (Ty.sl (Ty.int Go.IntKind.i64)) b.2.1))] Ty.bool r1)) ∧
    (((r = true) →
      (r = true)) ∧
    (R (selB r r1 false)))))))) : CallP Try.prog tT 19 [.d (.st (.pair (.sl (.int .i64)) (.pair (.sl (.int .i64)) .unit))) a, .d (.st (.pair (.sl (.int .i64)) (.pair (.sl (.int .i64)) .unit))) b] .bool r :=
  callP_of (cx := cx19) (d := 6) mixed tab_ok inl_ok Try.func19 ⟨fun _ _ => by kernel_rfl⟩ rfl rfl fun wf => Eq.mpr (by kernel_rfl) (h (fun x => x = r) (fun _ => Iff.rfl) (wf.1 rfl) (wf.2.1 rfl))
set_option maxRecDepth 1000000 in
theorem sf19 (a : (Ty.T (.st (.pair (.sl (.int .i64)) (.pair (.sl (.int .i64)) .unit))))) (b : (Ty.T (.st (.pair (.sl (.int .i64)) (.pair (.sl (.int .i64)) .unit))))) (r : Ty.T .bool) (h : ∀ R : Ty.T .bool → Prop, (∀ x, R x ↔ x = r) → WF (.st (.pair (.sl (.int .i64)) (.pair (.sl (.int .i64)) .unit))) a → WF (.st (.pair (.sl (.int .i64)) (.pair (.sl (.int .i64)) .unit))) b → 
    (∃ r : Bool,
    (CallP Try.prog tT (16 : Nat) [(AV.c (Cap.d (Ty.sl (Ty.int Go.IntKind.i64)) a.1)), (AV.c (Cap.d (Ty.sl (Ty.int Go.IntKind.i64)) b.1))] Ty.bool r ∧
    (∃ r1 : Bool,
    (((r = true) →
      CallP Try.prog tT (16 : Nat) [(AV.c (Cap.d (Ty.sl (Ty.int Go.IntKind.i64)) a.2.1)), (AV.c (Cap.d (Ty.sl (Ty.int Go.IntKind.i64)) b.2.1))] Ty.bool r1) ∧
    (R (selB r r1 false))))))) : CallP Try.prog tT 19 [.d (.st (.pair (.sl (.int .i64)) (.pair (.sl (.int .i64)) .unit))) a, .d (.st (.pair (.sl (.int .i64)) (.pair (.sl (.int .i64)) .unit))) b] .bool r :=
  of19 a b r fun R hR w0_ w1_ => have p := h R hR w0_ w1_
    (Exists.elim p fun r q1 => Exists.intro r ⟨q1.1, ⟨(fun h4 => h4), ⟨(fun h6 => h6), (Exists.elim q1.2 fun r1 q7 => Exists.intro r1 ⟨(fun h13 => ⟨⟨h13, h13⟩, (q7.1 h13)⟩), ⟨(fun h15 => h15), q7.2⟩⟩)⟩⟩⟩)
/- foresight/word.Normal -/
def cx20 : Cx := { T := tT, own := ownT, frz := [], loops := [], cuts := [], inl := inlT }
set_option maxRecDepth 1000000 in
theorem of20 (w : (Ty.T (.st (.pair (.sl (.int .i64)) (.pair (.sl (.int .i64)) .unit))))) (r : Ty.T (.st (.pair (.sl (.int .i64)) (.pair (.sl (.int .i64)) .unit)))) (h : ∀ R : Ty.T (.st (.pair (.sl (.int .i64)) (.pair (.sl (.int .i64)) .unit))) → Prop, (∀ x, R x ↔ x = r) → WF (.st (.pair (.sl (.int .i64)) (.pair (.sl (.int .i64)) .unit))) w → 
    ∃ r : Bool,
    (CallP Try.prog tT (34 : Nat) [(AV.c (Cap.d (Ty.st (Ty.pair (Ty.sl (Ty.int Go.IntKind.i64)) (Ty.pair (Ty.sl (Ty.int Go.IntKind.i64)) Ty.unit))) w))] Ty.bool r ∧
    ((((!r) = true) →
      (R (([] : List Int), (([] : List Int), ())))) ∧
    (((!r) = false) →
      ∃ r1 : ((List Int) × ((List Int) × Unit)),
      (CallP Try.prog tT (40 : Nat) [(AV.c (Cap.d (Ty.st (Ty.pair (Ty.sl (Ty.int Go.IntKind.i64)) (Ty.pair (Ty.sl (Ty.int Go.IntKind.i64)) Ty.unit))) w))] (Ty.st (Ty.pair (Ty.sl (Ty.int Go.IntKind.i64)) (Ty.pair (Ty.sl (Ty.int Go.IntKind.i64)) Ty.unit))) r1 ∧
      (R (r1.1, (r1.2.1, ())))))))) : CallP Try.prog tT 20 [.d (.st (.pair (.sl (.int .i64)) (.pair (.sl (.int .i64)) .unit))) w] (.st (.pair (.sl (.int .i64)) (.pair (.sl (.int .i64)) .unit))) r :=
  callP_of (cx := cx20) (d := 6) mixed tab_ok inl_ok Try.func20 ⟨fun _ _ => by kernel_rfl⟩ rfl rfl fun wf => Eq.mpr (by kernel_rfl) (h (fun x => x = r) (fun _ => Iff.rfl) (wf.1 rfl))
/- foresight/foresightref02.Normal -/
def cx21 : Cx := { T := tT, own := ownT, frz := [], loops := [], cuts := [], inl := inlT }
set_option maxRecDepth 1000000 in
theorem of21 (w : (Ty.T (.st (.pair (.sl (.int .i64)) (.pair (.sl (.int .i64)) .unit))))) (r : Ty.T (.st (.pair (.sl (.int .i64)) (.pair (.sl (.int .i64)) .unit)))) (h : ∀ R : Ty.T (.st (.pair (.sl (.int .i64)) (.pair (.sl (.int .i64)) .unit))) → Prop, (∀ x, R x ↔ x = r) → WF (.st (.pair (.sl (.int .i64)) (.pair (.sl (.int .i64)) .unit))) w → 
    ∃ r : Bool,
    (CallP Try.prog tT (30 : Nat) [(AV.c (Cap.d (Ty.st (Ty.pair (Ty.sl (Ty.int Go.IntKind.i64)) (Ty.pair (Ty.sl (Ty.int Go.IntKind.i64)) Ty.unit))) w))] Ty.bool r ∧
    ((((!r) = true) →
      (R (([] : List Int), (([] : List Int), ())))) ∧
    (((!r) = false) →
      ∃ r1 : ((List Int) × ((List Int) × Unit)),
      (CallP Try.prog tT (41 : Nat) [(AV.c (Cap.d (Ty.st (Ty.pair (Ty.sl (Ty.int Go.IntKind.i64)) (Ty.pair (Ty.sl (Ty.int Go.IntKind.i64)) Ty.unit))) w))] (Ty.st (Ty.pair (Ty.sl (Ty.int Go.IntKind.i64)) (Ty.pair (Ty.sl (Ty.int Go.IntKind.i64)) Ty.unit))) r1 ∧
      (R (r1.1, (r1.2.1, ())))))))) : CallP Try.prog tT 21 [.d (.st (.pair (.sl (.int .i64)) (.pair (.sl (.int .i64)) .unit))) w] (.st (.pair (.sl (.int .i64)) (.pair (.sl (.int .i64)) .unit))) r :=
  callP_of (cx := cx21) (d := 6) mixed tab_ok inl_ok Try.func21 ⟨fun _ _ => by kernel_rfl⟩ rfl rfl fun wf => Eq.mpr (by kernel_rfl) (h (fun x => x = r) (fun _ => Iff.rfl) (wf.1 rfl))
/- foresight/word.Same -/
def cx22 : Cx := { T := tT, own := ownT, frz := [], loops := [], cuts := [], inl := inlT }
set_option maxRecDepth 1000000 in
theorem of22 (a : (Ty.T (.st (.pair (.sl (.int .i64)) (.pair (.sl (.int .i64)) .unit))))) (b : (Ty.T (.st (.pair (.sl (.int .i64)) (.pair (.sl (.int .i64)) .unit))))) (r : Ty.T .bool) (h : ∀ R : Ty.T .bool → Prop, (∀ x, R x ↔ x = r) → WF (.st (.pair (.sl (.int .i64)) (.pair (.sl (.int .i64)) .unit))) a → WF (.st (.pair (.sl (.int .i64)) (.pair (.sl (.int .i64)) .unit))) b → 
    ∃ r : Bool,
    (CallP Try.prog tT (34 : Nat) [(AV.c (Cap.d (Ty.st (Ty.pair (Ty.sl (Ty.int Go.IntKind.i64)) (Ty.pair (Ty.sl (Ty.int Go.IntKind.i64)) Ty.unit))) a))] Ty.bool r ∧
    ∃ r1 : Bool,
    ((((!(!r)) = true) →
      (((!(!r)) = true) ∧
      CallP Try.prog tT (34 : Nat) [(AV.c (Cap.d (Ty.st (Ty.pair (Ty.sl (Ty.int Go.IntKind.i64)) (Ty.pair (Ty.sl (Ty.int Go.IntKind.i64)) Ty.unit))) b))] Ty.bool r1)) ∧
    ((((!(!r)) = true) →
      ((!(!r)) = true)) ∧
    ((((!r) = false) →
      ((!(!r)) = true)) ∧
    ((((selB (!r) true (!r1)) = true) →
      (R false)) ∧
    (((selB (!r) true (!r1)) = false) →
      ∃ r2 : ((List Int) × ((List Int) × Unit)),
      (CallP Try.prog tT (40 : Nat) [(AV.c (Cap.d (Ty.st (Ty.pair (Ty.sl (Ty.int Go.IntKind.i64)) (Ty.pair (Ty.sl (Ty.int Go.IntKind.i64)) Ty.unit))) a))] (Ty.st (Ty.pair (Ty.sl (Ty.int Go.IntKind.i64)) (Ty.pair (Ty.sl (Ty.int Go.IntKind.i64)) Ty.unit))) r2 ∧
      ∃ r3 : ((List Int) × ((List Int) × Unit)),
      (CallP Try.prog tT (40 : Nat) [(AV.c (Cap.d (Ty.st (Ty.pair (Ty.sl (Ty.int Go.IntKind.i64)) (Ty.pair (Ty.sl (Ty.int Go.IntKind.i64)) Ty.unit))) b))] (Ty.st (Ty.pair (Ty.sl (Ty.int Go.IntKind.i64)) (Ty.pair (Ty.sl (Ty.int Go.IntKind.i64)) Ty.unit))) r3 ∧
      ∃ r4 : Bool,
      (CallP Try.prog tT (42 : Nat) [(AV.c (Cap.d (Ty.sl (Ty.int Go.IntKind.i64)) r2.1)), (AV.c (Cap.d (Ty.sl (Ty.int Go.IntKind.i64)) r3.1))] Ty.bool r4 ∧
      (((r4 = true) →
        (r4 = true)) ∧
      (((r4 = true) →
        (r4 = true)) ∧
      ∃ r5 : Bool,
      (((r4 = true) →
        (((r4 = true) ∧
        (r4 = true)) ∧
        CallP Try.prog tT (42 : Nat) [(AV.c (Cap.d (Ty.sl (Ty.int Go.IntKind.i64)) r2.2.1)), (AV.c (Cap.d (Ty.sl (Ty.int Go.IntKind.i64)) r3.2.1))] Ty.bool r5)) ∧
      (((r4 = true) →
        (r4 = true)) ∧
      (R (selB r4 r5 false)))))))))))))))) : CallP Try.prog tT 22 [.d (.st (.pair (.sl (.int .i64)) (.pair (.sl (.int .i64)) .unit))) a, .d (.st (.pair (.sl (.int .i64)) (.pair (.sl (.int .i64)) .unit))) b] .bool r :=
  callP_of (cx := cx22) (d := 6) mixed tab_ok inl_ok Try.func22 ⟨fun _ _ => by kernel_rfl⟩ rfl rfl fun wf => Eq.mpr (by kernel_rfl) (h (fun x => x = r) (fun _ => Iff.rfl) (wf.1 rfl) (wf.2.1 rfl))
set_option maxRecDepth 1000000 in
theorem sf22 (a : (Ty.T (.st (.pair (.sl (.int .i64)) (.pair (.sl (.int .i64)) .unit))))) (b : (Ty.T (.st (.pair (.sl (.int .i64)) (.pair (.sl (.int .i64)) .unit))))) (r : Ty.T .bool) (h : ∀ R : Ty.T .bool → Prop, (∀ x, R x ↔ x = r) → WF (.st (.pair (.sl (.int .i64)) (.pair (.sl (.int .i64)) .unit))) a → WF (.st (.pair (.sl (.int .i64)) (.pair (.sl (.int .i64)) .unit))) b → 
    (∃ r : Bool,
    (CallP Try.prog tT (34 : Nat) [(AV.c (Cap.d (Ty.st (Ty.pair (Ty.sl (Ty.int Go.IntKind.i64)) (Ty.pair (Ty.sl (Ty.int Go.IntKind.i64)) Ty.unit))) a))] Ty.bool r ∧
    (∃ r1 : Bool,
    (((r = true) →
      CallP Try.prog tT (34 : Nat) [(AV.c (Cap.d (Ty.st (Ty.pair (Ty.sl (Ty.int Go.IntKind.i64)) (Ty.pair (Ty.sl (Ty.int Go.IntKind.i64)) Ty.unit))) b))] Ty.bool r1) ∧
    ((((r = false) ∨ (r1 = false)) →
      (R false)) ∧
    ((r = true) → (r1 = true) →
      (∃ r2 : ((List Int) × ((List Int) × Unit)),
      (CallP Try.prog tT (40 : Nat) [(AV.c (Cap.d (Ty.st (Ty.pair (Ty.sl (Ty.int Go.IntKind.i64)) (Ty.pair (Ty.sl (Ty.int Go.IntKind.i64)) Ty.unit))) a))] (Ty.st (Ty.pair (Ty.sl (Ty.int Go.IntKind.i64)) (Ty.pair (Ty.sl (Ty.int Go.IntKind.i64)) Ty.unit))) r2 ∧
      (∃ r3 : ((List Int) × ((List Int) × Unit)),
      (CallP Try.prog tT (40 : Nat) [(AV.c (Cap.d (Ty.st (Ty.pair (Ty.sl (Ty.int Go.IntKind.i64)) (Ty.pair (Ty.sl (Ty.int Go.IntKind.i64)) Ty.unit))) b))] (Ty.st (Ty.pair (Ty.sl (Ty.int Go.IntKind.i64)) (Ty.pair (Ty.sl (Ty.int Go.IntKind.i64)) Ty.unit))) r3 ∧
      (∃ r4 : Bool,
      (CallP Try.prog tT (42 : Nat) [(AV.c (Cap.d (Ty.sl (Ty.int Go.IntKind.i64)) r2.1)), (AV.c (Cap.d (Ty.sl (Ty.int Go.IntKind.i64)) r3.1))] Ty.bool r4 ∧
      (∃ r5 : Bool,
      (((r4 = true) →
        CallP Try.prog tT (42 : Nat) [(AV.c (Cap.d (Ty.sl (Ty.int Go.IntKind.i64)) r2.2.1)), (AV.c (Cap.d (Ty.sl (Ty.int Go.IntKind.i64)) r3.2.1))] Ty.bool r5) ∧
      (R (selB r4 r5 false))))))))))))))))) : CallP Try.prog tT 22 [.d (.st (.pair (.sl (.int .i64)) (.pair (.sl (.int .i64)) .unit))) a, .d (.st (.pair (.sl (.int .i64)) (.pair (.sl (.int .i64)) .unit))) b] .bool r :=
  of22 a b r fun R hR w0_ w1_ => have p := h R hR w0_ w1_
    (Exists.elim p fun r q1 => Exists.intro r ⟨q1.1, (Exists.elim q1.2 fun r1 q2 => Exists.intro r1 ⟨(fun h8 => ⟨h8, (q2.1 (bnot_f (bnot_t h8)))⟩), ⟨(fun h12 => h12), ⟨(fun h15 => (bnot_t2 h15)), ⟨(fun h21 => (q2.2.1 (Or.imp (fun h => (bnot_t h)) (fun h => (bnot_t h)) (selB_ot h21)))), (fun h23 => (Exists.elim (q2.2.2 (bnot_f (selB_of h23).1) (bnot_f (selB_of h23).2)) fun r2 q24 => Exists.intro r2 ⟨q24.1, (Exists.elim q24.2 fun r3 q25 => Exists.intro r3 ⟨q25.1, (Exists.elim q25.2 fun r4 q26 => Exists.intro r4 ⟨q26.1, ⟨(fun h29 => h29), ⟨(fun h31 => h31), (Exists.elim q26.2 fun r5 q32 => Exists.intro r5 ⟨(fun h38 => ⟨⟨h38, h38⟩, (q32.1 h38)⟩), ⟨(fun h40 => h40), q32.2⟩⟩)⟩⟩⟩)⟩)⟩))⟩⟩⟩⟩)⟩)
/- foresight/foresightref02.Same -/
def cx23 : Cx := { T := tT, own := ownT, frz := [], loops := [], cuts := [], inl := inlT }
set_option maxRecDepth 1000000 in
theorem of23 (a : (Ty.T (.st (.pair (.sl (.int .i64)) (.pair (.sl (.int .i64)) .unit))))) (b : (Ty.T (.st (.pair (.sl (.int .i64)) (.pair (.sl (.int .i64)) .unit))))) (r : Ty.T .bool) (h : ∀ R : Ty.T .bool → Prop, (∀ x, R x ↔ x = r) → WF (.st (.pair (.sl (.int .i64)) (.pair (.sl (.int .i64)) .unit))) a → WF (.st (.pair (.sl (.int .i64)) (.pair (.sl (.int .i64)) .unit))) b → 
    ∃ r : Bool,
    (CallP Try.prog tT (30 : Nat) [(AV.c (Cap.d (Ty.st (Ty.pair (Ty.sl (Ty.int Go.IntKind.i64)) (Ty.pair (Ty.sl (Ty.int Go.IntKind.i64)) Ty.unit))) a))] Ty.bool r ∧
    ∃ r1 : Bool,
    (((r = true) →
      ((r = true) ∧
      CallP Try.prog tT (30 : Nat) [(AV.c (Cap.d (Ty.st (Ty.pair (Ty.sl (Ty.int Go.IntKind.i64)) (Ty.pair (Ty.sl (Ty.int Go.IntKind.i64)) Ty.unit))) b))] Ty.bool r1)) ∧
    (((r = true) →
      (r = true)) ∧
    ∃ r2 : ((List Int) × ((List Int) × Unit)),
    ((((selB r r1 false) = true) →
      (((selB r r1 false) = true) ∧
      CallP Try.prog tT (41 : Nat) [(AV.c (Cap.d (Ty.st (Ty.pair (Ty.sl (Ty.int Go.IntKind.i64)) (Ty.pair (Ty.sl (Ty.int Go.IntKind.i64)) Ty.unit))) a))] (Ty.st (Ty.pair (Ty.sl (Ty.int Go.IntKind.i64)) (Ty.pair (Ty.sl (Ty.int Go.IntKind.i64)) Ty.unit))) r2)) ∧
    ∃ r3 : ((List Int) × ((List Int) × Unit)),
    ((((selB r r1 false) = true) →
      (((selB r r1 false) = true) ∧
      CallP Try.prog tT (41 : Nat) [(AV.c (Cap.d (Ty.st (Ty.pair (Ty.sl (Ty.int Go.IntKind.i64)) (Ty.pair (Ty.sl (Ty.int Go.IntKind.i64)) Ty.unit))) b))] (Ty.st (Ty.pair (Ty.sl (Ty.int Go.IntKind.i64)) (Ty.pair (Ty.sl (Ty.int Go.IntKind.i64)) Ty.unit))) r3)) ∧
    ∃ r4 : Bool,
    ((((selB r r1 false) = true) →
      ((((selB r r1 false) = true) ∧
      ((selB r r1 false) = true)) ∧
      CallP Try.prog tT (19 : Nat) [(AV.c (Cap.d (Ty.st (Ty.pair (Ty.sl (Ty.int Go.IntKind.i64)) (Ty.pair (Ty.sl (Ty.int Go.IntKind.i64)) Ty.unit))) r2)), (AV.c (Cap.d (Ty.st (Ty.pair (Ty.sl (Ty.int Go.IntKind.i64)) (Ty.pair (Ty.sl (Ty.int Go.IntKind.i64)) Ty.unit))) r3))] Ty.bool r4)) ∧
    ((((selB r r1 false) = true) →
      ((selB r r1 false) = true)) ∧
    (R (selB (selB r r1 false) r4 false)))))))))) : CallP Try.prog tT 23 [.d (.st (.pair (.sl (.int .i64)) (.pair (.sl (.int .i64)) .unit))) a, .d (.st (.pair (.sl (.int .i64)) (.pair (.sl (.int .i64)) .unit))) b] .bool r :=
  callP_of (cx := cx23) (d := 6) mixed tab_ok inl_ok Try.func23 ⟨fun _ _ => by kernel_rfl⟩ rfl rfl fun wf => Eq.mpr (by kernel_rfl) (h (fun x => x = r) (fun _ => Iff.rfl) (wf.1 rfl) (wf.2.1 rfl))
set_option maxRecDepth 1000000 in
theorem sf23 (a : (Ty.T (.st (.pair (.sl (.int .i64)) (.pair (.sl (.int .i64)) .unit))))) (b : (Ty.T (.st (.pair (.sl (.int .i64)) (.pair (.sl (.int .i64)) .unit))))) (r : Ty.T .bool) (h : ∀ R : Ty.T .bool → Prop, (∀ x, R x ↔ x = r) → WF (.st (.pair (.sl (.int .i64)) (.pair (.sl (.int .i64)) .unit))) a → WF (.st (.pair (.sl (.int .i64)) (.pair (.sl (.int .i64)) .unit))) b → 
    (∃ r : Bool,
    (CallP Try.prog tT (30 : Nat) [(AV.c (Cap.d (Ty.st (Ty.pair (Ty.sl (Ty.int Go.IntKind.i64)) (Ty.pair (Ty.sl (Ty.int Go.IntKind.i64)) Ty.unit))) a))] Ty.bool r ∧
    (∃ r1 : Bool,
    (((r = true) →
      CallP Try.prog tT (30 : Nat) [(AV.c (Cap.d (Ty.st (Ty.pair (Ty.sl (Ty.int Go.IntKind.i64)) (Ty.pair (Ty.sl (Ty.int Go.IntKind.i64)) Ty.unit))) b))] Ty.bool r1) ∧
    (∃ r2 : ((List Int) × ((List Int) × Unit)),
    (((r = true) → (r1 = true) →
      CallP Try.prog tT (41 : Nat) [(AV.c (Cap.d (Ty.st (Ty.pair (Ty.sl (Ty.int Go.IntKind.i64)) (Ty.pair (Ty.sl (Ty.int Go.IntKind.i64)) Ty.unit))) a))] (Ty.st (Ty.pair (Ty.sl (Ty.int Go.IntKind.i64)) (Ty.pair (Ty.sl (Ty.int Go.IntKind.i64)) Ty.unit))) r2) ∧
    (∃ r3 : ((List Int) × ((List Int) × Unit)),
    (((r = true) → (r1 = true) →
      CallP Try.prog tT (41 : Nat) [(AV.c (Cap.d (Ty.st (Ty.pair (Ty.sl (Ty.int Go.IntKind.i64)) (Ty.pair (Ty.sl (Ty.int Go.IntKind.i64)) Ty.unit))) b))] (Ty.st (Ty.pair (Ty.sl (Ty.int Go.IntKind.i64)) (Ty.pair (Ty.sl (Ty.int Go.IntKind.i64)) Ty.unit))) r3) ∧
    (∃ r4 : Bool,
    (((r = true) → (r1 = true) →
      CallP Try.prog tT (19 : Nat) [(AV.c (Cap.d (Ty.st (Ty.pair (Ty.sl (Ty.int Go.IntKind.i64)) (Ty.pair (Ty.sl (Ty.int Go.IntKind.i64)) Ty.unit))) r2)), (AV.c (Cap.d (Ty.st (Ty.pair (Ty.sl (Ty.int Go.IntKind.i64)) (Ty.pair (Ty.sl (Ty.int Go.IntKind.i64)) Ty.unit))) r3))] Ty.bool r4) ∧
    (R (selB (selB r r1 false) r4 false))))))))))))) : CallP Try.prog tT 23 [.d (.st (.pair (.sl (.int .i64)) (.pair (.sl (.int .i64)) .unit))) a, .d (.st (.pair (.sl (.int .i64)) (.pair (.sl (.int .i64)) .unit))) b] .bool r :=
  of23 a b r fun R hR w0_ w1_ => have p := h R hR w0_ w1_
    (Exists.elim p fun r q1 => Exists.intro r ⟨q1.1, (Exists.elim q1.2 fun r1 q2 => Exists.intro r1 ⟨(fun h8 => ⟨h8, (q2.1 h8)⟩), ⟨(fun h10 => h10), (Exists.elim q2.2 fun r2 q11 => Exists.intro r2 ⟨(fun h17 => ⟨h17, (q11.1 ((selB_at h17).1) ((selB_at h17).2))⟩), (Exists.elim q11.2 fun r3 q18 => Exists.intro r3 ⟨(fun h24 => ⟨h24, (q18.1 ((selB_at h24).1) ((selB_at h24).2))⟩), (Exists.elim q18.2 fun r4 q25 => Exists.intro r4 ⟨(fun h31 => ⟨⟨h31, h31⟩, (q25.1 ((selB_at h31).1) ((selB_at h31).2))⟩), ⟨(fun h33 => h33), q25.2⟩⟩)⟩)⟩)⟩⟩)⟩)
/- foresight/word.Suffix -/
def cx24 : Cx := { T := tT, own := ownT, frz := [], loops := [], cuts := [], inl := inlT }
set_option maxRecDepth 1000000 in
theorem of24 (w : (Ty.T (.st (.pair (.sl (.int .i64)) (.pair (.sl (.int .i64)) .unit))))) (n : (Ty.T (.int .i64))) (r : Ty.T (.st (.pair (.sl (.int .i64)) (.pair (.sl (.int .i64)) .unit)))) (h : ∀ R : Ty.T (.st (.pair (.sl (.int .i64)) (.pair (.sl (.int .i64)) .unit))) → Prop, (∀ x, R x ↔ x = r) → WF (.st (.pair (.sl (.int .i64)) (.pair (.sl (.int .i64)) .unit))) w → WF (.int .i64) n → 
    ∃ r : Bool,
    ((((!(decide (n < (0 : Int)))) = true) →
      (((!(decide (n < (0 : Int)))) = true) ∧
      CallP Try.prog tT (34 : Nat) [(AV.c (Cap.d (Ty.st (Ty.pair (Ty.sl (Ty.int Go.IntKind.i64)) (Ty.pair (Ty.sl (Ty.int Go.IntKind.i64)) Ty.unit))) w))] Ty.bool r)) ∧
    ((((!(decide (n < (0 : Int)))) = true) →
      ((!(decide (n < (0 : Int)))) = true)) ∧
    ((((decide (n < (0 : Int))) = false) →
      ((!(decide (n < (0 : Int)))) = true)) ∧
    ((((selB (decide (n < (0 : Int))) true (!r)) = true) →
      (R (([] : List Int), (([] : List Int), ())))) ∧
    (((selB (decide (n < (0 : Int))) true (!r)) = false) →
      ((((decide ((((List.length w.1) : Nat) : Int) < n)) = true) →
        (inK Go.IntKind.i64 (n - (((List.length w.1) : Nat) : Int)) ∧
        ((((0 : Int) ≤ (n - (((List.length w.1) : Nat) : Int))) ∧
        ((0 : Int) < (((List.length w.2.1) : Nat) : Int))) ∧
        ((((0 : Int) ≤ ((n - (((List.length w.1) : Nat) : Int)) % (((List.length w.2.1) : Nat) : Int))) ∧
        (((n - (((List.length w.1) : Nat) : Int)) % (((List.length w.2.1) : Nat) : Int)) ≤ (((List.length w.2.1) : Nat) : Int))) ∧
        ((((0 : Int) ≤ ((n - (((List.length w.1) : Nat) : Int)) % (((List.length w.2.1) : Nat) : Int))) ∧
        (((n - (((List.length w.1) : Nat) : Int)) % (((List.length w.2.1) : Nat) : Int)) ≤ (((List.length w.2.1) : Nat) : Int))) ∧
        ∃ r1 : (List Int),
        (CallP Try.prog tT (43 : Nat) [(AV.c (Cap.d (Ty.sl (Ty.sl (Ty.int Go.IntKind.i64))) [(List.drop (Int.toNat ((n - (((List.length w.1) : Nat) : Int)) % (((List.length w.2.1) : Nat) : Int))) w.2.1), (List.take (Int.toNat ((n - (((List.length w.1) : Nat) : Int)) % (((List.length w.2.1) : Nat) : Int))) w.2.1)]))] (Ty.sl (Ty.int Go.IntKind.i64)) r1 ∧
        ∃ r2 : ((List Int) × ((List Int) × Unit)),
        (CallP Try.prog tT (40 : Nat) [(AV.c (Cap.d (Ty.st (Ty.pair (Ty.sl (Ty.int Go.IntKind.i64)) (Ty.pair (Ty.sl (Ty.int Go.IntKind.i64)) Ty.unit))) (([] : List Int), (r1, ()))))] (Ty.st (Ty.pair (Ty.sl (Ty.int Go.IntKind.i64)) (Ty.pair (Ty.sl (Ty.int Go.IntKind.i64)) Ty.unit))) r2 ∧
        (R (r2.1, (r2.2.1, ())))))))))) ∧
      (((decide ((((List.length w.1) : Nat) : Int) < n)) = false) →
        ((((0 : Int) ≤ n) ∧
        (n ≤ (((List.length w.1) : Nat) : Int))) ∧
        ∃ r1 : ((List Int) × ((List Int) × Unit)),
        (CallP Try.prog tT (40 : Nat) [(AV.c (Cap.d (Ty.st (Ty.pair (Ty.sl (Ty.int Go.IntKind.i64)) (Ty.pair (Ty.sl (Ty.int Go.IntKind.i64)) Ty.unit))) ((List.drop (Int.toNat n) w.1), (w.2.1, ()))))] (Ty.st (Ty.pair (Ty.sl (Ty.int Go.IntKind.i64)) (Ty.pair (Ty.sl (Ty.int Go.IntKind.i64)) Ty.unit))) r1 ∧
        (R (r1.1, (r1.2.1, ()))))))))))))) : CallP Try.prog tT 24 [.d (.st (.pair (.sl (.int .i64)) (.pair (.sl (.int .i64)) .unit))) w, .d (.int .i64) n] (.st (.pair (.sl (.int .i64)) (.pair (.sl (.int .i64)) .unit))) r :=
  callP_of (cx := cx24) (d := 6) mixed tab_ok inl_ok Try.func24 ⟨fun _ _ => by kernel_rfl⟩ rfl rfl fun wf => Eq.mpr (by kernel_rfl) (h (fun x => x = r) (fun _ => Iff.rfl) (wf.1 rfl) (wf.2.1 rfl))
set_option maxRecDepth 1000000 in
theorem sf24 (w : (Ty.T (.st (.pair (.sl (.int .i64)) (.pair (.sl (.int .i64)) .unit))))) (n : (Ty.T (.int .i64))) (r : Ty.T (.st (.pair (.sl (.int .i64)) (.pair (.sl (.int .i64)) .unit)))) (h : ∀ R : Ty.T (.st (.pair (.sl (.int .i64)) (.pair (.sl (.int .i64)) .unit))) → Prop, (∀ x, R x ↔ x = r) → WF (.st (.pair (.sl (.int .i64)) (.pair (.sl (.int .i64)) .unit))) w → WF (.int .i64) n → 
    (∃ r : Bool,
    ((((0 : Int) ≤ n) →
      CallP Try.prog tT (34 : Nat) [(AV.c (Cap.d (Ty.st (Ty.pair (Ty.sl (Ty.int Go.IntKind.i64)) (Ty.pair (Ty.sl (Ty.int Go.IntKind.i64)) Ty.unit))) w))] Ty.bool r) ∧
    ((((n < (0 : Int)) ∨ (r = false)) →
      (R (([] : List Int), (([] : List Int), ())))) ∧
    (((0 : Int) ≤ n) → (r = true) →
      ((((((List.length w.1) : Nat) : Int) < n) →
        (inK Go.IntKind.i64 (n - (((List.length w.1) : Nat) : Int)) ∧
        ((((0 : Int) ≤ (n - (((List.length w.1) : Nat) : Int))) ∧
        ((0 : Int) < (((List.length w.2.1) : Nat) : Int))) ∧
        ((((0 : Int) ≤ ((n - (((List.length w.1) : Nat) : Int)) % (((List.length w.2.1) : Nat) : Int))) ∧
        (((n - (((List.length w.1) : Nat) : Int)) % (((List.length w.2.1) : Nat) : Int)) ≤ (((List.length w.2.1) : Nat) : Int))) ∧
        (∃ r1 : (List Int),
        (CallP Try.prog tT (43 : Nat) [(AV.c (Cap.d (Ty.sl (Ty.sl (Ty.int Go.IntKind.i64))) [(List.drop (Int.toNat ((n - (((List.length w.1) : Nat) : Int)) % (((List.length w.2.1) : Nat) : Int))) w.2.1), (List.take (Int.toNat ((n - (((List.length w.1) : Nat) : Int)) % (((List.length w.2.1) : Nat) : Int))) w.2.1)]))] (Ty.sl (Ty.int Go.IntKind.i64)) r1 ∧
        (∃ r2 : ((List Int) × ((List Int) × Unit)),
        (CallP Try.prog tT (40 : Nat) [(AV.c (Cap.d (Ty.st (Ty.pair (Ty.sl (Ty.int Go.IntKind.i64)) (Ty.pair (Ty.sl (Ty.int Go.IntKind.i64)) Ty.unit))) (([] : List Int), (r1, ()))))] (Ty.st (Ty.pair (Ty.sl (Ty.int Go.IntKind.i64)) (Ty.pair (Ty.sl (Ty.int Go.IntKind.i64)) Ty.unit))) r2 ∧
        (R (r2.1, (r2.2.1, ()))))))))))) ∧
      ((n ≤ (((List.length w.1) : Nat) : Int)) →
        (∃ r1 : ((List Int) × ((List Int) × Unit)),
        (CallP Try.prog tT (40 : Nat) [(AV.c (Cap.d (Ty.st (Ty.pair (Ty.sl (Ty.int Go.IntKind.i64)) (Ty.pair (Ty.sl (Ty.int Go.IntKind.i64)) Ty.unit))) ((List.drop (Int.toNat n) w.1), (w.2.1, ()))))] (Ty.st (Ty.pair (Ty.sl (Ty.int Go.IntKind.i64)) (Ty.pair (Ty.sl (Ty.int Go.IntKind.i64)) Ty.unit))) r1 ∧
        (R (r1.1, (r1.2.1, ())))))))))))) : CallP Try.prog tT 24 [.d (.st (.pair (.sl (.int .i64)) (.pair (.sl (.int .i64)) .unit))) w, .d (.int .i64) n] (.st (.pair (.sl (.int .i64)) (.pair (.sl (.int .i64)) .unit))) r :=
  of24 w n r fun R hR w0_ w1_ => have p := h R hR w0_ w1_
    (Exists.elim p fun r q1 => Exists.intro r ⟨(fun h7 => ⟨h7, (q1.1 (Int.not_lt.1 (of_decide_eq_false (bnot_t h7))))⟩), ⟨(fun h11 => h11), ⟨(fun h14 => (bnot_t2 h14)), ⟨(fun h20 => (q1.2.1 (Or.imp (fun h => (of_decide_eq_true h)) (fun h => (bnot_t h)) (selB_ot h20)))), (fun h23 => ⟨(fun h31 => ⟨((q1.2.2 (Int.not_lt.1 (of_decide_eq_false (selB_of h23).1)) (bnot_f (selB_of h23).2)).1 (of_decide_eq_true h31)).1, ⟨⟨((q1.2.2 (Int.not_lt.1 (of_decide_eq_false (selB_of h23).1)) (bnot_f (selB_of h23).2)).1 (of_decide_eq_true h31)).2.1.1, ((q1.2.2 (Int.not_lt.1 (of_decide_eq_false (selB_of h23).1)) (bnot_f (selB_of h23).2)).1 (of_decide_eq_true h31)).2.1.2⟩, ⟨⟨((q1.2.2 (Int.not_lt.1 (of_decide_eq_false (selB_of h23).1)) (bnot_f (selB_of h23).2)).1 (of_decide_eq_true h31)).2.2.1.1, ((q1.2.2 (Int.not_lt.1 (of_decide_eq_false (selB_of h23).1)) (bnot_f (selB_of h23).2)).1 (of_decide_eq_true h31)).2.2.1.2⟩, ⟨⟨((q1.2.2 (Int.not_lt.1 (of_decide_eq_false (selB_of h23).1)) (bnot_f (selB_of h23).2)).1 (of_decide_eq_true h31)).2.2.1.1, ((q1.2.2 (Int.not_lt.1 (of_decide_eq_false (selB_of h23).1)) (bnot_f (selB_of h23).2)).1 (of_decide_eq_true h31)).2.2.1.2⟩, (Exists.elim ((q1.2.2 (Int.not_lt.1 (of_decide_eq_false (selB_of h23).1)) (bnot_f (selB_of h23).2)).1 (of_decide_eq_true h31)).2.2.2 fun r1 q32 => Exists.intro r1 ⟨q32.1, (Exists.elim q32.2 fun r2 q33 => Exists.intro r2 ⟨q33.1, q33.2⟩)⟩)⟩⟩⟩⟩), (fun h35 => ⟨⟨(Int.not_lt.1 (of_decide_eq_false (selB_of h23).1)), (Int.not_lt.1 (of_decide_eq_false h35))⟩, (Exists.elim ((q1.2.2 (Int.not_lt.1 (of_decide_eq_false (selB_of h23).1)) (bnot_f (selB_of h23).2)).2 (Int.not_lt.1 (of_decide_eq_false h35))) fun r1 q36 => Exists.intro r1 ⟨q36.1, q36.2⟩)⟩)⟩)⟩⟩⟩⟩)
/- foresight/foresightref02.Suffix -/
def cx25 : Cx := { T := tT, own := ownT, frz := [], loops := [], cuts := [], inl := inlT }
set_option maxRecDepth 1000000 in
theorem of25 (w : (Ty.T (.st (.pair (.sl (.int .i64)) (.pair (.sl (.int .i64)) .unit))))) (n : (Ty.T (.int .i64))) (r : Ty.T (.st (.pair (.sl (.int .i64)) (.pair (.sl (.int .i64)) .unit)))) (h : ∀ R : Ty.T (.st (.pair (.sl (.int .i64)) (.pair (.sl (.int .i64)) .unit))) → Prop, (∀ x, R x ↔ x = r) → WF (.st (.pair (.sl (.int .i64)) (.pair (.sl (.int .i64)) .unit))) w → WF (.int .i64) n → 
    ∃ r : Bool,
    ((((!(decide (n < (0 : Int)))) = true) →
      (((!(decide (n < (0 : Int)))) = true) ∧
      CallP Try.prog tT (30 : Nat) [(AV.c (Cap.d (Ty.st (Ty.pair (Ty.sl (Ty.int Go.IntKind.i64)) (Ty.pair (Ty.sl (Ty.int Go.IntKind.i64)) Ty.unit))) w))] Ty.bool r)) ∧
    ((((!(decide (n < (0 : Int)))) = true) →
      ((!(decide (n < (0 : Int)))) = true)) ∧
    ((((decide (n < (0 : Int))) = false) →
      ((!(decide (n < (0 : Int)))) = true)) ∧
    ((((selB (decide (n < (0 : Int))) true (!r)) = true) →
      (R (([] : List Int), (([] : List Int), ())))) ∧
    (((selB (decide (n < (0 : Int))) true (!r)) = false) →
      ((((decide (n ≤ (((List.length w.1) : Nat) : Int))) = true) →
        ((((0 : Int) ≤ n) ∧
        (n ≤ (((List.length w.1) : Nat) : Int))) ∧
        ∃ r1 : ((List Int) × ((List Int) × Unit)),
        (CallP Try.prog tT (41 : Nat) [(AV.c (Cap.d (Ty.st (Ty.pair (Ty.sl (Ty.int Go.IntKind.i64)) (Ty.pair (Ty.sl (Ty.int Go.IntKind.i64)) Ty.unit))) ((List.drop (Int.toNat n) w.1), (w.2.1, ()))))] (Ty.st (Ty.pair (Ty.sl (Ty.int Go.IntKind.i64)) (Ty.pair (Ty.sl (Ty.int Go.IntKind.i64)) Ty.unit))) r1 ∧
        (R (r1.1, (r1.2.1, ())))))) ∧
      (((decide (n ≤ (((List.length w.1) : Nat) : Int))) = false) →
        (inK Go.IntKind.i64 (n - (((List.length w.1) : Nat) : Int)) ∧
        ((((0 : Int) ≤ (n - (((List.length w.1) : Nat) : Int))) ∧
        ((0 : Int) < (((List.length w.2.1) : Nat) : Int))) ∧
        ((((0 : Int) ≤ ((n - (((List.length w.1) : Nat) : Int)) % (((List.length w.2.1) : Nat) : Int))) ∧
        (((n - (((List.length w.1) : Nat) : Int)) % (((List.length w.2.1) : Nat) : Int)) ≤ (((List.length w.2.1) : Nat) : Int))) ∧
        (((((((List.length ([] : List Int)) + (List.length (List.drop (Int.toNat ((n - (((List.length w.1) : Nat) : Int)) % (((List.length w.2.1) : Nat) : Int))) w.2.1))) : Nat) : Int) * (((8 : Nat) : Nat) : Int)) ≤ (140737488355328 : Int)) ∧
        ((((0 : Int) ≤ ((n - (((List.length w.1) : Nat) : Int)) % (((List.length w.2.1) : Nat) : Int))) ∧
        (((n - (((List.length w.1) : Nat) : Int)) % (((List.length w.2.1) : Nat) : Int)) ≤ (((List.length w.2.1) : Nat) : Int))) ∧
        (((((((List.length (([] : List Int) ++ (List.drop (Int.toNat ((n - (((List.length w.1) : Nat) : Int)) % (((List.length w.2.1) : Nat) : Int))) w.2.1))) + (List.length (List.take (Int.toNat ((n - (((List.length w.1) : Nat) : Int)) % (((List.length w.2.1) : Nat) : Int))) w.2.1))) : Nat) : Int) * (((8 : Nat) : Nat) : Int)) ≤ (140737488355328 : Int)) ∧
        ∃ r1 : ((List Int) × ((List Int) × Unit)),
        (CallP Try.prog tT (41 : Nat) [(AV.c (Cap.d (Ty.st (Ty.pair (Ty.sl (Ty.int Go.IntKind.i64)) (Ty.pair (Ty.sl (Ty.int Go.IntKind.i64)) Ty.unit))) (([] : List Int), (((([] : List Int) ++ (List.drop (Int.toNat ((n - (((List.length w.1) : Nat) : Int)) % (((List.length w.2.1) : Nat) : Int))) w.2.1)) ++ (List.take (Int.toNat ((n - (((List.length w.1) : Nat) : Int)) % (((List.length w.2.1) : Nat) : Int))) w.2.1)), ()))))] (Ty.st (Ty.pair (Ty.sl (Ty.int Go.IntKind.i64)) (Ty.pair (Ty.sl (Ty.int Go.IntKind.i64)) Ty.unit))) r1 ∧
        (R (r1.1, (r1.2.1, ())))))))))))))))))) : CallP Try.prog tT 25 [.d (.st (.pair (.sl (.int .i64)) (.pair (.sl (.int .i64)) .unit))) w, .d (.int .i64) n] (.st (.pair (.sl (.int .i64)) (.pair (.sl (.int .i64)) .unit))) r :=
  callP_of (cx := cx25) (d := 6) mixed tab_ok inl_ok Try.func25 ⟨fun _ _ => by kernel_rfl⟩ rfl rfl fun wf => Eq.mpr (by kernel_rfl) (h (fun x => x = r) (fun _ => Iff.rfl) (wf.1 rfl) (wf.2.1 rfl))
set_option maxRecDepth 1000000 in
theorem sf25 (w : (Ty.T (.st (.pair (.sl (.int .i64)) (.pair (.sl (.int .i64)) .unit))))) (n : (Ty.T (.int .i64))) (r : Ty.T (.st (.pair (.sl (.int .i64)) (.pair (.sl (.int .i64)) .unit)))) (h : ∀ R : Ty.T (.st (.pair (.sl (.int .i64)) (.pair (.sl (.int .i64)) .unit))) → Prop, (∀ x, R x ↔ x = r) → WF (.st (.pair (.sl (.int .i64)) (.pair (.sl (.int .i64)) .unit))) w → WF (.int .i64) n → 
    (∃ r : Bool,
    ((((0 : Int) ≤ n) →
      CallP Try.prog tT (30 : Nat) [(AV.c (Cap.d (Ty.st (Ty.pair (Ty.sl (Ty.int Go.IntKind.i64)) (Ty.pair (Ty.sl (Ty.int Go.IntKind.i64)) Ty.unit))) w))] Ty.bool r) ∧
    ((((n < (0 : Int)) ∨ (r = false)) →
      (R (([] : List Int), (([] : List Int), ())))) ∧
    (((0 : Int) ≤ n) → (r = true) →
      (((n ≤ (((List.length w.1) : Nat) : Int)) →
        (∃ r1 : ((List Int) × ((List Int) × Unit)),
        (CallP Try.prog tT (41 : Nat) [(AV.c (Cap.d (Ty.st (Ty.pair (Ty.sl (Ty.int Go.IntKind.i64)) (Ty.pair (Ty.sl (Ty.int Go.IntKind.i64)) Ty.unit))) ((List.drop (Int.toNat n) w.1), (w.2.1, ()))))] (Ty.st (Ty.pair (Ty.sl (Ty.int Go.IntKind.i64)) (Ty.pair (Ty.sl (Ty.int Go.IntKind.i64)) Ty.unit))) r1 ∧
        (R (r1.1, (r1.2.1, ())))))) ∧
      (((((List.length w.1) : Nat) : Int) < n) →
        (inK Go.IntKind.i64 (n - (((List.length w.1) : Nat) : Int)) ∧
        ((((0 : Int) ≤ (n - (((List.length w.1) : Nat) : Int))) ∧
        ((0 : Int) < (((List.length w.2.1) : Nat) : Int))) ∧
        ((((0 : Int) ≤ ((n - (((List.length w.1) : Nat) : Int)) % (((List.length w.2.1) : Nat) : Int))) ∧
        (((n - (((List.length w.1) : Nat) : Int)) % (((List.length w.2.1) : Nat) : Int)) ≤ (((List.length w.2.1) : Nat) : Int))) ∧
        (((((((List.length ([] : List Int)) + (List.length (List.drop (Int.toNat ((n - (((List.length w.1) : Nat) : Int)) % (((List.length w.2.1) : Nat) : Int))) w.2.1))) : Nat) : Int) * (((8 : Nat) : Nat) : Int)) ≤ (140737488355328 : Int)) ∧
        (((((((List.length (([] : List Int) ++ (List.drop (Int.toNat ((n - (((List.length w.1) : Nat) : Int)) % (((List.length w.2.1) : Nat) : Int))) w.2.1))) + (List.length (List.take (Int.toNat ((n - (((List.length w.1) : Nat) : Int)) % (((List.length w.2.1) : Nat) : Int))) w.2.1))) : Nat) : Int) * (((8 : Nat) : Nat) : Int)) ≤ (140737488355328 : Int)) ∧
        (∃ r1 : ((List Int) × ((List Int) × Unit)),
        (CallP Try.prog tT (41 : Nat) [(AV.c (Cap.d (Ty.st (Ty.pair (Ty.sl (Ty.int Go.IntKind.i64)) (Ty.pair (Ty.sl (Ty.int Go.IntKind.i64)) Ty.unit))) (([] : List Int), (((([] : List Int) ++ (List.drop (Int.toNat ((n - (((List.length w.1) : Nat) : Int)) % (((List.length w.2.1) : Nat) : Int))) w.2.1)) ++ (List.take (Int.toNat ((n - (((List.length w.1) : Nat) : Int)) % (((List.length w.2.1) : Nat) : Int))) w.2.1)), ()))))] (Ty.st (Ty.pair (Ty.sl (Ty.int Go.IntKind.i64)) (Ty.pair (Ty.sl (Ty.int Go.IntKind.i64)) Ty.unit))) r1 ∧
        (R (r1.1, (r1.2.1, ()))))))))))))))))) : CallP Try.prog tT 25 [.d (.st (.pair (.sl (.int .i64)) (.pair (.sl (.int .i64)) .unit))) w, .d (.int .i64) n] (.st (.pair (.sl (.int .i64)) (.pair (.sl (.int .i64)) .unit))) r :=
  of25 w n r fun R hR w0_ w1_ => have p := h R hR w0_ w1_
    (Exists.elim p fun r q1 => Exists.intro r ⟨(fun h7 => ⟨h7, (q1.1 (Int.not_lt.1 (of_decide_eq_false (bnot_t h7))))⟩), ⟨(fun h11 => h11), ⟨(fun h14 => (bnot_t2 h14)), ⟨(fun h20 => (q1.2.1 (Or.imp (fun h => (of_decide_eq_true h)) (fun h => (bnot_t h)) (selB_ot h20)))), (fun h23 => ⟨(fun h30 => ⟨⟨(Int.not_lt.1 (of_decide_eq_false (selB_of h23).1)), (of_decide_eq_true h30)⟩, (Exists.elim ((q1.2.2 (Int.not_lt.1 (of_decide_eq_false (selB_of h23).1)) (bnot_f (selB_of h23).2)).1 (of_decide_eq_true h30)) fun r1 q31 => Exists.intro r1 ⟨q31.1, q31.2⟩)⟩), (fun h33 => ⟨((q1.2.2 (Int.not_lt.1 (of_decide_eq_false (selB_of h23).1)) (bnot_f (selB_of h23).2)).2 (Int.not_le.1 (of_decide_eq_false h33))).1, ⟨⟨((q1.2.2 (Int.not_lt.1 (of_decide_eq_false (selB_of h23).1)) (bnot_f (selB_of h23).2)).2 (Int.not_le.1 (of_decide_eq_false h33))).2.1.1, ((q1.2.2 (Int.not_lt.1 (of_decide_eq_false (selB_of h23).1)) (bnot_f (selB_of h23).2)).2 (Int.not_le.1 (of_decide_eq_false h33))).2.1.2⟩, ⟨⟨((q1.2.2 (Int.not_lt.1 (of_decide_eq_false (selB_of h23).1)) (bnot_f (selB_of h23).2)).2 (Int.not_le.1 (of_decide_eq_false h33))).2.2.1.1, ((q1.2.2 (Int.not_lt.1 (of_decide_eq_false (selB_of h23).1)) (bnot_f (selB_of h23).2)).2 (Int.not_le.1 (of_decide_eq_false h33))).2.2.1.2⟩, ⟨((q1.2.2 (Int.not_lt.1 (of_decide_eq_false (selB_of h23).1)) (bnot_f (selB_of h23).2)).2 (Int.not_le.1 (of_decide_eq_false h33))).2.2.2.1, ⟨⟨((q1.2.2 (Int.not_lt.1 (of_decide_eq_false (selB_of h23).1)) (bnot_f (selB_of h23).2)).2 (Int.not_le.1 (of_decide_eq_false h33))).2.2.1.1, ((q1.2.2 (Int.not_lt.1 (of_decide_eq_false (selB_of h23).1)) (bnot_f (selB_of h23).2)).2 (Int.not_le.1 (of_decide_eq_false h33))).2.2.1.2⟩, ⟨((q1.2.2 (Int.not_lt.1 (of_decide_eq_false (selB_of h23).1)) (bnot_f (selB_of h23).2)).2 (Int.not_le.1 (of_decide_eq_false h33))).2.2.2.2.1, (Exists.elim ((q1.2.2 (Int.not_lt.1 (of_decide_eq_false (selB_of h23).1)) (bnot_f (selB_of h23).2)).2 (Int.not_le.1 (of_decide_eq_false h33))).2.2.2.2.2 fun r1 q34 => Exists.intro r1 ⟨q34.1, q34.2⟩)⟩⟩⟩⟩⟩⟩)⟩)⟩⟩⟩⟩)
/- foresight/word.Push -/
def cx26 : Cx := { T := tT, own := ownT, frz := [], loops := [], cuts := [], inl := inlT }
set_option maxRecDepth 1000000 in
theorem of26 (letters : (Ty.T (.sl (.int .i64)))) (w : (Ty.T (.st (.pair (.sl (.int .i64)) (.pair (.sl (.int .i64)) .unit))))) (r : Ty.T (.st (.pair (.sl (.int .i64)) (.pair (.sl (.int .i64)) .unit)))) (h : ∀ R : Ty.T (.st (.pair (.sl (.int .i64)) (.pair (.sl (.int .i64)) .unit))) → Prop, (∀ x, R x ↔ x = r) → WF (.sl (.int .i64)) letters → WF (.st (.pair (.sl (.int .i64)) (.pair (.sl (.int .i64)) .unit))) w → 
    ∃ r : Bool,
    (CallP Try.prog tT (34 : Nat) [(AV.c (Cap.d (Ty.st (Ty.pair (Ty.sl (Ty.int Go.IntKind.i64)) (Ty.pair (Ty.sl (Ty.int Go.IntKind.i64)) Ty.unit))) w))] Ty.bool r ∧
    ∃ r1 : Bool,
    ((((!(!r)) = true) →
      (((!(!r)) = true) ∧
      CallP Try.prog tT (44 : Nat) [(AV.c (Cap.d (Ty.sl (Ty.int Go.IntKind.i64)) letters)), (AV.fn (45 : Nat) ([] : List Go.Proofs.Ytblibehfjjgdeaa.Cap))] Ty.bool r1)) ∧
    ((((!r) = false) →
      ((!(!r)) = true)) ∧
    ((((selB (!r) true r1) = true) →
      (R (([] : List Int), (([] : List Int), ())))) ∧
    (((selB (!r) true r1) = false) →
      ∃ r2 : (List Int),
      (CallP Try.prog tT (43 : Nat) [(AV.c (Cap.d (Ty.sl (Ty.sl (Ty.int Go.IntKind.i64))) [letters, w.1]))] (Ty.sl (Ty.int Go.IntKind.i64)) r2 ∧
      ∃ r3 : ((List Int) × ((List Int) × Unit)),
      (CallP Try.prog tT (40 : Nat) [(AV.c (Cap.d (Ty.st (Ty.pair (Ty.sl (Ty.int Go.IntKind.i64)) (Ty.pair (Ty.sl (Ty.int Go.IntKind.i64)) Ty.unit))) (r2, (w.2.1, ()))))] (Ty.st (Ty.pair (Ty.sl (Ty.int Go.IntKind.i64)) (Ty.pair (Ty.sl (Ty.int Go.IntKind.i64)) Ty.unit))) r3 ∧
      ∃ r4 : ((List Int) × ((List Int) × Unit)),
      (CallP Try.prog tT (47 : Nat) [(AV.c (Cap.d (Ty.st (Ty.pair (Ty.sl (Ty.int Go.IntKind.i64)) (Ty.pair (Ty.sl (Ty.int Go.IntKind.i64)) Ty.unit))) r3))] (Ty.st (Ty.pair (Ty.sl (Ty.int Go.IntKind.i64)) (Ty.pair (Ty.sl (Ty.int Go.IntKind.i64)) Ty.unit))) r4 ∧
      (R (r4.1, (r4.2.1, ())))))))))))) : CallP Try.prog tT 26 [.d (.sl (.int .i64)) letters, .d (.st (.pair (.sl (.int .i64)) (.pair (.sl (.int .i64)) .unit))) w] (.st (.pair (.sl (.int .i64)) (.pair (.sl (.int .i64)) .unit))) r :=
  callP_of (cx := cx26) (d := 6) mixed tab_ok inl_ok Try.func26 ⟨fun _ _ => by kernel_rfl⟩ rfl rfl fun wf => Eq.mpr (by kernel_rfl) (h (fun x => x = r) (fun _ => Iff.rfl) (wf.1 rfl) (wf.2.1 rfl))
/- foresight/foresightref02.Push -/
def cx27 : Cx := { T := tT, own := ownT, frz := [], loops := [(270003, 72, ⟨[.val 5 (.int .i64), .obj 4 [.d (.sl (.int .i64)), .d (.sl (.int .i64))]], 0⟩)], cuts := [], inl := inlT }
set_option maxRecDepth 1000000 in
theorem of27 (letters : (Ty.T (.sl (.int .i64)))) (w : (Ty.T (.st (.pair (.sl (.int .i64)) (.pair (.sl (.int .i64)) .unit))))) (r : Ty.T (.st (.pair (.sl (.int .i64)) (.pair (.sl (.int .i64)) .unit)))) (h : ∀ R : Ty.T (.st (.pair (.sl (.int .i64)) (.pair (.sl (.int .i64)) .unit))) → Prop, (∀ x, R x ↔ x = r) → WF (.sl (.int .i64)) letters → WF (.st (.pair (.sl (.int .i64)) (.pair (.sl (.int .i64)) .unit))) w → 
    ∃ I : ((Int × (((List Int) × ((List Int) × Unit)) × Unit)) → Prop),
    ∃ μ : ((Int × (((List Int) × ((List Int) × Unit)) × Unit)) → Nat),
    ((I ((0 : Int), ((([] : List Int), (([] : List Int), ())), ()))) ∧
    ∀ x : (Int × (((List Int) × ((List Int) × Unit)) × Unit)),
    ((WF (Ty.int Go.IntKind.i64) x.1 ∧
      (WF (Ty.pair (Ty.sl (Ty.int Go.IntKind.i64)) (Ty.pair (Ty.sl (Ty.int Go.IntKind.i64)) Ty.unit)) x.2.1 ∧
      True)) →
      ((I x) →
        ((((decide (x.1 < (((List.length letters) : Nat) : Int))) = true) →
          ((((0 : Int) ≤ x.1) ∧
          (x.1 < (((List.length letters) : Nat) : Int))) ∧
          ∃ r : Bool,
          (CallP Try.prog tT (48 : Nat) [(AV.c (Cap.d (Ty.int Go.IntKind.i64) (List.getD letters (Int.toNat x.1) (0 : Int))))] Ty.bool r ∧
          ((((!r) = true) →
            (R (([] : List Int), (([] : List Int), ())))) ∧
          (((!r) = false) →
            (inK Go.IntKind.i64 (x.1 + (1 : Int)) ∧
            ((I ((x.1 + (1 : Int)), ((x.2.1.1, (x.2.1.2.1, ())), ()))) ∧
            ((μ ((x.1 + (1 : Int)), ((x.2.1.1, (x.2.1.2.1, ())), ()))) < (μ x))))))))) ∧
        (((decide (x.1 < (((List.length letters) : Nat) : Int))) = false) →
          ∃ r : Bool,
          (CallP Try.prog tT (30 : Nat) [(AV.c (Cap.d (Ty.st (Ty.pair (Ty.sl (Ty.int Go.IntKind.i64)) (Ty.pair (Ty.sl (Ty.int Go.IntKind.i64)) Ty.unit))) w))] Ty.bool r ∧
          ((((!r) = true) →
            (R (([] : List Int), (([] : List Int), ())))) ∧
          (((!r) = false) →
            (((((((List.length ([] : List Int)) + (List.length letters)) : Nat) : Int) * (((8 : Nat) : Nat) : Int)) ≤ (140737488355328 : Int)) ∧
            (((((((List.length (([] : List Int) ++ letters)) + (List.length w.1)) : Nat) : Int) * (((8 : Nat) : Nat) : Int)) ≤ (140737488355328 : Int)) ∧
            ∃ r1 : ((List Int) × ((List Int) × Unit)),
            (CallP Try.prog tT (41 : Nat) [(AV.c (Cap.d (Ty.st (Ty.pair (Ty.sl (Ty.int Go.IntKind.i64)) (Ty.pair (Ty.sl (Ty.int Go.IntKind.i64)) Ty.unit))) (((([] : List Int) ++ letters) ++ w.1), (w.2.1, ()))))] (Ty.st (Ty.pair (Ty.sl (Ty.int Go.IntKind.i64)) (Ty.pair (Ty.sl (Ty.int Go.IntKind.i64)) Ty.unit))) r1 ∧
            ∃ r2 : ((List Int) × ((List Int) × Unit)),
            (CallP Try.prog tT (49 : Nat) [(AV.c (Cap.d (Ty.st (Ty.pair (Ty.sl (Ty.int Go.IntKind.i64)) (Ty.pair (Ty.sl (Ty.int Go.IntKind.i64)) Ty.unit))) r1))] (Ty.st (Ty.pair (Ty.sl (Ty.int Go.IntKind.i64)) (Ty.pair (Ty.sl (Ty.int Go.IntKind.i64)) Ty.unit))) r2 ∧
            (R (r2.1, (r2.2.1, ())))))))))))))))) : CallP Try.prog tT 27 [.d (.sl (.int .i64)) letters, .d (.st (.pair (.sl (.int .i64)) (.pair (.sl (.int .i64)) .unit))) w] (.st (.pair (.sl (.int .i64)) (.pair (.sl (.int .i64)) .unit))) r :=
  callP_of (cx := cx27) (d := 6) mixed tab_ok inl_ok Try.func27 ⟨fun _ _ => by kernel_rfl⟩ rfl rfl fun wf => Eq.mpr (by kernel_rfl) (h (fun x => x = r) (fun _ => Iff.rfl) (wf.1 rfl) (wf.2.1 rfl))
/- foresight/word.Zip -/
def cx28 : Cx := { T := tT, own := ownT, frz := [(280013, 799, [.row 684])], loops := [(280008, 684, ⟨[.own 11 0 3 (.int .i64), .val 55 (.int .i64), .obj 6 [.d (.sl (.int .i64)), .d (.sl (.int .i64))]], 1⟩)], cuts := [], inl := inlT }
set_option maxRecDepth 1000000 in
theorem of28 (a : (Ty.T (.st (.pair (.sl (.int .i64)) (.pair (.sl (.int .i64)) .unit))))) (b : (Ty.T (.st (.pair (.sl (.int .i64)) (.pair (.sl (.int .i64)) .unit))))) (table : (Ty.T (.sl (.sl (.int .i64))))) (r : Ty.T (.st (.pair (.sl (.int .i64)) (.pair (.sl (.int .i64)) .unit)))) (h : ∀ R : Ty.T (.st (.pair (.sl (.int .i64)) (.pair (.sl (.int .i64)) .unit))) → Prop, (∀ x, R x ↔ x = r) → WF (.st (.pair (.sl (.int .i64)) (.pair (.sl (.int .i64)) .unit))) a → WF (.st (.pair (.sl (.int .i64)) (.pair (.sl (.int .i64)) .unit))) b → WF (.sl (.sl (.int .i64))) table → 
    ∃ r : Bool,
    (CallP Try.prog tT (34 : Nat) [(AV.c (Cap.d (Ty.st (Ty.pair (Ty.sl (Ty.int Go.IntKind.i64)) (Ty.pair (Ty.sl (Ty.int Go.IntKind.i64)) Ty.unit))) a))] Ty.bool r ∧
    ∃ r1 : Bool,
    ((((!(!r)) = true) →
      (((!(!r)) = true) ∧
      CallP Try.prog tT (34 : Nat) [(AV.c (Cap.d (Ty.st (Ty.pair (Ty.sl (Ty.int Go.IntKind.i64)) (Ty.pair (Ty.sl (Ty.int Go.IntKind.i64)) Ty.unit))) b))] Ty.bool r1)) ∧
    ((((!(!r)) = true) →
      ((!(!r)) = true)) ∧
    ((((!r) = false) →
      ((!(!r)) = true)) ∧
    ((((selB (!r) true (!r1)) = true) →
      (R (([] : List Int), (([] : List Int), ())))) ∧
    (((selB (!r) true (!r1)) = false) →
      (inK Go.IntKind.i64 ((((List.length a.2.1) : Nat) : Int) * (((List.length b.2.1) : Nat) : Int)) ∧
      ∃ r2 : Bool,
      (CallK Try.prog tT (39 : Nat) [(AV.c (Cap.d (Ty.st (Ty.pair (Ty.sl (Ty.int Go.IntKind.i64)) (Ty.pair (Ty.sl (Ty.int Go.IntKind.i64)) Ty.unit))) a))] (51 : Nat) [(Cap.kp (Ty.st (Ty.pair (Ty.sl (Ty.int Go.IntKind.i64)) (Ty.pair (Ty.sl (Ty.int Go.IntKind.i64)) Ty.unit))) a)] ∧
      (inK Go.IntKind.i64 ((Max.max (((List.length a.1) : Nat) : Int) (((List.length b.1) : Nat) : Int)) + ((((List.length a.2.1) : Nat) : Int) * (((List.length b.2.1) : Nat) : Int))) ∧
      ∃ r3 : (List Int),
      (CallP Try.prog tT (38 : Nat) [(AV.fn (51 : Nat) [(Cap.kp (Ty.st (Ty.pair (Ty.sl (Ty.int Go.IntKind.i64)) (Ty.pair (Ty.sl (Ty.int Go.IntKind.i64)) Ty.unit))) a)]), (AV.c (Cap.d (Ty.int Go.IntKind.i64) ((Max.max (((List.length a.1) : Nat) : Int) (((List.length b.1) : Nat) : Int)) + ((((List.length a.2.1) : Nat) : Int) * (((List.length b.2.1) : Nat) : Int)))))] (Ty.sl (Ty.int Go.IntKind.i64)) r3 ∧
      ∃ r4 : Bool,
      (CallK Try.prog tT (39 : Nat) [(AV.c (Cap.d (Ty.st (Ty.pair (Ty.sl (Ty.int Go.IntKind.i64)) (Ty.pair (Ty.sl (Ty.int Go.IntKind.i64)) Ty.unit))) b))] (51 : Nat) [(Cap.kp (Ty.st (Ty.pair (Ty.sl (Ty.int Go.IntKind.i64)) (Ty.pair (Ty.sl (Ty.int Go.IntKind.i64)) Ty.unit))) b)] ∧
      (inK Go.IntKind.i64 ((Max.max (((List.length a.1) : Nat) : Int) (((List.length b.1) : Nat) : Int)) + ((((List.length a.2.1) : Nat) : Int) * (((List.length b.2.1) : Nat) : Int))) ∧
      ∃ r5 : (List Int),
      (CallP Try.prog tT (38 : Nat) [(AV.fn (51 : Nat) [(Cap.kp (Ty.st (Ty.pair (Ty.sl (Ty.int Go.IntKind.i64)) (Ty.pair (Ty.sl (Ty.int Go.IntKind.i64)) Ty.unit))) b)]), (AV.c (Cap.d (Ty.int Go.IntKind.i64) ((Max.max (((List.length a.1) : Nat) : Int) (((List.length b.1) : Nat) : Int)) + ((((List.length a.2.1) : Nat) : Int) * (((List.length b.2.1) : Nat) : Int)))))] (Ty.sl (Ty.int Go.IntKind.i64)) r5 ∧
      (inK Go.IntKind.i64 ((Max.max (((List.length a.1) : Nat) : Int) (((List.length b.1) : Nat) : Int)) + ((((List.length a.2.1) : Nat) : Int) * (((List.length b.2.1) : Nat) : Int))) ∧
      ((((0 : Int) ≤ (0 : Int)) ∧
      (((0 : Int) ≤ ((Max.max (((List.length a.1) : Nat) : Int) (((List.length b.1) : Nat) : Int)) + ((((List.length a.2.1) : Nat) : Int) * (((List.length b.2.1) : Nat) : Int)))) ∧
      ((((Max.max (((List.length a.1) : Nat) : Int) (((List.length b.1) : Nat) : Int)) + ((((List.length a.2.1) : Nat) : Int) * (((List.length b.2.1) : Nat) : Int))) * (((8 : Nat) : Nat) : Int)) ≤ (140737488355328 : Int)))) ∧
      ∃ I : (((List Int) × (Int × (((List Int) × ((List Int) × Unit)) × Unit))) → Prop),
      ∃ μ : (((List Int) × (Int × (((List Int) × ((List Int) × Unit)) × Unit))) → Nat),
      ((I ((List.replicate (Int.toNat (0 : Int)) (0 : Int)), ((0 : Int), ((([] : List Int), (([] : List Int), ())), ())))) ∧
      ∀ x : ((List Int) × (Int × (((List Int) × ((List Int) × Unit)) × Unit))),
      ((WF (Ty.sl (Ty.int Go.IntKind.i64)) x.1 ∧
        (WF (Ty.int Go.IntKind.i64) x.2.1 ∧
        (WF (Ty.pair (Ty.sl (Ty.int Go.IntKind.i64)) (Ty.pair (Ty.sl (Ty.int Go.IntKind.i64)) Ty.unit)) x.2.2.1 ∧
        True))) →
        ((I x) →
          ((((decide (x.2.1 < (((List.length r3) : Nat) : Int))) = true) →
            ((((0 : Int) ≤ x.2.1) ∧
            (x.2.1 < (((List.length r3) : Nat) : Int))) ∧
            ((((!(decide ((((List.length table) : Nat) : Int) ≤ (List.getD r3 (Int.toNat x.2.1) (0 : Int))))) = true) →
              ((((!(decide ((((List.length table) : Nat) : Int) ≤ (List.getD r3 (Int.toNat x.2.1) (0 : Int))))) = true) ∧
              ((!(decide ((((List.length table) : Nat) : Int) ≤ (List.getD r3 (Int.toNat x.2.1) (0 : Int))))) = true)) ∧
              (((0 : Int) ≤ x.2.1) ∧
              (x.2.1 < (((List.length r5) : Nat) : Int))))) ∧
            ((((!(decide ((((List.length table) : Nat) : Int) ≤ (List.getD r3 (Int.toNat x.2.1) (0 : Int))))) = true) →
              ((!(decide ((((List.length table) : Nat) : Int) ≤ (List.getD r3 (Int.toNat x.2.1) (0 : Int))))) = true)) ∧
            ((((!(decide ((((List.length table) : Nat) : Int) ≤ (List.getD r3 (Int.toNat x.2.1) (0 : Int))))) = true) →
              ((((!(decide ((((List.length table) : Nat) : Int) ≤ (List.getD r3 (Int.toNat x.2.1) (0 : Int))))) = true) ∧
              ((!(decide ((((List.length table) : Nat) : Int) ≤ (List.getD r3 (Int.toNat x.2.1) (0 : Int))))) = true)) ∧
              (((0 : Int) ≤ (List.getD r3 (Int.toNat x.2.1) (0 : Int))) ∧
              ((List.getD r3 (Int.toNat x.2.1) (0 : Int)) < (((List.length table) : Nat) : Int))))) ∧
            ((((!(decide ((((List.length table) : Nat) : Int) ≤ (List.getD r3 (Int.toNat x.2.1) (0 : Int))))) = true) →
              ((!(decide ((((List.length table) : Nat) : Int) ≤ (List.getD r3 (Int.toNat x.2.1) (0 : Int))))) = true)) ∧
            ((((!(decide ((((List.length table) : Nat) : Int) ≤ (List.getD r3 (Int.toNat x.2.1) (0 : Int))))) = true) →
              ((!(decide ((((List.length table) : Nat) : Int) ≤ (List.getD r3 (Int.toNat x.2.1) (0 : Int))))) = true)) ∧
            ((((!(decide ((((List.length table) : Nat) : Int) ≤ (List.getD r3 (Int.toNat x.2.1) (0 : Int))))) = true) →
              (((!(decide ((((List.length table) : Nat) : Int) ≤ (List.getD r3 (Int.toNat x.2.1) (0 : Int))))) = true) ∧
              ((!(decide ((((List.length table) : Nat) : Int) ≤ (List.getD r3 (Int.toNat x.2.1) (0 : Int))))) = true))) ∧
            ((((decide ((((List.length table) : Nat) : Int) ≤ (List.getD r3 (Int.toNat x.2.1) (0 : Int)))) = false) →
              ((!(decide ((((List.length table) : Nat) : Int) ≤ (List.getD r3 (Int.toNat x.2.1) (0 : Int))))) = true)) ∧
            ((((!(selB (decide ((((List.length table) : Nat) : Int) ≤ (List.getD r3 (Int.toNat x.2.1) (0 : Int)))) true (decide ((((List.length (List.getD table (Int.toNat (List.getD r3 (Int.toNat x.2.1) (0 : Int))) ([] : List Int))) : Nat) : Int) ≤ (List.getD r5 (Int.toNat x.2.1) (0 : Int)))))) = true) →
              ((((!(selB (decide ((((List.length table) : Nat) : Int) ≤ (List.getD r3 (Int.toNat x.2.1) (0 : Int)))) true (decide ((((List.length (List.getD table (Int.toNat (List.getD r3 (Int.toNat x.2.1) (0 : Int))) ([] : List Int))) : Nat) : Int) ≤ (List.getD r5 (Int.toNat x.2.1) (0 : Int)))))) = true) ∧
              ((!(selB (decide ((((List.length table) : Nat) : Int) ≤ (List.getD r3 (Int.toNat x.2.1) (0 : Int)))) true (decide ((((List.length (List.getD table (Int.toNat (List.getD r3 (Int.toNat x.2.1) (0 : Int))) ([] : List Int))) : Nat) : Int) ≤ (List.getD r5 (Int.toNat x.2.1) (0 : Int)))))) = true)) ∧
              (((0 : Int) ≤ (List.getD r3 (Int.toNat x.2.1) (0 : Int))) ∧
              ((List.getD r3 (Int.toNat x.2.1) (0 : Int)) < (((List.length table) : Nat) : Int))))) ∧
            ((((!(selB (decide ((((List.length table) : Nat) : Int) ≤ (List.getD r3 (Int.toNat x.2.1) (0 : Int)))) true (decide ((((List.length (List.getD table (Int.toNat (List.getD r3 (Int.toNat x.2.1) (0 : Int))) ([] : List Int))) : Nat) : Int) ≤ (List.getD r5 (Int.toNat x.2.1) (0 : Int)))))) = true) →
              ((!(selB (decide ((((List.length table) : Nat) : Int) ≤ (List.getD r3 (Int.toNat x.2.1) (0 : Int)))) true (decide ((((List.length (List.getD table (Int.toNat (List.getD r3 (Int.toNat x.2.1) (0 : Int))) ([] : List Int))) : Nat) : Int) ≤ (List.getD r5 (Int.toNat x.2.1) (0 : Int)))))) = true)) ∧
            ((((!(selB (decide ((((List.length table) : Nat) : Int) ≤ (List.getD r3 (Int.toNat x.2.1) (0 : Int)))) true (decide ((((List.length (List.getD table (Int.toNat (List.getD r3 (Int.toNat x.2.1) (0 : Int))) ([] : List Int))) : Nat) : Int) ≤ (List.getD r5 (Int.toNat x.2.1) (0 : Int)))))) = true) →
              ((((!(selB (decide ((((List.length table) : Nat) : Int) ≤ (List.getD r3 (Int.toNat x.2.1) (0 : Int)))) true (decide ((((List.length (List.getD table (Int.toNat (List.getD r3 (Int.toNat x.2.1) (0 : Int))) ([] : List Int))) : Nat) : Int) ≤ (List.getD r5 (Int.toNat x.2.1) (0 : Int)))))) = true) ∧
              ((!(selB (decide ((((List.length table) : Nat) : Int) ≤ (List.getD r3 (Int.toNat x.2.1) (0 : Int)))) true (decide ((((List.length (List.getD table (Int.toNat (List.getD r3 (Int.toNat x.2.1) (0 : Int))) ([] : List Int))) : Nat) : Int) ≤ (List.getD r5 (Int.toNat x.2.1) (0 : Int)))))) = true)) ∧
              (((0 : Int) ≤ x.2.1) ∧
              (x.2.1 < (((List.length r5) : Nat) : Int))))) ∧
            ((((!(selB (decide ((((List.length table) : Nat) : Int) ≤ (List.getD r3 (Int.toNat x.2.1) (0 : Int)))) true (decide ((((List.length (List.getD table (Int.toNat (List.getD r3 (Int.toNat x.2.1) (0 : Int))) ([] : List Int))) : Nat) : Int) ≤ (List.getD r5 (Int.toNat x.2.1) (0 : Int)))))) = true) →
              ((!(selB (decide ((((List.length table) : Nat) : Int) ≤ (List.getD r3 (Int.toNat x.2.1) (0 : Int)))) true (decide ((((List.length (List.getD table (Int.toNat (List.getD r3 (Int.toNat x.2.1) (0 : Int))) ([] : List Int))) : Nat) : Int) ≤ (List.getD r5 (Int.toNat x.2.1) (0 : Int)))))) = true)) ∧
            ((((!(selB (decide ((((List.length table) : Nat) : Int) ≤ (List.getD r3 (Int.toNat x.2.1) (0 : Int)))) true (decide ((((List.length (List.getD table (Int.toNat (List.getD r3 (Int.toNat x.2.1) (0 : Int))) ([] : List Int))) : Nat) : Int) ≤ (List.getD r5 (Int.toNat x.2.1) (0 : Int)))))) = true) →
              ((((!(selB (decide ((((List.length table) : Nat) : Int) ≤ (List.getD r3 (Int.toNat x.2.1) (0 : Int)))) true (decide ((((List.length (List.getD table (Int.toNat (List.getD r3 (Int.toNat x.2.1) (0 : Int))) ([] : List Int))) : Nat) : Int) ≤ (List.getD r5 (Int.toNat x.2.1) (0 : Int)))))) = true) ∧
              ((!(selB (decide ((((List.length table) : Nat) : Int) ≤ (List.getD r3 (Int.toNat x.2.1) (0 : Int)))) true (decide ((((List.length (List.getD table (Int.toNat (List.getD r3 (Int.toNat x.2.1) (0 : Int))) ([] : List Int))) : Nat) : Int) ≤ (List.getD r5 (Int.toNat x.2.1) (0 : Int)))))) = true)) ∧
              (((0 : Int) ≤ (List.getD r5 (Int.toNat x.2.1) (0 : Int))) ∧
              ((List.getD r5 (Int.toNat x.2.1) (0 : Int)) < (((List.length (List.getD table (Int.toNat (List.getD r3 (Int.toNat x.2.1) (0 : Int))) ([] : List Int))) : Nat) : Int))))) ∧
            ((((!(selB (decide ((((List.length table) : Nat) : Int) ≤ (List.getD r3 (Int.toNat x.2.1) (0 : Int)))) true (decide ((((List.length (List.getD table (Int.toNat (List.getD r3 (Int.toNat x.2.1) (0 : Int))) ([] : List Int))) : Nat) : Int) ≤ (List.getD r5 (Int.toNat x.2.1) (0 : Int)))))) = true) →
              ((!(selB (decide ((((List.length table) : Nat) : Int) ≤ (List.getD r3 (Int.toNat x.2.1) (0 : Int)))) true (decide ((((List.length (List.getD table (Int.toNat (List.getD r3 (Int.toNat x.2.1) (0 : Int))) ([] : List Int))) : Nat) : Int) ≤ (List.getD r5 (Int.toNat x.2.1) (0 : Int)))))) = true)) ∧
            ∃ r6 : Bool,
            ((((!(selB (decide ((((List.length table) : Nat) : Int) ≤ (List.getD r3 (Int.toNat x.2.1) (0 : Int)))) true (decide ((((List.length (List.getD table (Int.toNat (List.getD r3 (Int.toNat x.2.1) (0 : Int))) ([] : List Int))) : Nat) : Int) ≤ (List.getD r5 (Int.toNat x.2.1) (0 : Int)))))) = true) →
              (((!(selB (decide ((((List.length table) : Nat) : Int) ≤ (List.getD r3 (Int.toNat x.2.1) (0 : Int)))) true (decide ((((List.length (List.getD table (Int.toNat (List.getD r3 (Int.toNat x.2.1) (0 : Int))) ([] : List Int))) : Nat) : Int) ≤ (List.getD r5 (Int.toNat x.2.1) (0 : Int)))))) = true) ∧
              CallP Try.prog tT (46 : Nat) [(AV.c (Cap.d (Ty.int Go.IntKind.i64) (List.getD (List.getD table (Int.toNat (List.getD r3 (Int.toNat x.2.1) (0 : Int))) ([] : List Int)) (Int.toNat (List.getD r5 (Int.toNat x.2.1) (0 : Int))) (0 : Int))))] Ty.bool r6)) ∧
            ((((!(selB (decide ((((List.length table) : Nat) : Int) ≤ (List.getD r3 (Int.toNat x.2.1) (0 : Int)))) true (decide ((((List.length (List.getD table (Int.toNat (List.getD r3 (Int.toNat x.2.1) (0 : Int))) ([] : List Int))) : Nat) : Int) ≤ (List.getD r5 (Int.toNat x.2.1) (0 : Int)))))) = true) →
              ((!(selB (decide ((((List.length table) : Nat) : Int) ≤ (List.getD r3 (Int.toNat x.2.1) (0 : Int)))) true (decide ((((List.length (List.getD table (Int.toNat (List.getD r3 (Int.toNat x.2.1) (0 : Int))) ([] : List Int))) : Nat) : Int) ≤ (List.getD r5 (Int.toNat x.2.1) (0 : Int)))))) = true)) ∧
            ((((selB (decide ((((List.length table) : Nat) : Int) ≤ (List.getD r3 (Int.toNat x.2.1) (0 : Int)))) true (decide ((((List.length (List.getD table (Int.toNat (List.getD r3 (Int.toNat x.2.1) (0 : Int))) ([] : List Int))) : Nat) : Int) ≤ (List.getD r5 (Int.toNat x.2.1) (0 : Int))))) = false) →
              ((!(selB (decide ((((List.length table) : Nat) : Int) ≤ (List.getD r3 (Int.toNat x.2.1) (0 : Int)))) true (decide ((((List.length (List.getD table (Int.toNat (List.getD r3 (Int.toNat x.2.1) (0 : Int))) ([] : List Int))) : Nat) : Int) ≤ (List.getD r5 (Int.toNat x.2.1) (0 : Int)))))) = true)) ∧
            ((((selB (selB (decide ((((List.length table) : Nat) : Int) ≤ (List.getD r3 (Int.toNat x.2.1) (0 : Int)))) true (decide ((((List.length (List.getD table (Int.toNat (List.getD r3 (Int.toNat x.2.1) (0 : Int))) ([] : List Int))) : Nat) : Int) ≤ (List.getD r5 (Int.toNat x.2.1) (0 : Int))))) true (!r6)) = true) →
              (R (([] : List Int), (([] : List Int), ())))) ∧
            (((selB (selB (decide ((((List.length table) : Nat) : Int) ≤ (List.getD r3 (Int.toNat x.2.1) (0 : Int)))) true (decide ((((List.length (List.getD table (Int.toNat (List.getD r3 (Int.toNat x.2.1) (0 : Int))) ([] : List Int))) : Nat) : Int) ≤ (List.getD r5 (Int.toNat x.2.1) (0 : Int))))) true (!r6)) = false) →
              ((((0 : Int) ≤ (List.getD r3 (Int.toNat x.2.1) (0 : Int))) ∧
              ((List.getD r3 (Int.toNat x.2.1) (0 : Int)) < (((List.length table) : Nat) : Int))) ∧
              ((((0 : Int) ≤ x.2.1) ∧
              (x.2.1 < (((List.length r5) : Nat) : Int))) ∧
              ((((0 : Int) ≤ (List.getD r5 (Int.toNat x.2.1) (0 : Int))) ∧
              ((List.getD r5 (Int.toNat x.2.1) (0 : Int)) < (((List.length (List.getD table (Int.toNat (List.getD r3 (Int.toNat x.2.1) (0 : Int))) ([] : List Int))) : Nat) : Int))) ∧
              (((((((List.length x.1) + (List.length [(List.getD (List.getD table (Int.toNat (List.getD r3 (Int.toNat x.2.1) (0 : Int))) ([] : List Int)) (Int.toNat (List.getD r5 (Int.toNat x.2.1) (0 : Int))) (0 : Int))])) : Nat) : Int) * (((8 : Nat) : Nat) : Int)) ≤ (140737488355328 : Int)) ∧
              (inK Go.IntKind.i64 (x.2.1 + (1 : Int)) ∧
              ((I ((x.1 ++ [(List.getD (List.getD table (Int.toNat (List.getD r3 (Int.toNat x.2.1) (0 : Int))) ([] : List Int)) (Int.toNat (List.getD r5 (Int.toNat x.2.1) (0 : Int))) (0 : Int))]), ((x.2.1 + (1 : Int)), ((x.2.2.1.1, (x.2.2.1.2.1, ())), ())))) ∧
              ((μ ((x.1 ++ [(List.getD (List.getD table (Int.toNat (List.getD r3 (Int.toNat x.2.1) (0 : Int))) ([] : List Int)) (Int.toNat (List.getD r5 (Int.toNat x.2.1) (0 : Int))) (0 : Int))]), ((x.2.1 + (1 : Int)), ((x.2.2.1.1, (x.2.2.1.2.1, ())), ())))) < (μ x)))))))))))))))))))))))))))) ∧
          (((decide (x.2.1 < (((List.length r3) : Nat) : Int))) = false) →
            ((((0 : Int) ≤ (Max.max (((List.length a.1) : Nat) : Int) (((List.length b.1) : Nat) : Int))) ∧
            ((Max.max (((List.length a.1) : Nat) : Int) (((List.length b.1) : Nat) : Int)) ≤ (((List.length x.1) : Nat) : Int))) ∧
            ((((0 : Int) ≤ (Max.max (((List.length a.1) : Nat) : Int) (((List.length b.1) : Nat) : Int))) ∧
            ((Max.max (((List.length a.1) : Nat) : Int) (((List.length b.1) : Nat) : Int)) ≤ (((List.length x.1) : Nat) : Int))) ∧
            ∃ r6 : ((List Int) × ((List Int) × Unit)),
            (CallP Try.prog tT (40 : Nat) [(AV.c (Cap.d (Ty.st (Ty.pair (Ty.sl (Ty.int Go.IntKind.i64)) (Ty.pair (Ty.sl (Ty.int Go.IntKind.i64)) Ty.unit))) ((List.take (Int.toNat (Max.max (((List.length a.1) : Nat) : Int) (((List.length b.1) : Nat) : Int))) x.1), ((List.drop (Int.toNat (Max.max (((List.length a.1) : Nat) : Int) (((List.length b.1) : Nat) : Int))) x.1), ()))))] (Ty.st (Ty.pair (Ty.sl (Ty.int Go.IntKind.i64)) (Ty.pair (Ty.sl (Ty.int Go.IntKind.i64)) Ty.unit))) r6 ∧
            ∃ r7 : ((List Int) × ((List Int) × Unit)),
            (CallP Try.prog tT (47 : Nat) [(AV.c (Cap.d (Ty.st (Ty.pair (Ty.sl (Ty.int Go.IntKind.i64)) (Ty.pair (Ty.sl (Ty.int Go.IntKind.i64)) Ty.unit))) r6))] (Ty.st (Ty.pair (Ty.sl (Ty.int Go.IntKind.i64)) (Ty.pair (Ty.sl (Ty.int Go.IntKind.i64)) Ty.unit))) r7 ∧
            (R (r7.1, (r7.2.1, ())))))))))))))))))))))))))))) : CallP Try.prog tT 28 [.d (.st (.pair (.sl (.int .i64)) (.pair (.sl (.int .i64)) .unit))) a, .d (.st (.pair (.sl (.int .i64)) (.pair (.sl (.int .i64)) .unit))) b, .d (.sl (.sl (.int .i64))) table] (.st (.pair (.sl (.int .i64)) (.pair (.sl (.int .i64)) .unit))) r :=
  callP_of (cx := cx28) (d := 6) mixed tab_ok inl_ok Try.func28 ⟨fun _ _ => by kernel_rfl⟩ rfl rfl fun wf => Eq.mpr (by kernel_rfl) (h (fun x => x = r) (fun _ => Iff.rfl) (wf.1 rfl) (wf.2.1 rfl) (wf.2.2.1 rfl))
set_option maxRecDepth 1000000 in
theorem sf28 (a : (Ty.T (.st (.pair (.sl (.int .i64)) (.pair (.sl (.int .i64)) .unit))))) (b : (Ty.T (.st (.pair (.sl (.int .i64)) (.pair (.sl (.int .i64)) .unit))))) (table : (Ty.T (.sl (.sl (.int .i64))))) (r : Ty.T (.st (.pair (.sl (.int .i64)) (.pair (.sl (.int .i64)) .unit)))) (h : ∀ R : Ty.T (.st (.pair (.sl (.int .i64)) (.pair (.sl (.int .i64)) .unit))) → Prop, (∀ x, R x ↔ x = r) → WF (.st (.pair (.sl (.int .i64)) (.pair (.sl (.int .i64)) .unit))) a → WF (.st (.pair (.sl (.int .i64)) (.pair (.sl (.int .i64)) .unit))) b → WF (.sl (.sl (.int .i64))) table → 
    (∃ r : Bool,
    (CallP Try.prog tT (34 : Nat) [(AV.c (Cap.d (Ty.st (Ty.pair (Ty.sl (Ty.int Go.IntKind.i64)) (Ty.pair (Ty.sl (Ty.int Go.IntKind.i64)) Ty.unit))) a))] Ty.bool r ∧
    (∃ r1 : Bool,
    (((r = true) →
      CallP Try.prog tT (34 : Nat) [(AV.c (Cap.d (Ty.st (Ty.pair (Ty.sl (Ty.int Go.IntKind.i64)) (Ty.pair (Ty.sl (Ty.int Go.IntKind.i64)) Ty.unit))) b))] Ty.bool r1) ∧
    ((((r = false) ∨ (r1 = false)) →
      (R (([] : List Int), (([] : List Int), ())))) ∧
    ((r = true) → (r1 = true) →
      (inK Go.IntKind.i64 ((((List.length a.2.1) : Nat) : Int) * (((List.length b.2.1) : Nat) : Int)) ∧
      (∃ r2 : Bool,
      (CallK Try.prog tT (39 : Nat) [(AV.c (Cap.d (Ty.st (Ty.pair (Ty.sl (Ty.int Go.IntKind.i64)) (Ty.pair (Ty.sl (Ty.int Go.IntKind.i64)) Ty.unit))) a))] (51 : Nat) [(Cap.kp (Ty.st (Ty.pair (Ty.sl (Ty.int Go.IntKind.i64)) (Ty.pair (Ty.sl (Ty.int Go.IntKind.i64)) Ty.unit))) a)] ∧
      (inK Go.IntKind.i64 ((Max.max (((List.length a.1) : Nat) : Int) (((List.length b.1) : Nat) : Int)) + ((((List.length a.2.1) : Nat) : Int) * (((List.length b.2.1) : Nat) : Int))) ∧
      (∃ r3 : (List Int),
      (CallP Try.prog tT (38 : Nat) [(AV.fn (51 : Nat) [(Cap.kp (Ty.st (Ty.pair (Ty.sl (Ty.int Go.IntKind.i64)) (Ty.pair (Ty.sl (Ty.int Go.IntKind.i64)) Ty.unit))) a)]), (AV.c (Cap.d (Ty.int Go.IntKind.i64) ((Max.max (((List.length a.1) : Nat) : Int) (((List.length b.1) : Nat) : Int)) + ((((List.length a.2.1) : Nat) : Int) * (((List.length b.2.1) : Nat) : Int)))))] (Ty.sl (Ty.int Go.IntKind.i64)) r3 ∧
      (∃ r4 : Bool,
      (CallK Try.prog tT (39 : Nat) [(AV.c (Cap.d (Ty.st (Ty.pair (Ty.sl (Ty.int Go.IntKind.i64)) (Ty.pair (Ty.sl (Ty.int Go.IntKind.i64)) Ty.unit))) b))] (51 : Nat) [(Cap.kp (Ty.st (Ty.pair (Ty.sl (Ty.int Go.IntKind.i64)) (Ty.pair (Ty.sl (Ty.int Go.IntKind.i64)) Ty.unit))) b)] ∧
      (∃ r5 : (List Int),
      (CallP Try.prog tT (38 : Nat) [(AV.fn (51 : Nat) [(Cap.kp (Ty.st (Ty.pair (Ty.sl (Ty.int Go.IntKind.i64)) (Ty.pair (Ty.sl (Ty.int Go.IntKind.i64)) Ty.unit))) b)]), (AV.c (Cap.d (Ty.int Go.IntKind.i64) ((Max.max (((List.length a.1) : Nat) : Int) (((List.length b.1) : Nat) : Int)) + ((((List.length a.2.1) : Nat) : Int) * (((List.length b.2.1) : Nat) : Int)))))] (Ty.sl (Ty.int Go.IntKind.i64)) r5 ∧
      ((((0 : Int) ≤ ((Max.max (((List.length a.1) : Nat) : Int) (((List.length b.1) : Nat) : Int)) + ((((List.length a.2.1) : Nat) : Int) * (((List.length b.2.1) : Nat) : Int)))) ∧
      ((((Max.max (((List.length a.1) : Nat) : Int) (((List.length b.1) : Nat) : Int)) + ((((List.length a.2.1) : Nat) : Int) * (((List.length b.2.1) : Nat) : Int))) * (((8 : Nat) : Nat) : Int)) ≤ (140737488355328 : Int))) ∧
      (∃ I : (((List Int) × (Int × (((List Int) × ((List Int) × Unit)) × Unit))) → Prop),
      (∃ μ : (((List Int) × (Int × (((List Int) × ((List Int) × Unit)) × Unit))) → Nat),
      ((I ((List.replicate (Int.toNat (0 : Int)) (0 : Int)), ((0 : Int), ((([] : List Int), (([] : List Int), ())), ())))) ∧
      (∀ x : ((List Int) × (Int × (((List Int) × ((List Int) × Unit)) × Unit))),
      ((WF (Ty.sl (Ty.int Go.IntKind.i64)) x.1 ∧
        (WF (Ty.int Go.IntKind.i64) x.2.1 ∧
        (WF (Ty.pair (Ty.sl (Ty.int Go.IntKind.i64)) (Ty.pair (Ty.sl (Ty.int Go.IntKind.i64)) Ty.unit)) x.2.2.1 ∧
        True))) →
        ((I x) →
          (((x.2.1 < (((List.length r3) : Nat) : Int)) →
            (((0 : Int) ≤ x.2.1) ∧
            ((((List.getD r3 (Int.toNat x.2.1) (0 : Int)) < (((List.length table) : Nat) : Int)) →
              (x.2.1 < (((List.length r5) : Nat) : Int))) ∧
            ((((List.getD r3 (Int.toNat x.2.1) (0 : Int)) < (((List.length table) : Nat) : Int)) →
              ((0 : Int) ≤ (List.getD r3 (Int.toNat x.2.1) (0 : Int)))) ∧
            ((((List.getD r3 (Int.toNat x.2.1) (0 : Int)) < (((List.length table) : Nat) : Int)) → ((List.getD r5 (Int.toNat x.2.1) (0 : Int)) < (((List.length (List.getD table (Int.toNat (List.getD r3 (Int.toNat x.2.1) (0 : Int))) ([] : List Int))) : Nat) : Int)) →
              ((0 : Int) ≤ (List.getD r5 (Int.toNat x.2.1) (0 : Int)))) ∧
            (∃ r6 : Bool,
            ((((List.getD r3 (Int.toNat x.2.1) (0 : Int)) < (((List.length table) : Nat) : Int)) → ((List.getD r5 (Int.toNat x.2.1) (0 : Int)) < (((List.length (List.getD table (Int.toNat (List.getD r3 (Int.toNat x.2.1) (0 : Int))) ([] : List Int))) : Nat) : Int)) →
              CallP Try.prog tT (46 : Nat) [(AV.c (Cap.d (Ty.int Go.IntKind.i64) (List.getD (List.getD table (Int.toNat (List.getD r3 (Int.toNat x.2.1) (0 : Int))) ([] : List Int)) (Int.toNat (List.getD r5 (Int.toNat x.2.1) (0 : Int))) (0 : Int))))] Ty.bool r6) ∧
            ((((((((List.length table) : Nat) : Int) ≤ (List.getD r3 (Int.toNat x.2.1) (0 : Int))) ∨ ((((List.length (List.getD table (Int.toNat (List.getD r3 (Int.toNat x.2.1) (0 : Int))) ([] : List Int))) : Nat) : Int) ≤ (List.getD r5 (Int.toNat x.2.1) (0 : Int)))) ∨ (r6 = false)) →
              (R (([] : List Int), (([] : List Int), ())))) ∧
            (((List.getD r3 (Int.toNat x.2.1) (0 : Int)) < (((List.length table) : Nat) : Int)) → ((List.getD r5 (Int.toNat x.2.1) (0 : Int)) < (((List.length (List.getD table (Int.toNat (List.getD r3 (Int.toNat x.2.1) (0 : Int))) ([] : List Int))) : Nat) : Int)) → (r6 = true) →
              (((((((List.length x.1) + (List.length [(List.getD (List.getD table (Int.toNat (List.getD r3 (Int.toNat x.2.1) (0 : Int))) ([] : List Int)) (Int.toNat (List.getD r5 (Int.toNat x.2.1) (0 : Int))) (0 : Int))])) : Nat) : Int) * (((8 : Nat) : Nat) : Int)) ≤ (140737488355328 : Int)) ∧
              (inK Go.IntKind.i64 (x.2.1 + (1 : Int)) ∧
              ((I ((x.1 ++ [(List.getD (List.getD table (Int.toNat (List.getD r3 (Int.toNat x.2.1) (0 : Int))) ([] : List Int)) (Int.toNat (List.getD r5 (Int.toNat x.2.1) (0 : Int))) (0 : Int))]), ((x.2.1 + (1 : Int)), ((x.2.2.1.1, (x.2.2.1.2.1, ())), ())))) ∧
              ((μ ((x.1 ++ [(List.getD (List.getD table (Int.toNat (List.getD r3 (Int.toNat x.2.1) (0 : Int))) ([] : List Int)) (Int.toNat (List.getD r5 (Int.toNat x.2.1) (0 : Int))) (0 : Int))]), ((x.2.1 + (1 : Int)), ((x.2.2.1.1, (x.2.2.1.2.1, ())), ())))) < (μ x)))))))))))))) ∧
          (((((List.length r3) : Nat) : Int) ≤ x.2.1) →
            ((((0 : Int) ≤ (Max.max (((List.length a.1) : Nat) : Int) (((List.length b.1) : Nat) : Int))) ∧
            ((Max.max (((List.length a.1) : Nat) : Int) (((List.length b.1) : Nat) : Int)) ≤ (((List.length x.1) : Nat) : Int))) ∧
            (∃ r6 : ((List Int) × ((List Int) × Unit)),
            (CallP Try.prog tT (40 : Nat) [(AV.c (Cap.d (Ty.st (Ty.pair (Ty.sl (Ty.int Go.IntKind.i64)) (Ty.pair (Ty.sl (Ty.int Go.IntKind.i64)) Ty.unit))) ((List.take (Int.toNat (Max.max (((List.length a.1) : Nat) : Int) (((List.length b.1) : Nat) : Int))) x.1), ((List.drop (Int.toNat (Max.max (((List.length a.1) : Nat) : Int) (((List.length b.1) : Nat) : Int))) x.1), ()))))] (Ty.st (Ty.pair (Ty.sl (Ty.int Go.IntKind.i64)) (Ty.pair (Ty.sl (Ty.int Go.IntKind.i64)) Ty.unit))) r6 ∧
            (∃ r7 : ((List Int) × ((List Int) × Unit)),
            (CallP Try.prog tT (47 : Nat) [(AV.c (Cap.d (Ty.st (Ty.pair (Ty.sl (Ty.int Go.IntKind.i64)) (Ty.pair (Ty.sl (Ty.int Go.IntKind.i64)) Ty.unit))) r6))] (Ty.st (Ty.pair (Ty.sl (Ty.int Go.IntKind.i64)) (Ty.pair (Ty.sl (Ty.int Go.IntKind.i64)) Ty.unit))) r7 ∧
            (R (r7.1, (r7.2.1, ())))))))))))))))))))))))))))))))))) : CallP Try.prog tT 28 [.d (.st (.pair (.sl (.int .i64)) (.pair (.sl (.int .i64)) .unit))) a, .d (.st (.pair (.sl (.int .i64)) (.pair (.sl (.int .i64)) .unit))) b, .d (.sl (.sl (.int .i64))) table] (.st (.pair (.sl (.int .i64)) (.pair (.sl (.int .i64)) .unit))) r :=
  of28 a b table r fun R hR w0_ w1_ w2_ => have p := h R hR w0_ w1_ w2_
    (Exists.elim p fun r q1 => Exists.intro r ⟨q1.1, (Exists.elim q1.2 fun r1 q2 => Exists.intro r1 ⟨(fun h8 => ⟨h8, (q2.1 (bnot_f (bnot_t h8)))⟩), ⟨(fun h12 => h12), ⟨(fun h15 => (bnot_t2 h15)), ⟨(fun h21 => (q2.2.1 (Or.imp (fun h => (bnot_t h)) (fun h => (bnot_t h)) (selB_ot h21)))), (fun h23 => ⟨(q2.2.2 (bnot_f (selB_of h23).1) (bnot_f (selB_of h23).2)).1, (Exists.elim (q2.2.2 (bnot_f (selB_of h23).1) (bnot_f (selB_of h23).2)).2 fun r2 q24 => Exists.intro r2 ⟨q24.1, ⟨q24.2.1, (Exists.elim q24.2.2 fun r3 q25 => Exists.intro r3 ⟨q25.1, (Exists.elim q25.2 fun r4 q26 => Exists.intro r4 ⟨q26.1, ⟨q24.2.1, (Exists.elim q26.2 fun r5 q27 => Exists.intro r5 ⟨q27.1, ⟨q24.2.1, ⟨⟨(Int.le_refl _), ⟨q27.2.1.1, q27.2.1.2⟩⟩, (Exists.elim q27.2.2 fun I q28 => Exists.intro I (Exists.elim q28 fun μ q29 => Exists.intro μ ⟨q29.1, (fun x => (fun h30 => (fun h31 => ⟨(fun h134 => ⟨⟨((((q29.2 x) h30) h31).1 (of_decide_eq_true h134)).1, (of_decide_eq_true h134)⟩, ⟨(fun h140 => ⟨⟨h140, h140⟩, ⟨((((q29.2 x) h30) h31).1 (of_decide_eq_true h134)).1, (((((q29.2 x) h30) h31).1 (of_decide_eq_true h134)).2.1 (Int.not_le.1 (of_decide_eq_false (bnot_t h140))))⟩⟩), ⟨(fun h143 => h143), ⟨(fun h149 => ⟨⟨h149, h149⟩, ⟨(((((q29.2 x) h30) h31).1 (of_decide_eq_true h134)).2.2.1 (Int.not_le.1 (of_decide_eq_false (bnot_t h149)))), (Int.not_le.1 (of_decide_eq_false (bnot_t h149)))⟩⟩), ⟨(fun h159 => h159), ⟨(fun h168 => h168), ⟨(fun h176 => ⟨h176, h176⟩), ⟨(fun h183 => (bnot_t2 h183)), ⟨(fun h189 => ⟨⟨h189, h189⟩, ⟨(((((q29.2 x) h30) h31).1 (of_decide_eq_true h134)).2.2.1 ((Int.not_le.1 (of_decide_eq_false (selB_of (bnot_t h189)).1)))), (Int.not_le.1 (of_decide_eq_false (selB_of (bnot_t h189)).1))⟩⟩), ⟨(fun h194 => h194), ⟨(fun h198 => ⟨⟨h198, h198⟩, ⟨((((q29.2 x) h30) h31).1 (of_decide_eq_true h134)).1, (((((q29.2 x) h30) h31).1 (of_decide_eq_true h134)).2.1 ((Int.not_le.1 (of_decide_eq_false (selB_of (bnot_t h198)).1))))⟩⟩), ⟨(fun h201 => h201), ⟨(fun h207 => ⟨⟨h207, h207⟩, ⟨(((((q29.2 x) h30) h31).1 (of_decide_eq_true h134)).2.2.2.1 (Int.not_le.1 (of_decide_eq_false (selB_of (bnot_t h207)).1)) (Int.not_le.1 (of_decide_eq_false (selB_of (bnot_t h207)).2))), (Int.not_le.1 (of_decide_eq_false (selB_of (bnot_t h207)).2))⟩⟩), ⟨(fun h209 => h209), (Exists.elim ((((q29.2 x) h30) h31).1 (of_decide_eq_true h134)).2.2.2.2 fun r6 q210 => Exists.intro r6 ⟨(fun h216 => ⟨h216, (q210.1 (Int.not_le.1 (of_decide_eq_false (selB_of (bnot_t h216)).1)) (Int.not_le.1 (of_decide_eq_false (selB_of (bnot_t h216)).2)))⟩), ⟨(fun h220 => h220), ⟨(fun h223 => (bnot_t2 h223)), ⟨(fun h229 => (q210.2.1 (Or.imp (fun h => (Or.imp (fun h => (of_decide_eq_true h)) (fun h => (of_decide_eq_true h)) (selB_ot h))) (fun h => (bnot_t h)) (selB_ot h229)))), (fun h231 => ⟨⟨(((((q29.2 x) h30) h31).1 (of_decide_eq_true h134)).2.2.1 ((Int.not_le.1 (of_decide_eq_false (selB_of (selB_of h231).1).1)))), (Int.not_le.1 (of_decide_eq_false (selB_of (selB_of h231).1).1))⟩, ⟨⟨((((q29.2 x) h30) h31).1 (of_decide_eq_true h134)).1, (((((q29.2 x) h30) h31).1 (of_decide_eq_true h134)).2.1 ((Int.not_le.1 (of_decide_eq_false (selB_of (selB_of h231).1).1))))⟩, ⟨⟨(((((q29.2 x) h30) h31).1 (of_decide_eq_true h134)).2.2.2.1 ((Int.not_le.1 (of_decide_eq_false (selB_of (selB_of h231).1).1))) ((Int.not_le.1 (of_decide_eq_false (selB_of (selB_of h231).1).2)))), (Int.not_le.1 (of_decide_eq_false (selB_of (selB_of h231).1).2))⟩, ⟨(q210.2.2 (Int.not_le.1 (of_decide_eq_false (selB_of (selB_of h231).1).1)) (Int.not_le.1 (of_decide_eq_false (selB_of (selB_of h231).1).2)) (bnot_f (selB_of h231).2)).1, ⟨(q210.2.2 (Int.not_le.1 (of_decide_eq_false (selB_of (selB_of h231).1).1)) (Int.not_le.1 (of_decide_eq_false (selB_of (selB_of h231).1).2)) (bnot_f (selB_of h231).2)).2.1, ⟨(q210.2.2 (Int.not_le.1 (of_decide_eq_false (selB_of (selB_of h231).1).1)) (Int.not_le.1 (of_decide_eq_false (selB_of (selB_of h231).1).2)) (bnot_f (selB_of h231).2)).2.2.1, (q210.2.2 (Int.not_le.1 (of_decide_eq_false (selB_of (selB_of h231).1).1)) (Int.not_le.1 (of_decide_eq_false (selB_of (selB_of h231).1).2)) (bnot_f (selB_of h231).2)).2.2.2⟩⟩⟩⟩⟩⟩)⟩⟩⟩⟩)⟩⟩⟩⟩⟩⟩⟩⟩⟩⟩⟩⟩⟩⟩), (fun h233 => ⟨⟨((((q29.2 x) h30) h31).2 (Int.not_lt.1 (of_decide_eq_false h233))).1.1, ((((q29.2 x) h30) h31).2 (Int.not_lt.1 (of_decide_eq_false h233))).1.2⟩, ⟨⟨((((q29.2 x) h30) h31).2 (Int.not_lt.1 (of_decide_eq_false h233))).1.1, ((((q29.2 x) h30) h31).2 (Int.not_lt.1 (of_decide_eq_false h233))).1.2⟩, (Exists.elim ((((q29.2 x) h30) h31).2 (Int.not_lt.1 (of_decide_eq_false h233))).2 fun r6 q234 => Exists.intro r6 ⟨q234.1, (Exists.elim q234.2 fun r7 q235 => Exists.intro r7 ⟨q235.1, q235.2⟩)⟩)⟩⟩)⟩)))⟩))⟩⟩⟩)⟩⟩)⟩)⟩⟩)⟩)⟩⟩⟩⟩)⟩)
/- foresight/foresightref02.Zip -/
def cx29 : Cx := { T := tT, own := ownT, frz := [(290014, 652, [.row 558])], loops := [(290008, 558, ⟨[.own 9 0 3 (.int .i64), .val 10 (.int .i64), .obj 6 [.d (.sl (.int .i64)), .d (.sl (.int .i64))]], 1⟩)], cuts := [], inl := inlT }
set_option maxRecDepth 1000000 in
theorem of29 (a : (Ty.T (.st (.pair (.sl (.int .i64)) (.pair (.sl (.int .i64)) .unit))))) (b : (Ty.T (.st (.pair (.sl (.int .i64)) (.pair (.sl (.int .i64)) .unit))))) (table : (Ty.T (.sl (.sl (.int .i64))))) (r : Ty.T (.st (.pair (.sl (.int .i64)) (.pair (.sl (.int .i64)) .unit)))) (h : ∀ R : Ty.T (.st (.pair (.sl (.int .i64)) (.pair (.sl (.int .i64)) .unit))) → Prop, (∀ x, R x ↔ x = r) → WF (.st (.pair (.sl (.int .i64)) (.pair (.sl (.int .i64)) .unit))) a → WF (.st (.pair (.sl (.int .i64)) (.pair (.sl (.int .i64)) .unit))) b → WF (.sl (.sl (.int .i64))) table → 
    ∃ r : Bool,
    (CallP Try.prog tT (30 : Nat) [(AV.c (Cap.d (Ty.st (Ty.pair (Ty.sl (Ty.int Go.IntKind.i64)) (Ty.pair (Ty.sl (Ty.int Go.IntKind.i64)) Ty.unit))) a))] Ty.bool r ∧
    ∃ r1 : Bool,
    ((((!(!r)) = true) →
      (((!(!r)) = true) ∧
      CallP Try.prog tT (30 : Nat) [(AV.c (Cap.d (Ty.st (Ty.pair (Ty.sl (Ty.int Go.IntKind.i64)) (Ty.pair (Ty.sl (Ty.int Go.IntKind.i64)) Ty.unit))) b))] Ty.bool r1)) ∧
    ((((!(!r)) = true) →
      ((!(!r)) = true)) ∧
    ((((!r) = false) →
      ((!(!r)) = true)) ∧
    ((((selB (!r) true (!r1)) = true) →
      (R (([] : List Int), (([] : List Int), ())))) ∧
    (((selB (!r) true (!r1)) = false) →
      (inK Go.IntKind.i64 ((((List.length a.2.1) : Nat) : Int) * (((List.length b.2.1) : Nat) : Int)) ∧
      ∃ I : (((List Int) × (Int × (((List Int) × ((List Int) × Unit)) × Unit))) → Prop),
      ∃ μ : (((List Int) × (Int × (((List Int) × ((List Int) × Unit)) × Unit))) → Nat),
      ((I (([] : List Int), ((0 : Int), ((([] : List Int), (([] : List Int), ())), ())))) ∧
      ∀ x : ((List Int) × (Int × (((List Int) × ((List Int) × Unit)) × Unit))),
      ((WF (Ty.sl (Ty.int Go.IntKind.i64)) x.1 ∧
        (WF (Ty.int Go.IntKind.i64) x.2.1 ∧
        (WF (Ty.pair (Ty.sl (Ty.int Go.IntKind.i64)) (Ty.pair (Ty.sl (Ty.int Go.IntKind.i64)) Ty.unit)) x.2.2.1 ∧
        True))) →
        ((I x) →
          (inK Go.IntKind.i64 ((Max.max (((List.length a.1) : Nat) : Int) (((List.length b.1) : Nat) : Int)) + ((((List.length a.2.1) : Nat) : Int) * (((List.length b.2.1) : Nat) : Int))) ∧
          ((((decide (x.2.1 < ((Max.max (((List.length a.1) : Nat) : Int) (((List.length b.1) : Nat) : Int)) + ((((List.length a.2.1) : Nat) : Int) * (((List.length b.2.1) : Nat) : Int))))) = true) →
            ∃ r2 : Int,
            (CallP Try.prog tT (37 : Nat) [(AV.c (Cap.d (Ty.st (Ty.pair (Ty.sl (Ty.int Go.IntKind.i64)) (Ty.pair (Ty.sl (Ty.int Go.IntKind.i64)) Ty.unit))) a)), (AV.c (Cap.d (Ty.int Go.IntKind.i64) x.2.1))] (Ty.int Go.IntKind.i64) r2 ∧
            ∃ r3 : Int,
            (CallP Try.prog tT (37 : Nat) [(AV.c (Cap.d (Ty.st (Ty.pair (Ty.sl (Ty.int Go.IntKind.i64)) (Ty.pair (Ty.sl (Ty.int Go.IntKind.i64)) Ty.unit))) b)), (AV.c (Cap.d (Ty.int Go.IntKind.i64) x.2.1))] (Ty.int Go.IntKind.i64) r3 ∧
            ((((!(decide ((((List.length table) : Nat) : Int) ≤ r2))) = true) →
              ((((!(decide ((((List.length table) : Nat) : Int) ≤ r2))) = true) ∧
              ((!(decide ((((List.length table) : Nat) : Int) ≤ r2))) = true)) ∧
              (((0 : Int) ≤ r2) ∧
              (r2 < (((List.length table) : Nat) : Int))))) ∧
            ((((!(decide ((((List.length table) : Nat) : Int) ≤ r2))) = true) →
              ((!(decide ((((List.length table) : Nat) : Int) ≤ r2))) = true)) ∧
            ((((!(decide ((((List.length table) : Nat) : Int) ≤ r2))) = true) →
              ((!(decide ((((List.length table) : Nat) : Int) ≤ r2))) = true)) ∧
            ((((!(decide ((((List.length table) : Nat) : Int) ≤ r2))) = true) →
              (((!(decide ((((List.length table) : Nat) : Int) ≤ r2))) = true) ∧
              ((!(decide ((((List.length table) : Nat) : Int) ≤ r2))) = true))) ∧
            ((((decide ((((List.length table) : Nat) : Int) ≤ r2)) = false) →
              ((!(decide ((((List.length table) : Nat) : Int) ≤ r2))) = true)) ∧
            ((((!(selB (decide ((((List.length table) : Nat) : Int) ≤ r2)) true (decide ((((List.length (List.getD table (Int.toNat r2) ([] : List Int))) : Nat) : Int) ≤ r3)))) = true) →
              ((((!(selB (decide ((((List.length table) : Nat) : Int) ≤ r2)) true (decide ((((List.length (List.getD table (Int.toNat r2) ([] : List Int))) : Nat) : Int) ≤ r3)))) = true) ∧
              ((!(selB (decide ((((List.length table) : Nat) : Int) ≤ r2)) true (decide ((((List.length (List.getD table (Int.toNat r2) ([] : List Int))) : Nat) : Int) ≤ r3)))) = true)) ∧
              (((0 : Int) ≤ r2) ∧
              (r2 < (((List.length table) : Nat) : Int))))) ∧
            ((((!(selB (decide ((((List.length table) : Nat) : Int) ≤ r2)) true (decide ((((List.length (List.getD table (Int.toNat r2) ([] : List Int))) : Nat) : Int) ≤ r3)))) = true) →
              ((!(selB (decide ((((List.length table) : Nat) : Int) ≤ r2)) true (decide ((((List.length (List.getD table (Int.toNat r2) ([] : List Int))) : Nat) : Int) ≤ r3)))) = true)) ∧
            ((((!(selB (decide ((((List.length table) : Nat) : Int) ≤ r2)) true (decide ((((List.length (List.getD table (Int.toNat r2) ([] : List Int))) : Nat) : Int) ≤ r3)))) = true) →
              ((((!(selB (decide ((((List.length table) : Nat) : Int) ≤ r2)) true (decide ((((List.length (List.getD table (Int.toNat r2) ([] : List Int))) : Nat) : Int) ≤ r3)))) = true) ∧
              ((!(selB (decide ((((List.length table) : Nat) : Int) ≤ r2)) true (decide ((((List.length (List.getD table (Int.toNat r2) ([] : List Int))) : Nat) : Int) ≤ r3)))) = true)) ∧
              (((0 : Int) ≤ r3) ∧
              (r3 < (((List.length (List.getD table (Int.toNat r2) ([] : List Int))) : Nat) : Int))))) ∧
            ((((!(selB (decide ((((List.length table) : Nat) : Int) ≤ r2)) true (decide ((((List.length (List.getD table (Int.toNat r2) ([] : List Int))) : Nat) : Int) ≤ r3)))) = true) →
              ((!(selB (decide ((((List.length table) : Nat) : Int) ≤ r2)) true (decide ((((List.length (List.getD table (Int.toNat r2) ([] : List Int))) : Nat) : Int) ≤ r3)))) = true)) ∧
            ∃ r4 : Bool,
            ((((!(selB (decide ((((List.length table) : Nat) : Int) ≤ r2)) true (decide ((((List.length (List.getD table (Int.toNat r2) ([] : List Int))) : Nat) : Int) ≤ r3)))) = true) →
              (((!(selB (decide ((((List.length table) : Nat) : Int) ≤ r2)) true (decide ((((List.length (List.getD table (Int.toNat r2) ([] : List Int))) : Nat) : Int) ≤ r3)))) = true) ∧
              CallP Try.prog tT (48 : Nat) [(AV.c (Cap.d (Ty.int Go.IntKind.i64) (List.getD (List.getD table (Int.toNat r2) ([] : List Int)) (Int.toNat r3) (0 : Int))))] Ty.bool r4)) ∧
            ((((!(selB (decide ((((List.length table) : Nat) : Int) ≤ r2)) true (decide ((((List.length (List.getD table (Int.toNat r2) ([] : List Int))) : Nat) : Int) ≤ r3)))) = true) →
              ((!(selB (decide ((((List.length table) : Nat) : Int) ≤ r2)) true (decide ((((List.length (List.getD table (Int.toNat r2) ([] : List Int))) : Nat) : Int) ≤ r3)))) = true)) ∧
            ((((selB (decide ((((List.length table) : Nat) : Int) ≤ r2)) true (decide ((((List.length (List.getD table (Int.toNat r2) ([] : List Int))) : Nat) : Int) ≤ r3))) = false) →
              ((!(selB (decide ((((List.length table) : Nat) : Int) ≤ r2)) true (decide ((((List.length (List.getD table (Int.toNat r2) ([] : List Int))) : Nat) : Int) ≤ r3)))) = true)) ∧
            ((((selB (selB (decide ((((List.length table) : Nat) : Int) ≤ r2)) true (decide ((((List.length (List.getD table (Int.toNat r2) ([] : List Int))) : Nat) : Int) ≤ r3))) true (!r4)) = true) →
              (R (([] : List Int), (([] : List Int), ())))) ∧
            (((selB (selB (decide ((((List.length table) : Nat) : Int) ≤ r2)) true (decide ((((List.length (List.getD table (Int.toNat r2) ([] : List Int))) : Nat) : Int) ≤ r3))) true (!r4)) = false) →
              ((((0 : Int) ≤ r2) ∧
              (r2 < (((List.length table) : Nat) : Int))) ∧
              ((((0 : Int) ≤ r3) ∧
              (r3 < (((List.length (List.getD table (Int.toNat r2) ([] : List Int))) : Nat) : Int))) ∧
              (((((((List.length x.1) + (List.length [(List.getD (List.getD table (Int.toNat r2) ([] : List Int)) (Int.toNat r3) (0 : Int))])) : Nat) : Int) * (((8 : Nat) : Nat) : Int)) ≤ (140737488355328 : Int)) ∧
              (inK Go.IntKind.i64 (x.2.1 + (1 : Int)) ∧
              ((I ((x.1 ++ [(List.getD (List.getD table (Int.toNat r2) ([] : List Int)) (Int.toNat r3) (0 : Int))]), ((x.2.1 + (1 : Int)), ((x.2.2.1.1, (x.2.2.1.2.1, ())), ())))) ∧
              ((μ ((x.1 ++ [(List.getD (List.getD table (Int.toNat r2) ([] : List Int)) (Int.toNat r3) (0 : Int))]), ((x.2.1 + (1 : Int)), ((x.2.2.1.1, (x.2.2.1.2.1, ())), ())))) < (μ x)))))))))))))))))))))))) ∧
          (((decide (x.2.1 < ((Max.max (((List.length a.1) : Nat) : Int) (((List.length b.1) : Nat) : Int)) + ((((List.length a.2.1) : Nat) : Int) * (((List.length b.2.1) : Nat) : Int))))) = false) →
            ((((0 : Int) ≤ (Max.max (((List.length a.1) : Nat) : Int) (((List.length b.1) : Nat) : Int))) ∧
            ((Max.max (((List.length a.1) : Nat) : Int) (((List.length b.1) : Nat) : Int)) ≤ (((List.length x.1) : Nat) : Int))) ∧
            ((((0 : Int) ≤ (Max.max (((List.length a.1) : Nat) : Int) (((List.length b.1) : Nat) : Int))) ∧
            ((Max.max (((List.length a.1) : Nat) : Int) (((List.length b.1) : Nat) : Int)) ≤ (((List.length x.1) : Nat) : Int))) ∧
            ∃ r2 : ((List Int) × ((List Int) × Unit)),
            (CallP Try.prog tT (41 : Nat) [(AV.c (Cap.d (Ty.st (Ty.pair (Ty.sl (Ty.int Go.IntKind.i64)) (Ty.pair (Ty.sl (Ty.int Go.IntKind.i64)) Ty.unit))) ((List.take (Int.toNat (Max.max (((List.length a.1) : Nat) : Int) (((List.length b.1) : Nat) : Int))) x.1), ((List.drop (Int.toNat (Max.max (((List.length a.1) : Nat) : Int) (((List.length b.1) : Nat) : Int))) x.1), ()))))] (Ty.st (Ty.pair (Ty.sl (Ty.int Go.IntKind.i64)) (Ty.pair (Ty.sl (Ty.int Go.IntKind.i64)) Ty.unit))) r2 ∧
            ∃ r3 : ((List Int) × ((List Int) × Unit)),
            (CallP Try.prog tT (49 : Nat) [(AV.c (Cap.d (Ty.st (Ty.pair (Ty.sl (Ty.int Go.IntKind.i64)) (Ty.pair (Ty.sl (Ty.int Go.IntKind.i64)) Ty.unit))) r2))] (Ty.st (Ty.pair (Ty.sl (Ty.int Go.IntKind.i64)) (Ty.pair (Ty.sl (Ty.int Go.IntKind.i64)) Ty.unit))) r3 ∧
            (R (r3.1, (r3.2.1, ()))))))))))))))))))))) : CallP Try.prog tT 29 [.d (.st (.pair (.sl (.int .i64)) (.pair (.sl (.int .i64)) .unit))) a, .d (.st (.pair (.sl (.int .i64)) (.pair (.sl (.int .i64)) .unit))) b, .d (.sl (.sl (.int .i64))) table] (.st (.pair (.sl (.int .i64)) (.pair (.sl (.int .i64)) .unit))) r :=
  callP_of (cx := cx29) (d := 6) mixed tab_ok inl_ok Try.func29 ⟨fun _ _ => by kernel_rfl⟩ rfl rfl fun wf => Eq.mpr (by kernel_rfl) (h (fun x => x = r) (fun _ => Iff.rfl) (wf.1 rfl) (wf.2.1 rfl) (wf.2.2.1 rfl))
set_option maxRecDepth 1000000 in
theorem sf29 (a : (Ty.T (.st (.pair (.sl (.int .i64)) (.pair (.sl (.int .i64)) .unit))))) (b : (Ty.T (.st (.pair (.sl (.int .i64)) (.pair (.sl (.int .i64)) .unit))))) (table : (Ty.T (.sl (.sl (.int .i64))))) (r : Ty.T (.st (.pair (.sl (.int .i64)) (.pair (.sl (.int .i64)) .unit)))) (h : ∀ R : Ty.T (.st (.pair (.sl (.int .i64)) (.pair (.sl (.int .i64)) .unit))) → Prop, (∀ x, R x ↔ x = r) → WF (.st (.pair (.sl (.int .i64)) (.pair (.sl (.int .i64)) .unit))) a → WF (.st (.pair (.sl (.int .i64)) (.pair (.sl (.int .i64)) .unit))) b → WF (.sl (.sl (.int .i64))) table → 
    (∃ r : Bool,
    (CallP Try.prog tT (30 : Nat) [(AV.c (Cap.d (Ty.st (Ty.pair (Ty.sl (Ty.int Go.IntKind.i64)) (Ty.pair (Ty.sl (Ty.int Go.IntKind.i64)) Ty.unit))) a))] Ty.bool r ∧
    (∃ r1 : Bool,
    (((r = true) →
      CallP Try.prog tT (30 : Nat) [(AV.c (Cap.d (Ty.st (Ty.pair (Ty.sl (Ty.int Go.IntKind.i64)) (Ty.pair (Ty.sl (Ty.int Go.IntKind.i64)) Ty.unit))) b))] Ty.bool r1) ∧
    ((((r = false) ∨ (r1 = false)) →
      (R (([] : List Int), (([] : List Int), ())))) ∧
    ((r = true) → (r1 = true) →
      (inK Go.IntKind.i64 ((((List.length a.2.1) : Nat) : Int) * (((List.length b.2.1) : Nat) : Int)) ∧
      (∃ I : (((List Int) × (Int × (((List Int) × ((List Int) × Unit)) × Unit))) → Prop),
      (∃ μ : (((List Int) × (Int × (((List Int) × ((List Int) × Unit)) × Unit))) → Nat),
      ((I (([] : List Int), ((0 : Int), ((([] : List Int), (([] : List Int), ())), ())))) ∧
      (∀ x : ((List Int) × (Int × (((List Int) × ((List Int) × Unit)) × Unit))),
      ((WF (Ty.sl (Ty.int Go.IntKind.i64)) x.1 ∧
        (WF (Ty.int Go.IntKind.i64) x.2.1 ∧
        (WF (Ty.pair (Ty.sl (Ty.int Go.IntKind.i64)) (Ty.pair (Ty.sl (Ty.int Go.IntKind.i64)) Ty.unit)) x.2.2.1 ∧
        True))) →
        ((I x) →
          (inK Go.IntKind.i64 ((Max.max (((List.length a.1) : Nat) : Int) (((List.length b.1) : Nat) : Int)) + ((((List.length a.2.1) : Nat) : Int) * (((List.length b.2.1) : Nat) : Int))) ∧
          (((x.2.1 < ((Max.max (((List.length a.1) : Nat) : Int) (((List.length b.1) : Nat) : Int)) + ((((List.length a.2.1) : Nat) : Int) * (((List.length b.2.1) : Nat) : Int)))) →
            (∃ r2 : Int,
            (CallP Try.prog tT (37 : Nat) [(AV.c (Cap.d (Ty.st (Ty.pair (Ty.sl (Ty.int Go.IntKind.i64)) (Ty.pair (Ty.sl (Ty.int Go.IntKind.i64)) Ty.unit))) a)), (AV.c (Cap.d (Ty.int Go.IntKind.i64) x.2.1))] (Ty.int Go.IntKind.i64) r2 ∧
            (∃ r3 : Int,
            (CallP Try.prog tT (37 : Nat) [(AV.c (Cap.d (Ty.st (Ty.pair (Ty.sl (Ty.int Go.IntKind.i64)) (Ty.pair (Ty.sl (Ty.int Go.IntKind.i64)) Ty.unit))) b)), (AV.c (Cap.d (Ty.int Go.IntKind.i64) x.2.1))] (Ty.int Go.IntKind.i64) r3 ∧
            (((r2 < (((List.length table) : Nat) : Int)) →
              ((0 : Int) ≤ r2)) ∧
            (((r2 < (((List.length table) : Nat) : Int)) → (r3 < (((List.length (List.getD table (Int.toNat r2) ([] : List Int))) : Nat) : Int)) →
              ((0 : Int) ≤ r3)) ∧
            (∃ r4 : Bool,
            (((r2 < (((List.length table) : Nat) : Int)) → (r3 < (((List.length (List.getD table (Int.toNat r2) ([] : List Int))) : Nat) : Int)) →
              CallP Try.prog tT (48 : Nat) [(AV.c (Cap.d (Ty.int Go.IntKind.i64) (List.getD (List.getD table (Int.toNat r2) ([] : List Int)) (Int.toNat r3) (0 : Int))))] Ty.bool r4) ∧
            ((((((((List.length table) : Nat) : Int) ≤ r2) ∨ ((((List.length (List.getD table (Int.toNat r2) ([] : List Int))) : Nat) : Int) ≤ r3)) ∨ (r4 = false)) →
              (R (([] : List Int), (([] : List Int), ())))) ∧
            ((r2 < (((List.length table) : Nat) : Int)) → (r3 < (((List.length (List.getD table (Int.toNat r2) ([] : List Int))) : Nat) : Int)) → (r4 = true) →
              (((((((List.length x.1) + (List.length [(List.getD (List.getD table (Int.toNat r2) ([] : List Int)) (Int.toNat r3) (0 : Int))])) : Nat) : Int) * (((8 : Nat) : Nat) : Int)) ≤ (140737488355328 : Int)) ∧
              (inK Go.IntKind.i64 (x.2.1 + (1 : Int)) ∧
              ((I ((x.1 ++ [(List.getD (List.getD table (Int.toNat r2) ([] : List Int)) (Int.toNat r3) (0 : Int))]), ((x.2.1 + (1 : Int)), ((x.2.2.1.1, (x.2.2.1.2.1, ())), ())))) ∧
              ((μ ((x.1 ++ [(List.getD (List.getD table (Int.toNat r2) ([] : List Int)) (Int.toNat r3) (0 : Int))]), ((x.2.1 + (1 : Int)), ((x.2.2.1.1, (x.2.2.1.2.1, ())), ())))) < (μ x)))))))))))))))) ∧
          ((((Max.max (((List.length a.1) : Nat) : Int) (((List.length b.1) : Nat) : Int)) + ((((List.length a.2.1) : Nat) : Int) * (((List.length b.2.1) : Nat) : Int))) ≤ x.2.1) →
            ((((0 : Int) ≤ (Max.max (((List.length a.1) : Nat) : Int) (((List.length b.1) : Nat) : Int))) ∧
            ((Max.max (((List.length a.1) : Nat) : Int) (((List.length b.1) : Nat) : Int)) ≤ (((List.length x.1) : Nat) : Int))) ∧
            (∃ r2 : ((List Int) × ((List Int) × Unit)),
            (CallP Try.prog tT (41 : Nat) [(AV.c (Cap.d (Ty.st (Ty.pair (Ty.sl (Ty.int Go.IntKind.i64)) (Ty.pair (Ty.sl (Ty.int Go.IntKind.i64)) Ty.unit))) ((List.take (Int.toNat (Max.max (((List.length a.1) : Nat) : Int) (((List.length b.1) : Nat) : Int))) x.1), ((List.drop (Int.toNat (Max.max (((List.length a.1) : Nat) : Int) (((List.length b.1) : Nat) : Int))) x.1), ()))))] (Ty.st (Ty.pair (Ty.sl (Ty.int Go.IntKind.i64)) (Ty.pair (Ty.sl (Ty.int Go.IntKind.i64)) Ty.unit))) r2 ∧
            (∃ r3 : ((List Int) × ((List Int) × Unit)),
            (CallP Try.prog tT (49 : Nat) [(AV.c (Cap.d (Ty.st (Ty.pair (Ty.sl (Ty.int Go.IntKind.i64)) (Ty.pair (Ty.sl (Ty.int Go.IntKind.i64)) Ty.unit))) r2))] (Ty.st (Ty.pair (Ty.sl (Ty.int Go.IntKind.i64)) (Ty.pair (Ty.sl (Ty.int Go.IntKind.i64)) Ty.unit))) r3 ∧
            (R (r3.1, (r3.2.1, ()))))))))))))))))))))))))) : CallP Try.prog tT 29 [.d (.st (.pair (.sl (.int .i64)) (.pair (.sl (.int .i64)) .unit))) a, .d (.st (.pair (.sl (.int .i64)) (.pair (.sl (.int .i64)) .unit))) b, .d (.sl (.sl (.int .i64))) table] (.st (.pair (.sl (.int .i64)) (.pair (.sl (.int .i64)) .unit))) r :=
  of29 a b table r fun R hR w0_ w1_ w2_ => have p := h R hR w0_ w1_ w2_
    (Exists.elim p fun r q1 => Exists.intro r ⟨q1.1, (Exists.elim q1.2 fun r1 q2 => Exists.intro r1 ⟨(fun h8 => ⟨h8, (q2.1 (bnot_f (bnot_t h8)))⟩), ⟨(fun h12 => h12), ⟨(fun h15 => (bnot_t2 h15)), ⟨(fun h21 => (q2.2.1 (Or.imp (fun h => (bnot_t h)) (fun h => (bnot_t h)) (selB_ot h21)))), (fun h23 => ⟨(q2.2.2 (bnot_f (selB_of h23).1) (bnot_f (selB_of h23).2)).1, (Exists.elim (q2.2.2 (bnot_f (selB_of h23).1) (bnot_f (selB_of h23).2)).2 fun I q24 => Exists.intro I (Exists.elim q24 fun μ q25 => Exists.intro μ ⟨q25.1, (fun x => (fun h26 => (fun h27 => ⟨(((q25.2 x) h26) h27).1, ⟨(fun h104 => (Exists.elim ((((q25.2 x) h26) h27).2.1 (of_decide_eq_true h104)) fun r2 q105 => Exists.intro r2 ⟨q105.1, (Exists.elim q105.2 fun r3 q106 => Exists.intro r3 ⟨q106.1, ⟨(fun h112 => ⟨⟨h112, h112⟩, ⟨(q106.2.1 (Int.not_le.1 (of_decide_eq_false (bnot_t h112)))), (Int.not_le.1 (of_decide_eq_false (bnot_t h112)))⟩⟩), ⟨(fun h120 => h120), ⟨(fun h127 => h127), ⟨(fun h133 => ⟨h133, h133⟩), ⟨(fun h138 => (bnot_t2 h138)), ⟨(fun h142 => ⟨⟨h142, h142⟩, ⟨(q106.2.1 ((Int.not_le.1 (of_decide_eq_false (selB_of (bnot_t h142)).1)))), (Int.not_le.1 (of_decide_eq_false (selB_of (bnot_t h142)).1))⟩⟩), ⟨(fun h145 => h145), ⟨(fun h151 => ⟨⟨h151, h151⟩, ⟨(q106.2.2.1 (Int.not_le.1 (of_decide_eq_false (selB_of (bnot_t h151)).1)) (Int.not_le.1 (of_decide_eq_false (selB_of (bnot_t h151)).2))), (Int.not_le.1 (of_decide_eq_false (selB_of (bnot_t h151)).2))⟩⟩), ⟨(fun h153 => h153), (Exists.elim q106.2.2.2 fun r4 q154 => Exists.intro r4 ⟨(fun h160 => ⟨h160, (q154.1 (Int.not_le.1 (of_decide_eq_false (selB_of (bnot_t h160)).1)) (Int.not_le.1 (of_decide_eq_false (selB_of (bnot_t h160)).2)))⟩), ⟨(fun h164 => h164), ⟨(fun h167 => (bnot_t2 h167)), ⟨(fun h173 => (q154.2.1 (Or.imp (fun h => (Or.imp (fun h => (of_decide_eq_true h)) (fun h => (of_decide_eq_true h)) (selB_ot h))) (fun h => (bnot_t h)) (selB_ot h173)))), (fun h175 => ⟨⟨(q106.2.1 ((Int.not_le.1 (of_decide_eq_false (selB_of (selB_of h175).1).1)))), (Int.not_le.1 (of_decide_eq_false (selB_of (selB_of h175).1).1))⟩, ⟨⟨(q106.2.2.1 ((Int.not_le.1 (of_decide_eq_false (selB_of (selB_of h175).1).1))) ((Int.not_le.1 (of_decide_eq_false (selB_of (selB_of h175).1).2)))), (Int.not_le.1 (of_decide_eq_false (selB_of (selB_of h175).1).2))⟩, ⟨(q154.2.2 (Int.not_le.1 (of_decide_eq_false (selB_of (selB_of h175).1).1)) (Int.not_le.1 (of_decide_eq_false (selB_of (selB_of h175).1).2)) (bnot_f (selB_of h175).2)).1, ⟨(q154.2.2 (Int.not_le.1 (of_decide_eq_false (selB_of (selB_of h175).1).1)) (Int.not_le.1 (of_decide_eq_false (selB_of (selB_of h175).1).2)) (bnot_f (selB_of h175).2)).2.1, ⟨(q154.2.2 (Int.not_le.1 (of_decide_eq_false (selB_of (selB_of h175).1).1)) (Int.not_le.1 (of_decide_eq_false (selB_of (selB_of h175).1).2)) (bnot_f (selB_of h175).2)).2.2.1, (q154.2.2 (Int.not_le.1 (of_decide_eq_false (selB_of (selB_of h175).1).1)) (Int.not_le.1 (of_decide_eq_false (selB_of (selB_of h175).1).2)) (bnot_f (selB_of h175).2)).2.2.2⟩⟩⟩⟩⟩)⟩⟩⟩⟩)⟩⟩⟩⟩⟩⟩⟩⟩⟩⟩)⟩)), (fun h177 => ⟨⟨((((q25.2 x) h26) h27).2.2 (Int.not_lt.1 (of_decide_eq_false h177))).1.1, ((((q25.2 x) h26) h27).2.2 (Int.not_lt.1 (of_decide_eq_false h177))).1.2⟩, ⟨⟨((((q25.2 x) h26) h27).2.2 (Int.not_lt.1 (of_decide_eq_false h177))).1.1, ((((q25.2 x) h26) h27).2.2 (Int.not_lt.1 (of_decide_eq_false h177))).1.2⟩, (Exists.elim ((((q25.2 x) h26) h27).2.2 (Int.not_lt.1 (of_decide_eq_false h177))).2 fun r2 q178 => Exists.intro r2 ⟨q178.1, (Exists.elim q178.2 fun r3 q179 => Exists.intro r3 ⟨q179.1, q179.2⟩)⟩)⟩⟩)⟩⟩)))⟩))⟩)⟩⟩⟩⟩)⟩)
/- foresight/foresightref02.Formed -/
def cx30 : Cx := { T := tT, own := ownT, frz := [], loops := [(300005, 159, ⟨[.val 3 (.int .i64)], 0⟩), (300011, 265, ⟨[.val 5 (.int .i64)], 0⟩)], cuts := [], inl := inlT }
set_option maxRecDepth 1000000 in
theorem of30 (w : (Ty.T (.st (.pair (.sl (.int .i64)) (.pair (.sl (.int .i64)) .unit))))) (r : Ty.T .bool) (h : ∀ R : Ty.T .bool → Prop, (∀ x, R x ↔ x = r) → WF (.st (.pair (.sl (.int .i64)) (.pair (.sl (.int .i64)) .unit))) w → 
    ((((!(decide ((60 : Int) < (((List.length w.1) : Nat) : Int)))) = true) →
      ((!(decide ((60 : Int) < (((List.length w.1) : Nat) : Int)))) = true)) ∧
    ((((!(decide ((60 : Int) < (((List.length w.1) : Nat) : Int)))) = true) →
      ((!(decide ((60 : Int) < (((List.length w.1) : Nat) : Int)))) = true)) ∧
    ((((!(decide ((60 : Int) < (((List.length w.1) : Nat) : Int)))) = true) →
      ((!(decide ((60 : Int) < (((List.length w.1) : Nat) : Int)))) = true)) ∧
    ((((decide ((60 : Int) < (((List.length w.1) : Nat) : Int))) = false) →
      ((!(decide ((60 : Int) < (((List.length w.1) : Nat) : Int)))) = true)) ∧
    ((((!(selB (decide ((60 : Int) < (((List.length w.1) : Nat) : Int))) true (decide ((((List.length w.2.1) : Nat) : Int) < (1 : Int))))) = true) →
      ((!(selB (decide ((60 : Int) < (((List.length w.1) : Nat) : Int))) true (decide ((((List.length w.2.1) : Nat) : Int) < (1 : Int))))) = true)) ∧
    ((((!(selB (decide ((60 : Int) < (((List.length w.1) : Nat) : Int))) true (decide ((((List.length w.2.1) : Nat) : Int) < (1 : Int))))) = true) →
      ((!(selB (decide ((60 : Int) < (((List.length w.1) : Nat) : Int))) true (decide ((((List.length w.2.1) : Nat) : Int) < (1 : Int))))) = true)) ∧
    ((((!(selB (decide ((60 : Int) < (((List.length w.1) : Nat) : Int))) true (decide ((((List.length w.2.1) : Nat) : Int) < (1 : Int))))) = true) →
      ((!(selB (decide ((60 : Int) < (((List.length w.1) : Nat) : Int))) true (decide ((((List.length w.2.1) : Nat) : Int) < (1 : Int))))) = true)) ∧
    ((((selB (decide ((60 : Int) < (((List.length w.1) : Nat) : Int))) true (decide ((((List.length w.2.1) : Nat) : Int) < (1 : Int)))) = false) →
      ((!(selB (decide ((60 : Int) < (((List.length w.1) : Nat) : Int))) true (decide ((((List.length w.2.1) : Nat) : Int) < (1 : Int))))) = true)) ∧
    ((((selB (selB (decide ((60 : Int) < (((List.length w.1) : Nat) : Int))) true (decide ((((List.length w.2.1) : Nat) : Int) < (1 : Int)))) true (decide ((40 : Int) < (((List.length w.2.1) : Nat) : Int)))) = true) →
      (R false)) ∧
    (((selB (selB (decide ((60 : Int) < (((List.length w.1) : Nat) : Int))) true (decide ((((List.length w.2.1) : Nat) : Int) < (1 : Int)))) true (decide ((40 : Int) < (((List.length w.2.1) : Nat) : Int)))) = false) →
      ∃ I : ((Int × Unit) → Prop),
      ∃ μ : ((Int × Unit) → Nat),
      ((I ((0 : Int), ())) ∧
      ∀ x : (Int × Unit),
      ((WF (Ty.int Go.IntKind.i64) x.1 ∧
        True) →
        ((I x) →
          ((((decide (x.1 < (((List.length w.1) : Nat) : Int))) = true) →
            ((((0 : Int) ≤ x.1) ∧
            (x.1 < (((List.length w.1) : Nat) : Int))) ∧
            ∃ r : Bool,
            (CallP Try.prog tT (48 : Nat) [(AV.c (Cap.d (Ty.int Go.IntKind.i64) (List.getD w.1 (Int.toNat x.1) (0 : Int))))] Ty.bool r ∧
            ((((!r) = true) →
              (R false)) ∧
            (((!r) = false) →
              (inK Go.IntKind.i64 (x.1 + (1 : Int)) ∧
              ((I ((x.1 + (1 : Int)), ())) ∧
              ((μ ((x.1 + (1 : Int)), ())) < (μ x))))))))) ∧
          (((decide (x.1 < (((List.length w.1) : Nat) : Int))) = false) →
            ∃ I1 : ((Int × Unit) → Prop),
            ∃ μ1 : ((Int × Unit) → Nat),
            ((I1 ((0 : Int), ())) ∧
            ∀ x1 : (Int × Unit),
            ((WF (Ty.int Go.IntKind.i64) x1.1 ∧
              True) →
              ((I1 x1) →
                ((((decide (x1.1 < (((List.length w.2.1) : Nat) : Int))) = true) →
                  ((((0 : Int) ≤ x1.1) ∧
                  (x1.1 < (((List.length w.2.1) : Nat) : Int))) ∧
                  ∃ r : Bool,
                  (CallP Try.prog tT (48 : Nat) [(AV.c (Cap.d (Ty.int Go.IntKind.i64) (List.getD w.2.1 (Int.toNat x1.1) (0 : Int))))] Ty.bool r ∧
                  ((((!r) = true) →
                    (R false)) ∧
                  (((!r) = false) →
                    (inK Go.IntKind.i64 (x1.1 + (1 : Int)) ∧
                    ((I1 ((x1.1 + (1 : Int)), ())) ∧
                    ((μ1 ((x1.1 + (1 : Int)), ())) < (μ1 x1))))))))) ∧
                (((decide (x1.1 < (((List.length w.2.1) : Nat) : Int))) = false) →
                  (R true)))))))))))))))))))))) : CallP Try.prog tT 30 [.d (.st (.pair (.sl (.int .i64)) (.pair (.sl (.int .i64)) .unit))) w] .bool r :=
  callP_of (cx := cx30) (d := 6) mixed tab_ok inl_ok Try.func30 ⟨fun _ _ => by kernel_rfl⟩ rfl rfl fun wf => Eq.mpr (by kernel_rfl) (h (fun x => x = r) (fun _ => Iff.rfl) (wf.1 rfl))
set_option maxRecDepth 1000000 in
theorem sf30 (w : (Ty.T (.st (.pair (.sl (.int .i64)) (.pair (.sl (.int .i64)) .unit))))) (r : Ty.T .bool) (h : ∀ R : Ty.T .bool → Prop, (∀ x, R x ↔ x = r) → WF (.st (.pair (.sl (.int .i64)) (.pair (.sl (.int .i64)) .unit))) w → 
    ((((((60 : Int) < (((List.length w.1) : Nat) : Int)) ∨ ((((List.length w.2.1) : Nat) : Int) < (1 : Int))) ∨ ((40 : Int) < (((List.length w.2.1) : Nat) : Int))) →
      (R false)) ∧
    (((((List.length w.1) : Nat) : Int) ≤ (60 : Int)) → ((1 : Int) ≤ (((List.length w.2.1) : Nat) : Int)) → ((((List.length w.2.1) : Nat) : Int) ≤ (40 : Int)) →
      (∃ I : ((Int × Unit) → Prop),
      (∃ μ : ((Int × Unit) → Nat),
      ((I ((0 : Int), ())) ∧
      (∀ x : (Int × Unit),
      ((WF (Ty.int Go.IntKind.i64) x.1 ∧
        True) →
        ((I x) →
          (((x.1 < (((List.length w.1) : Nat) : Int)) →
            (((0 : Int) ≤ x.1) ∧
            (∃ r : Bool,
            (CallP Try.prog tT (48 : Nat) [(AV.c (Cap.d (Ty.int Go.IntKind.i64) (List.getD w.1 (Int.toNat x.1) (0 : Int))))] Ty.bool r ∧
            (((r = false) →
              (R false)) ∧
            ((r = true) →
              (inK Go.IntKind.i64 (x.1 + (1 : Int)) ∧
              ((I ((x.1 + (1 : Int)), ())) ∧
              ((μ ((x.1 + (1 : Int)), ())) < (μ x)))))))))) ∧
          (((((List.length w.1) : Nat) : Int) ≤ x.1) →
            (∃ I1 : ((Int × Unit) → Prop),
            (∃ μ1 : ((Int × Unit) → Nat),
            ((I1 ((0 : Int), ())) ∧
            (∀ x1 : (Int × Unit),
            ((WF (Ty.int Go.IntKind.i64) x1.1 ∧
              True) →
              ((I1 x1) →
                (((x1.1 < (((List.length w.2.1) : Nat) : Int)) →
                  (((0 : Int) ≤ x1.1) ∧
                  (∃ r : Bool,
                  (CallP Try.prog tT (48 : Nat) [(AV.c (Cap.d (Ty.int Go.IntKind.i64) (List.getD w.2.1 (Int.toNat x1.1) (0 : Int))))] Ty.bool r ∧
                  (((r = false) →
                    (R false)) ∧
                  ((r = true) →
                    (inK Go.IntKind.i64 (x1.1 + (1 : Int)) ∧
                    ((I1 ((x1.1 + (1 : Int)), ())) ∧
                    ((μ1 ((x1.1 + (1 : Int)), ())) < (μ1 x1)))))))))) ∧
                (((((List.length w.2.1) : Nat) : Int) ≤ x1.1) →
                  (R true)))))))))))))))))))) : CallP Try.prog tT 30 [.d (.st (.pair (.sl (.int .i64)) (.pair (.sl (.int .i64)) .unit))) w] .bool r :=
  of30 w r fun R hR w0_ => have p := h R hR w0_
    ⟨(fun h10 => h10), ⟨(fun h19 => h19), ⟨(fun h27 => h27), ⟨(fun h34 => (bnot_t2 h34)), ⟨(fun h40 => h40), ⟨(fun h45 => h45), ⟨(fun h49 => h49), ⟨(fun h52 => (bnot_t2 h52)), ⟨(fun h58 => (p.1 (Or.imp (fun h => (Or.imp (fun h => (of_decide_eq_true h)) (fun h => (of_decide_eq_true h)) (selB_ot h))) (fun h => (of_decide_eq_true h)) (selB_ot h58)))), (fun h60 => (Exists.elim (p.2 (Int.not_lt.1 (of_decide_eq_false (selB_of (selB_of h60).1).1)) (Int.not_lt.1 (of_decide_eq_false (selB_of (selB_of h60).1).2)) (Int.not_lt.1 (of_decide_eq_false (selB_of h60).2))) fun I q61 => Exists.intro I (Exists.elim q61 fun μ q62 => Exists.intro μ ⟨q62.1, (fun x => (fun h63 => (fun h64 => ⟨(fun h79 => ⟨⟨((((q62.2 x) h63) h64).1 (of_decide_eq_true h79)).1, (of_decide_eq_true h79)⟩, (Exists.elim ((((q62.2 x) h63) h64).1 (of_decide_eq_true h79)).2 fun r q80 => Exists.intro r ⟨q80.1, ⟨(fun h86 => (q80.2.1 (bnot_t h86))), (fun h88 => ⟨(q80.2.2 (bnot_f h88)).1, ⟨(q80.2.2 (bnot_f h88)).2.1, (q80.2.2 (bnot_f h88)).2.2⟩⟩)⟩⟩)⟩), (fun h90 => (Exists.elim ((((q62.2 x) h63) h64).2 (Int.not_lt.1 (of_decide_eq_false h90))) fun I1 q91 => Exists.intro I1 (Exists.elim q91 fun μ1 q92 => Exists.intro μ1 ⟨q92.1, (fun x1 => (fun h93 => (fun h94 => ⟨(fun h109 => ⟨⟨((((q92.2 x1) h93) h94).1 (of_decide_eq_true h109)).1, (of_decide_eq_true h109)⟩, (Exists.elim ((((q92.2 x1) h93) h94).1 (of_decide_eq_true h109)).2 fun r q110 => Exists.intro r ⟨q110.1, ⟨(fun h116 => (q110.2.1 (bnot_t h116))), (fun h118 => ⟨(q110.2.2 (bnot_f h118)).1, ⟨(q110.2.2 (bnot_f h118)).2.1, (q110.2.2 (bnot_f h118)).2.2⟩⟩)⟩⟩)⟩), (fun h120 => ((((q92.2 x1) h93) h94).2 (Int.not_lt.1 (of_decide_eq_false h120))))⟩)))⟩)))⟩)))⟩)))⟩⟩⟩⟩⟩⟩⟩⟩⟩
/- foresight/foresightlaw02.agree -/
def cx31 : Cx := { T := tT, own := ownT, frz := [], loops := [(310003, 40, ⟨[.val 7 (.int .i64)], 0⟩)], cuts := [], inl := inlT }
set_option maxRecDepth 1000000 in
theorem of31 (a : (Ty.T (.st (.pair (.sl (.int .i64)) (.pair (.sl (.int .i64)) .unit))))) (b : (Ty.T (.st (.pair (.sl (.int .i64)) (.pair (.sl (.int .i64)) .unit))))) (n : (Ty.T (.int .i64))) (r : Ty.T .bool) (h : ∀ R : Ty.T .bool → Prop, (∀ x, R x ↔ x = r) → WF (.st (.pair (.sl (.int .i64)) (.pair (.sl (.int .i64)) .unit))) a → WF (.st (.pair (.sl (.int .i64)) (.pair (.sl (.int .i64)) .unit))) b → WF (.int .i64) n → 
    ∃ I : ((Int × Unit) → Prop),
    ∃ μ : ((Int × Unit) → Nat),
    ((I ((0 : Int), ())) ∧
    ∀ x : (Int × Unit),
    ((WF (Ty.int Go.IntKind.i64) x.1 ∧
      True) →
      ((I x) →
        ((((decide (x.1 < n)) = true) →
          ∃ r : Int,
          (CallP Try.prog tT (14 : Nat) [(AV.c (Cap.d (Ty.st (Ty.pair (Ty.sl (Ty.int Go.IntKind.i64)) (Ty.pair (Ty.sl (Ty.int Go.IntKind.i64)) Ty.unit))) a)), (AV.c (Cap.d (Ty.int Go.IntKind.i64) x.1))] (Ty.int Go.IntKind.i64) r ∧
          ∃ r1 : Int,
          (CallP Try.prog tT (14 : Nat) [(AV.c (Cap.d (Ty.st (Ty.pair (Ty.sl (Ty.int Go.IntKind.i64)) (Ty.pair (Ty.sl (Ty.int Go.IntKind.i64)) Ty.unit))) b)), (AV.c (Cap.d (Ty.int Go.IntKind.i64) x.1))] (Ty.int Go.IntKind.i64) r1 ∧
          ((((!(decide (r = r1))) = true) →
            (R false)) ∧
          (((!(decide (r = r1))) = false) →
            (inK Go.IntKind.i64 (x.1 + (1 : Int)) ∧
            ((I ((x.1 + (1 : Int)), ())) ∧
            ((μ ((x.1 + (1 : Int)), ())) < (μ x))))))))) ∧
        (((decide (x.1 < n)) = false) →
          (R true))))))) : CallP Try.prog tT 31 [.d (.st (.pair (.sl (.int .i64)) (.pair (.sl (.int .i64)) .unit))) a, .d (.st (.pair (.sl (.int .i64)) (.pair (.sl (.int .i64)) .unit))) b, .d (.int .i64) n] .bool r :=
  callP_of (cx := cx31) (d := 6) mixed tab_ok inl_ok Try.func31 ⟨fun _ _ => by kernel_rfl⟩ rfl rfl fun wf => Eq.mpr (by kernel_rfl) (h (fun x => x = r) (fun _ => Iff.rfl) (wf.1 rfl) (wf.2.1 rfl) (wf.2.2.1 rfl))
/- foresight/foresightlaw02.first -/
def cx32 : Cx := { T := tT, own := ownT, frz := [(320010, 157, [.row 134])], loops := [(320008, 133, ⟨[.own 1 0 22 (.sl (.int .i64)), .own 3 1 3 (.int .i64), .val 4 (.int .i64)], 2⟩), (320004, 66, ⟨[.own 1 0 22 (.sl (.int .i64)), .val 2 (.int .i64)], 1⟩)], cuts := [], inl := inlT }
set_option maxRecDepth 1000000 in
theorem of32  (r : Ty.T (.sl (.sl (.int .i64)))) (h : ∀ R : Ty.T (.sl (.sl (.int .i64))) → Prop, (∀ x, R x ↔ x = r) → 
    ∃ I : (((List (List Int)) × (Int × Unit)) → Prop),
    ∃ μ : (((List (List Int)) × (Int × Unit)) → Nat),
    ((I (([] : List (List Int)), ((0 : Int), ()))) ∧
    ∀ x : ((List (List Int)) × (Int × Unit)),
    ((WF (Ty.sl (Ty.sl (Ty.int Go.IntKind.i64))) x.1 ∧
      (WF (Ty.int Go.IntKind.i64) x.2.1 ∧
      True)) →
      ((I x) →
        ((((decide (x.2.1 < (64 : Int))) = true) →
          ∃ I1 : (((List (List Int)) × ((List Int) × (Int × Unit))) → Prop),
          ∃ μ1 : (((List (List Int)) × ((List Int) × (Int × Unit))) → Nat),
          ((I1 (x.1, (([] : List Int), ((0 : Int), ())))) ∧
          ∀ x1 : ((List (List Int)) × ((List Int) × (Int × Unit))),
          ((WF (Ty.sl (Ty.sl (Ty.int Go.IntKind.i64))) x1.1 ∧
            (WF (Ty.sl (Ty.int Go.IntKind.i64)) x1.2.1 ∧
            (WF (Ty.int Go.IntKind.i64) x1.2.2.1 ∧
            True))) →
            ((I1 x1) →
              ((((decide (x1.2.2.1 < (64 : Int))) = true) →
                (((((((List.length x1.2.1) + (List.length [x.2.1])) : Nat) : Int) * (((8 : Nat) : Nat) : Int)) ≤ (140737488355328 : Int)) ∧
                (inK Go.IntKind.i64 (x1.2.2.1 + (1 : Int)) ∧
                ((I1 (x1.1, ((x1.2.1 ++ [x.2.1]), ((x1.2.2.1 + (1 : Int)), ())))) ∧
                ((μ1 (x1.1, ((x1.2.1 ++ [x.2.1]), ((x1.2.2.1 + (1 : Int)), ())))) < (μ1 x1)))))) ∧
              (((decide (x1.2.2.1 < (64 : Int))) = false) →
                (((((((List.length x1.1) + (List.length [x1.2.1])) : Nat) : Int) * (((24 : Nat) : Nat) : Int)) ≤ (140737488355328 : Int)) ∧
                (inK Go.IntKind.i64 (x.2.1 + (1 : Int)) ∧
                ((I ((x1.1 ++ [x1.2.1]), ((x.2.1 + (1 : Int)), ()))) ∧
                ((μ ((x1.1 ++ [x1.2.1]), ((x.2.1 + (1 : Int)), ()))) < (μ x))))))))))) ∧
        (((decide (x.2.1 < (64 : Int))) = false) →
          (R x.1))))))) : CallP Try.prog tT 32 [] (.sl (.sl (.int .i64))) r :=
  callP_of (cx := cx32) (d := 6) mixed tab_ok inl_ok Try.func32 ⟨fun _ _ => by kernel_rfl⟩ rfl rfl fun wf => Eq.mpr (by kernel_rfl) (h (fun x => x = r) (fun _ => Iff.rfl) )
/- foresight/foresightlaw02.lasso -/
def cx33 : Cx := { T := tT, own := ownT, frz := [], loops := [], cuts := [], inl := inlT }
set_option maxRecDepth 1000000 in
theorem of33 (stem : (Ty.T (.sl (.int .i64)))) (loop : (Ty.T (.sl (.int .i64)))) (r : Ty.T (.st (.pair (.sl (.int .i64)) (.pair (.sl (.int .i64)) .unit)))) (h : ∀ R : Ty.T (.st (.pair (.sl (.int .i64)) (.pair (.sl (.int .i64)) .unit))) → Prop, (∀ x, R x ↔ x = r) → WF (.sl (.int .i64)) stem → WF (.sl (.int .i64)) loop → 
    (R (stem, (loop, ())))) : CallP Try.prog tT 33 [.d (.sl (.int .i64)) stem, .d (.sl (.int .i64)) loop] (.st (.pair (.sl (.int .i64)) (.pair (.sl (.int .i64)) .unit))) r :=
  callP_of (cx := cx33) (d := 6) mixed tab_ok inl_ok Try.func33 ⟨fun _ _ => by kernel_rfl⟩ rfl rfl fun wf => Eq.mpr (by kernel_rfl) (h (fun x => x = r) (fun _ => Iff.rfl) (wf.1 rfl) (wf.2.1 rfl))
/- foresight/word.formed -/
def cx34 : Cx := { T := tT, own := ownT, frz := [], loops := [], cuts := [], inl := inlT }
set_option maxRecDepth 1000000 in
theorem of34 (w : (Ty.T (.st (.pair (.sl (.int .i64)) (.pair (.sl (.int .i64)) .unit))))) (r : Ty.T .bool) (h : ∀ R : Ty.T .bool → Prop, (∀ x, R x ↔ x = r) → WF (.st (.pair (.sl (.int .i64)) (.pair (.sl (.int .i64)) .unit))) w → 
    ((((!(decide ((60 : Int) < (((List.length w.1) : Nat) : Int)))) = true) →
      ((!(decide ((60 : Int) < (((List.length w.1) : Nat) : Int)))) = true)) ∧
    ((((!(decide ((60 : Int) < (((List.length w.1) : Nat) : Int)))) = true) →
      ((!(decide ((60 : Int) < (((List.length w.1) : Nat) : Int)))) = true)) ∧
    ((((!(decide ((60 : Int) < (((List.length w.1) : Nat) : Int)))) = true) →
      ((!(decide ((60 : Int) < (((List.length w.1) : Nat) : Int)))) = true)) ∧
    ((((decide ((60 : Int) < (((List.length w.1) : Nat) : Int))) = false) →
      ((!(decide ((60 : Int) < (((List.length w.1) : Nat) : Int)))) = true)) ∧
    ((((!(selB (decide ((60 : Int) < (((List.length w.1) : Nat) : Int))) true (decide ((((List.length w.2.1) : Nat) : Int) = (0 : Int))))) = true) →
      ((!(selB (decide ((60 : Int) < (((List.length w.1) : Nat) : Int))) true (decide ((((List.length w.2.1) : Nat) : Int) = (0 : Int))))) = true)) ∧
    ((((!(selB (decide ((60 : Int) < (((List.length w.1) : Nat) : Int))) true (decide ((((List.length w.2.1) : Nat) : Int) = (0 : Int))))) = true) →
      ((!(selB (decide ((60 : Int) < (((List.length w.1) : Nat) : Int))) true (decide ((((List.length w.2.1) : Nat) : Int) = (0 : Int))))) = true)) ∧
    ((((!(selB (decide ((60 : Int) < (((List.length w.1) : Nat) : Int))) true (decide ((((List.length w.2.1) : Nat) : Int) = (0 : Int))))) = true) →
      ((!(selB (decide ((60 : Int) < (((List.length w.1) : Nat) : Int))) true (decide ((((List.length w.2.1) : Nat) : Int) = (0 : Int))))) = true)) ∧
    ((((selB (decide ((60 : Int) < (((List.length w.1) : Nat) : Int))) true (decide ((((List.length w.2.1) : Nat) : Int) = (0 : Int)))) = false) →
      ((!(selB (decide ((60 : Int) < (((List.length w.1) : Nat) : Int))) true (decide ((((List.length w.2.1) : Nat) : Int) = (0 : Int))))) = true)) ∧
    ((((selB (selB (decide ((60 : Int) < (((List.length w.1) : Nat) : Int))) true (decide ((((List.length w.2.1) : Nat) : Int) = (0 : Int)))) true (decide ((40 : Int) < (((List.length w.2.1) : Nat) : Int)))) = true) →
      (R false)) ∧
    (((selB (selB (decide ((60 : Int) < (((List.length w.1) : Nat) : Int))) true (decide ((((List.length w.2.1) : Nat) : Int) = (0 : Int)))) true (decide ((40 : Int) < (((List.length w.2.1) : Nat) : Int)))) = false) →
      ∃ r : Bool,
      (CallP Try.prog tT (44 : Nat) [(AV.c (Cap.d (Ty.sl (Ty.int Go.IntKind.i64)) w.1)), (AV.fn (50 : Nat) ([] : List Go.Proofs.Ytblibehfjjgdeaa.Cap))] Ty.bool r ∧
      ((((!r) = true) →
        ((!r) = true)) ∧
      ∃ r1 : Bool,
      ((((!r) = true) →
        ((((!r) = true) ∧
        ((!r) = true)) ∧
        CallP Try.prog tT (44 : Nat) [(AV.c (Cap.d (Ty.sl (Ty.int Go.IntKind.i64)) w.2.1)), (AV.fn (50 : Nat) ([] : List Go.Proofs.Ytblibehfjjgdeaa.Cap))] Ty.bool r1)) ∧
      ((((!r) = true) →
        ((!r) = true)) ∧
      ((((!r) = true) →
        ((!r) = true)) ∧
      (R (selB (!r) (!r1) false)))))))))))))))))) : CallP Try.prog tT 34 [.d (.st (.pair (.sl (.int .i64)) (.pair (.sl (.int .i64)) .unit))) w] .bool r :=
  callP_of (cx := cx34) (d := 6) mixed tab_ok inl_ok Try.func34 ⟨fun _ _ => by kernel_rfl⟩ rfl rfl fun wf => Eq.mpr (by kernel_rfl) (h (fun x => x = r) (fun _ => Iff.rfl) (wf.1 rfl))
set_option maxRecDepth 1000000 in
theorem sf34 (w : (Ty.T (.st (.pair (.sl (.int .i64)) (.pair (.sl (.int .i64)) .unit))))) (r : Ty.T .bool) (h : ∀ R : Ty.T .bool → Prop, (∀ x, R x ↔ x = r) → WF (.st (.pair (.sl (.int .i64)) (.pair (.sl (.int .i64)) .unit))) w → 
    ((((((60 : Int) < (((List.length w.1) : Nat) : Int)) ∨ ((((List.length w.2.1) : Nat) : Int) = (0 : Int))) ∨ ((40 : Int) < (((List.length w.2.1) : Nat) : Int))) →
      (R false)) ∧
    (((((List.length w.1) : Nat) : Int) ≤ (60 : Int)) → (¬ ((((List.length w.2.1) : Nat) : Int) = (0 : Int))) → ((((List.length w.2.1) : Nat) : Int) ≤ (40 : Int)) →
      (∃ r : Bool,
      (CallP Try.prog tT (44 : Nat) [(AV.c (Cap.d (Ty.sl (Ty.int Go.IntKind.i64)) w.1)), (AV.fn (50 : Nat) ([] : List Go.Proofs.Ytblibehfjjgdeaa.Cap))] Ty.bool r ∧
      (∃ r1 : Bool,
      (((r = false) →
        CallP Try.prog tT (44 : Nat) [(AV.c (Cap.d (Ty.sl (Ty.int Go.IntKind.i64)) w.2.1)), (AV.fn (50 : Nat) ([] : List Go.Proofs.Ytblibehfjjgdeaa.Cap))] Ty.bool r1) ∧
      (R (selB (!r) (!r1) false))))))))) : CallP Try.prog tT 34 [.d (.st (.pair (.sl (.int .i64)) (.pair (.sl (.int .i64)) .unit))) w] .bool r :=
  of34 w r fun R hR w0_ => have p := h R hR w0_
    ⟨(fun h10 => h10), ⟨(fun h19 => h19), ⟨(fun h27 => h27), ⟨(fun h34 => (bnot_t2 h34)), ⟨(fun h40 => h40), ⟨(fun h45 => h45), ⟨(fun h49 => h49), ⟨(fun h52 => (bnot_t2 h52)), ⟨(fun h58 => (p.1 (Or.imp (fun h => (Or.imp (fun h => (of_decide_eq_true h)) (fun h => (of_decide_eq_true h)) (selB_ot h))) (fun h => (of_decide_eq_true h)) (selB_ot h58)))), (fun h60 => (Exists.elim (p.2 (Int.not_lt.1 (of_decide_eq_false (selB_of (selB_of h60).1).1)) (of_decide_eq_false (selB_of (selB_of h60).1).2) (Int.not_lt.1 (of_decide_eq_false (selB_of h60).2))) fun r q61 => Exists.intro r ⟨q61.1, ⟨(fun h63 => h63), (Exists.elim q61.2 fun r1 q64 => Exists.intro r1 ⟨(fun h70 => ⟨⟨h70, h70⟩, (q64.1 (bnot_t h70))⟩), ⟨(fun h73 => h73), ⟨(fun h75 => h75), q64.2⟩⟩⟩)⟩⟩))⟩⟩⟩⟩⟩⟩⟩⟩⟩
/- foresight/foresightref02.at -/
def cx37 : Cx := { T := tT, own := ownT, frz := [], loops := [], cuts := [], inl := inlT }
set_option maxRecDepth 1000000 in
theorem of37 (w : (Ty.T (.st (.pair (.sl (.int .i64)) (.pair (.sl (.int .i64)) .unit))))) (i : (Ty.T (.int .i64))) (r : Ty.T (.int .i64)) (h : ∀ R : Ty.T (.int .i64) → Prop, (∀ x, R x ↔ x = r) → WF (.st (.pair (.sl (.int .i64)) (.pair (.sl (.int .i64)) .unit))) w → WF (.int .i64) i → 
    ((((decide (i < (((List.length w.1) : Nat) : Int))) = true) →
      ((((0 : Int) ≤ i) ∧
      (i < (((List.length w.1) : Nat) : Int))) ∧
      (R (List.getD w.1 (Int.toNat i) (0 : Int))))) ∧
    (((decide (i < (((List.length w.1) : Nat) : Int))) = false) →
      (inK Go.IntKind.i64 (i - (((List.length w.1) : Nat) : Int)) ∧
      ((((0 : Int) ≤ (i - (((List.length w.1) : Nat) : Int))) ∧
      ((0 : Int) < (((List.length w.2.1) : Nat) : Int))) ∧
      ((((0 : Int) ≤ ((i - (((List.length w.1) : Nat) : Int)) % (((List.length w.2.1) : Nat) : Int))) ∧
      (((i - (((List.length w.1) : Nat) : Int)) % (((List.length w.2.1) : Nat) : Int)) < (((List.length w.2.1) : Nat) : Int))) ∧
      (R (List.getD w.2.1 (Int.toNat ((i - (((List.length w.1) : Nat) : Int)) % (((List.length w.2.1) : Nat) : Int))) (0 : Int))))))))) : CallP Try.prog tT 37 [.d (.st (.pair (.sl (.int .i64)) (.pair (.sl (.int .i64)) .unit))) w, .d (.int .i64) i] (.int .i64) r :=
  callP_of (cx := cx37) (d := 6) mixed tab_ok inl_ok Try.func37 ⟨fun _ _ => by kernel_rfl⟩ rfl rfl fun wf => Eq.mpr (by kernel_rfl) (h (fun x => x = r) (fun _ => Iff.rfl) (wf.1 rfl) (wf.2.1 rfl))
set_option maxRecDepth 1000000 in
theorem sf37 (w : (Ty.T (.st (.pair (.sl (.int .i64)) (.pair (.sl (.int .i64)) .unit))))) (i : (Ty.T (.int .i64))) (r : Ty.T (.int .i64)) (h : ∀ R : Ty.T (.int .i64) → Prop, (∀ x, R x ↔ x = r) → WF (.st (.pair (.sl (.int .i64)) (.pair (.sl (.int .i64)) .unit))) w → WF (.int .i64) i → 
    (((i < (((List.length w.1) : Nat) : Int)) →
      (((0 : Int) ≤ i) ∧
      (R (List.getD w.1 (Int.toNat i) (0 : Int))))) ∧
    (((((List.length w.1) : Nat) : Int) ≤ i) →
      (inK Go.IntKind.i64 (i - (((List.length w.1) : Nat) : Int)) ∧
      ((((0 : Int) ≤ (i - (((List.length w.1) : Nat) : Int))) ∧
      ((0 : Int) < (((List.length w.2.1) : Nat) : Int))) ∧
      ((((0 : Int) ≤ ((i - (((List.length w.1) : Nat) : Int)) % (((List.length w.2.1) : Nat) : Int))) ∧
      (((i - (((List.length w.1) : Nat) : Int)) % (((List.length w.2.1) : Nat) : Int)) < (((List.length w.2.1) : Nat) : Int))) ∧
      (R (List.getD w.2.1 (Int.toNat ((i - (((List.length w.1) : Nat) : Int)) % (((List.length w.2.1) : Nat) : Int))) (0 : Int))))))))) : CallP Try.prog tT 37 [.d (.st (.pair (.sl (.int .i64)) (.pair (.sl (.int .i64)) .unit))) w, .d (.int .i64) i] (.int .i64) r :=
  of37 w i r fun R hR w0_ w1_ => have p := h R hR w0_ w1_
    ⟨(fun h6 => ⟨⟨(p.1 (of_decide_eq_true h6)).1, (of_decide_eq_true h6)⟩, (p.1 (of_decide_eq_true h6)).2⟩), (fun h8 => ⟨(p.2 (Int.not_lt.1 (of_decide_eq_false h8))).1, ⟨⟨(p.2 (Int.not_lt.1 (of_decide_eq_false h8))).2.1.1, (p.2 (Int.not_lt.1 (of_decide_eq_false h8))).2.1.2⟩, ⟨⟨(p.2 (Int.not_lt.1 (of_decide_eq_false h8))).2.2.1.1, (p.2 (Int.not_lt.1 (of_decide_eq_false h8))).2.2.1.2⟩, (p.2 (Int.not_lt.1 (of_decide_eq_false h8))).2.2.2⟩⟩⟩)⟩
/- foresight/foresightref02.Shortest -/
def cx41 : Cx := { T := tT, own := ownT, frz := [], loops := [(410003, 118, ⟨[.val 3 (.int .i64)], 0⟩), (410007, 295, ⟨[.val 4 (.sl (.int .i64)), .val 5 (.sl (.int .i64))], 0⟩)], cuts := [], inl := inlT }
set_option maxRecDepth 1000000 in
theorem of41 (w : (Ty.T (.st (.pair (.sl (.int .i64)) (.pair (.sl (.int .i64)) .unit))))) (r : Ty.T (.st (.pair (.sl (.int .i64)) (.pair (.sl (.int .i64)) .unit)))) (h : ∀ R : Ty.T (.st (.pair (.sl (.int .i64)) (.pair (.sl (.int .i64)) .unit))) → Prop, (∀ x, R x ↔ x = r) → WF (.st (.pair (.sl (.int .i64)) (.pair (.sl (.int .i64)) .unit))) w → 
    ∃ I : ((Int × Unit) → Prop),
    ∃ μ : ((Int × Unit) → Nat),
    ((I ((1 : Int), ())) ∧
    ∀ x : (Int × Unit),
    ((WF (Ty.int Go.IntKind.i64) x.1 ∧
      True) →
      ((I x) →
        ∃ r : Bool,
        (CallP Try.prog tT (54 : Nat) [(AV.c (Cap.d (Ty.sl (Ty.int Go.IntKind.i64)) w.2.1)), (AV.c (Cap.d (Ty.int Go.IntKind.i64) x.1))] Ty.bool r ∧
        ((((!r) = true) →
          (inK Go.IntKind.i64 (x.1 + (1 : Int)) ∧
          ((I ((x.1 + (1 : Int)), ())) ∧
          ((μ ((x.1 + (1 : Int)), ())) < (μ x))))) ∧
        (((!r) = false) →
          ((((0 : Int) ≤ x.1) ∧
          (x.1 ≤ (((List.length w.2.1) : Nat) : Int))) ∧
          (((((((List.length ([] : List Int)) + (List.length (List.take (Int.toNat x.1) w.2.1))) : Nat) : Int) * (((8 : Nat) : Nat) : Int)) ≤ (140737488355328 : Int)) ∧
          (((((((List.length ([] : List Int)) + (List.length w.1)) : Nat) : Int) * (((8 : Nat) : Nat) : Int)) ≤ (140737488355328 : Int)) ∧
          ∃ I1 : (((List Int) × ((List Int) × Unit)) → Prop),
          ∃ μ1 : (((List Int) × ((List Int) × Unit)) → Nat),
          ((I1 ((([] : List Int) ++ (List.take (Int.toNat x.1) w.2.1)), ((([] : List Int) ++ w.1), ()))) ∧
          ∀ x1 : ((List Int) × ((List Int) × Unit)),
          ((WF (Ty.sl (Ty.int Go.IntKind.i64)) x1.1 ∧
            (WF (Ty.sl (Ty.int Go.IntKind.i64)) x1.2.1 ∧
            True)) →
            ((I1 x1) →
              ((((decide ((0 : Int) < (((List.length x1.2.1) : Nat) : Int))) = true) →
                ((decide ((0 : Int) < (((List.length x1.2.1) : Nat) : Int))) = true)) ∧
              ((((decide ((0 : Int) < (((List.length x1.2.1) : Nat) : Int))) = true) →
                (((decide ((0 : Int) < (((List.length x1.2.1) : Nat) : Int))) = true) ∧
                inK Go.IntKind.i64 ((((List.length x1.2.1) : Nat) : Int) - (1 : Int)))) ∧
              ((((decide ((0 : Int) < (((List.length x1.2.1) : Nat) : Int))) = true) →
                ((((decide ((0 : Int) < (((List.length x1.2.1) : Nat) : Int))) = true) ∧
                ((decide ((0 : Int) < (((List.length x1.2.1) : Nat) : Int))) = true)) ∧
                (((0 : Int) ≤ ((((List.length x1.2.1) : Nat) : Int) - (1 : Int))) ∧
                (((((List.length x1.2.1) : Nat) : Int) - (1 : Int)) < (((List.length x1.2.1) : Nat) : Int))))) ∧
              ((((decide ((0 : Int) < (((List.length x1.2.1) : Nat) : Int))) = true) →
                ((decide ((0 : Int) < (((List.length x1.2.1) : Nat) : Int))) = true)) ∧
              ((((decide ((0 : Int) < (((List.length x1.2.1) : Nat) : Int))) = true) →
                (((decide ((0 : Int) < (((List.length x1.2.1) : Nat) : Int))) = true) ∧
                inK Go.IntKind.i64 (x.1 - (1 : Int)))) ∧
              ((((decide ((0 : Int) < (((List.length x1.2.1) : Nat) : Int))) = true) →
                ((((decide ((0 : Int) < (((List.length x1.2.1) : Nat) : Int))) = true) ∧
                ((decide ((0 : Int) < (((List.length x1.2.1) : Nat) : Int))) = true)) ∧
                (((0 : Int) ≤ (x.1 - (1 : Int))) ∧
                ((x.1 - (1 : Int)) < (((List.length x1.1) : Nat) : Int))))) ∧
              ((((decide ((0 : Int) < (((List.length x1.2.1) : Nat) : Int))) = true) →
                ((decide ((0 : Int) < (((List.length x1.2.1) : Nat) : Int))) = true)) ∧
              ((((decide ((0 : Int) < (((List.length x1.2.1) : Nat) : Int))) = true) →
                (((decide ((0 : Int) < (((List.length x1.2.1) : Nat) : Int))) = true) ∧
                ((decide ((0 : Int) < (((List.length x1.2.1) : Nat) : Int))) = true))) ∧
              ((((decide ((0 : Int) < (((List.length x1.2.1) : Nat) : Int))) = true) →
                ((decide ((0 : Int) < (((List.length x1.2.1) : Nat) : Int))) = true)) ∧
              ((((selB (decide ((0 : Int) < (((List.length x1.2.1) : Nat) : Int))) (decide ((List.getD x1.2.1 (Int.toNat ((((List.length x1.2.1) : Nat) : Int) - (1 : Int))) (0 : Int)) = (List.getD x1.1 (Int.toNat (x.1 - (1 : Int))) (0 : Int)))) false) = true) →
                (inK Go.IntKind.i64 ((((List.length x1.2.1) : Nat) : Int) - (1 : Int)) ∧
                ((((0 : Int) ≤ ((((List.length x1.2.1) : Nat) : Int) - (1 : Int))) ∧
                (((((List.length x1.2.1) : Nat) : Int) - (1 : Int)) ≤ (((List.length x1.2.1) : Nat) : Int))) ∧
                (inK Go.IntKind.i64 (x.1 - (1 : Int)) ∧
                ((((0 : Int) ≤ (x.1 - (1 : Int))) ∧
                ((x.1 - (1 : Int)) < (((List.length x1.1) : Nat) : Int))) ∧
                (inK Go.IntKind.i64 (x.1 - (1 : Int)) ∧
                ((((0 : Int) ≤ (x.1 - (1 : Int))) ∧
                ((x.1 - (1 : Int)) ≤ (((List.length x1.1) : Nat) : Int))) ∧
                (((((((List.length [(List.getD x1.1 (Int.toNat (x.1 - (1 : Int))) (0 : Int))]) + (List.length (List.take (Int.toNat (x.1 - (1 : Int))) x1.1))) : Nat) : Int) * (((8 : Nat) : Nat) : Int)) ≤ (140737488355328 : Int)) ∧
                ((I1 (([(List.getD x1.1 (Int.toNat (x.1 - (1 : Int))) (0 : Int))] ++ (List.take (Int.toNat (x.1 - (1 : Int))) x1.1)), ((List.take (Int.toNat ((((List.length x1.2.1) : Nat) : Int) - (1 : Int))) x1.2.1), ()))) ∧
                ((μ1 (([(List.getD x1.1 (Int.toNat (x.1 - (1 : Int))) (0 : Int))] ++ (List.take (Int.toNat (x.1 - (1 : Int))) x1.1)), ((List.take (Int.toNat ((((List.length x1.2.1) : Nat) : Int) - (1 : Int))) x1.2.1), ()))) < (μ1 x1))))))))))) ∧
              (((selB (decide ((0 : Int) < (((List.length x1.2.1) : Nat) : Int))) (decide ((List.getD x1.2.1 (Int.toNat ((((List.length x1.2.1) : Nat) : Int) - (1 : Int))) (0 : Int)) = (List.getD x1.1 (Int.toNat (x.1 - (1 : Int))) (0 : Int)))) false) = false) →
                (R (x1.2.1, (x1.1, ()))))))))))))))))))))))))))) : CallP Try.prog tT 41 [.d (.st (.pair (.sl (.int .i64)) (.pair (.sl (.int .i64)) .unit))) w] (.st (.pair (.sl (.int .i64)) (.pair (.sl (.int .i64)) .unit))) r :=
  callP_of (cx := cx41) (d := 6) mixed tab_ok inl_ok Try.func41 ⟨fun _ _ => by kernel_rfl⟩ rfl rfl fun wf => Eq.mpr (by kernel_rfl) (h (fun x => x = r) (fun _ => Iff.rfl) (wf.1 rfl))
set_option maxRecDepth 1000000 in
theorem sf41 (w : (Ty.T (.st (.pair (.sl (.int .i64)) (.pair (.sl (.int .i64)) .unit))))) (r : Ty.T (.st (.pair (.sl (.int .i64)) (.pair (.sl (.int .i64)) .unit)))) (h : ∀ R : Ty.T (.st (.pair (.sl (.int .i64)) (.pair (.sl (.int .i64)) .unit))) → Prop, (∀ x, R x ↔ x = r) → WF (.st (.pair (.sl (.int .i64)) (.pair (.sl (.int .i64)) .unit))) w → 
    (∃ I : ((Int × Unit) → Prop),
    (∃ μ : ((Int × Unit) → Nat),
    ((I ((1 : Int), ())) ∧
    (∀ x : (Int × Unit),
    ((WF (Ty.int Go.IntKind.i64) x.1 ∧
      True) →
      ((I x) →
        (∃ r : Bool,
        (CallP Try.prog tT (54 : Nat) [(AV.c (Cap.d (Ty.sl (Ty.int Go.IntKind.i64)) w.2.1)), (AV.c (Cap.d (Ty.int Go.IntKind.i64) x.1))] Ty.bool r ∧
        (((r = false) →
          (inK Go.IntKind.i64 (x.1 + (1 : Int)) ∧
          ((I ((x.1 + (1 : Int)), ())) ∧
          ((μ ((x.1 + (1 : Int)), ())) < (μ x))))) ∧
        ((r = true) →
          ((((0 : Int) ≤ x.1) ∧
          (x.1 ≤ (((List.length w.2.1) : Nat) : Int))) ∧
          (((((((List.length ([] : List Int)) + (List.length (List.take (Int.toNat x.1) w.2.1))) : Nat) : Int) * (((8 : Nat) : Nat) : Int)) ≤ (140737488355328 : Int)) ∧
          (((((((List.length ([] : List Int)) + (List.length w.1)) : Nat) : Int) * (((8 : Nat) : Nat) : Int)) ≤ (140737488355328 : Int)) ∧
          (∃ I1 : (((List Int) × ((List Int) × Unit)) → Prop),
          (∃ μ1 : (((List Int) × ((List Int) × Unit)) → Nat),
          ((I1 ((([] : List Int) ++ (List.take (Int.toNat x.1) w.2.1)), ((([] : List Int) ++ w.1), ()))) ∧
          (∀ x1 : ((List Int) × ((List Int) × Unit)),
          ((WF (Ty.sl (Ty.int Go.IntKind.i64)) x1.1 ∧
            (WF (Ty.sl (Ty.int Go.IntKind.i64)) x1.2.1 ∧
            True)) →
            ((I1 x1) →
              ((((0 : Int) < (((List.length x1.2.1) : Nat) : Int)) →
                inK Go.IntKind.i64 ((((List.length x1.2.1) : Nat) : Int) - (1 : Int))) ∧
              ((((0 : Int) < (((List.length x1.2.1) : Nat) : Int)) →
                (((0 : Int) ≤ ((((List.length x1.2.1) : Nat) : Int) - (1 : Int))) ∧
                (((((List.length x1.2.1) : Nat) : Int) - (1 : Int)) < (((List.length x1.2.1) : Nat) : Int)))) ∧
              ((((0 : Int) < (((List.length x1.2.1) : Nat) : Int)) →
                inK Go.IntKind.i64 (x.1 - (1 : Int))) ∧
              ((((0 : Int) < (((List.length x1.2.1) : Nat) : Int)) →
                (((0 : Int) ≤ (x.1 - (1 : Int))) ∧
                ((x.1 - (1 : Int)) < (((List.length x1.1) : Nat) : Int)))) ∧
              ((((0 : Int) < (((List.length x1.2.1) : Nat) : Int)) → ((List.getD x1.2.1 (Int.toNat ((((List.length x1.2.1) : Nat) : Int) - (1 : Int))) (0 : Int)) = (List.getD x1.1 (Int.toNat (x.1 - (1 : Int))) (0 : Int))) →
                ((((((List.length x1.2.1) : Nat) : Int) - (1 : Int)) ≤ (((List.length x1.2.1) : Nat) : Int)) ∧
                (((x.1 - (1 : Int)) ≤ (((List.length x1.1) : Nat) : Int)) ∧
                (((((((List.length [(List.getD x1.1 (Int.toNat (x.1 - (1 : Int))) (0 : Int))]) + (List.length (List.take (Int.toNat (x.1 - (1 : Int))) x1.1))) : Nat) : Int) * (((8 : Nat) : Nat) : Int)) ≤ (140737488355328 : Int)) ∧
                ((I1 (([(List.getD x1.1 (Int.toNat (x.1 - (1 : Int))) (0 : Int))] ++ (List.take (Int.toNat (x.1 - (1 : Int))) x1.1)), ((List.take (Int.toNat ((((List.length x1.2.1) : Nat) : Int) - (1 : Int))) x1.2.1), ()))) ∧
                ((μ1 (([(List.getD x1.1 (Int.toNat (x.1 - (1 : Int))) (0 : Int))] ++ (List.take (Int.toNat (x.1 - (1 : Int))) x1.1)), ((List.take (Int.toNat ((((List.length x1.2.1) : Nat) : Int) - (1 : Int))) x1.2.1), ()))) < (μ1 x1))))))) ∧
              ((((((List.length x1.2.1) : Nat) : Int) ≤ (0 : Int)) ∨ (¬ ((List.getD x1.2.1 (Int.toNat ((((List.length x1.2.1) : Nat) : Int) - (1 : Int))) (0 : Int)) = (List.getD x1.1 (Int.toNat (x.1 - (1 : Int))) (0 : Int))))) →
                (R (x1.2.1, (x1.1, ()))))))))))))))))))))))))))))) : CallP Try.prog tT 41 [.d (.st (.pair (.sl (.int .i64)) (.pair (.sl (.int .i64)) .unit))) w] (.st (.pair (.sl (.int .i64)) (.pair (.sl (.int .i64)) .unit))) r :=
  of41 w r fun R hR w0_ => have p := h R hR w0_
    (Exists.elim p fun I q1 => Exists.intro I (Exists.elim q1 fun μ q2 => Exists.intro μ ⟨q2.1, (fun x => (fun h3 => (fun h4 => (Exists.elim (((q2.2 x) h3) h4) fun r q5 => Exists.intro r ⟨q5.1, ⟨(fun h11 => ⟨(q5.2.1 (bnot_t h11)).1, ⟨(q5.2.1 (bnot_t h11)).2.1, (q5.2.1 (bnot_t h11)).2.2⟩⟩), (fun h13 => ⟨⟨(q5.2.2 (bnot_f h13)).1.1, (q5.2.2 (bnot_f h13)).1.2⟩, ⟨(q5.2.2 (bnot_f h13)).2.1, ⟨(q5.2.2 (bnot_f h13)).2.2.1, (Exists.elim (q5.2.2 (bnot_f h13)).2.2.2 fun I1 q14 => Exists.intro I1 (Exists.elim q14 fun μ1 q15 => Exists.intro μ1 ⟨q15.1, (fun x1 => (fun h16 => (fun h17 => ⟨(fun h20 => h20), ⟨(fun h26 => ⟨h26, ((((q15.2 x1) h16) h17).1 (of_decide_eq_true h26))⟩), ⟨(fun h32 => ⟨⟨h32, h32⟩, ⟨((((q15.2 x1) h16) h17).2.1 (of_decide_eq_true h32)).1, ((((q15.2 x1) h16) h17).2.1 (of_decide_eq_true h32)).2⟩⟩), ⟨(fun h35 => h35), ⟨(fun h41 => ⟨h41, ((((q15.2 x1) h16) h17).2.2.1 (of_decide_eq_true h41))⟩), ⟨(fun h47 => ⟨⟨h47, h47⟩, ⟨((((q15.2 x1) h16) h17).2.2.2.1 (of_decide_eq_true h47)).1, ((((q15.2 x1) h16) h17).2.2.2.1 (of_decide_eq_true h47)).2⟩⟩), ⟨(fun h52 => h52), ⟨(fun h56 => ⟨h56, h56⟩), ⟨(fun h59 => h59), ⟨(fun h65 => ⟨((((q15.2 x1) h16) h17).1 ((of_decide_eq_true (selB_at h65).1))), ⟨⟨((((q15.2 x1) h16) h17).2.1 ((of_decide_eq_true (selB_at h65).1))).1, ((((q15.2 x1) h16) h17).2.2.2.2.1 (of_decide_eq_true (selB_at h65).1) (of_decide_eq_true (selB_at h65).2)).1⟩, ⟨((((q15.2 x1) h16) h17).2.2.1 ((of_decide_eq_true (selB_at h65).1))), ⟨⟨((((q15.2 x1) h16) h17).2.2.2.1 ((of_decide_eq_true (selB_at h65).1))).1, ((((q15.2 x1) h16) h17).2.2.2.1 ((of_decide_eq_true (selB_at h65).1))).2⟩, ⟨((((q15.2 x1) h16) h17).2.2.1 ((of_decide_eq_true (selB_at h65).1))), ⟨⟨((((q15.2 x1) h16) h17).2.2.2.1 ((of_decide_eq_true (selB_at h65).1))).1, ((((q15.2 x1) h16) h17).2.2.2.2.1 (of_decide_eq_true (selB_at h65).1) (of_decide_eq_true (selB_at h65).2)).2.1⟩, ⟨((((q15.2 x1) h16) h17).2.2.2.2.1 (of_decide_eq_true (selB_at h65).1) (of_decide_eq_true (selB_at h65).2)).2.2.1, ⟨((((q15.2 x1) h16) h17).2.2.2.2.1 (of_decide_eq_true (selB_at h65).1) (of_decide_eq_true (selB_at h65).2)).2.2.2.1, ((((q15.2 x1) h16) h17).2.2.2.2.1 (of_decide_eq_true (selB_at h65).1) (of_decide_eq_true (selB_at h65).2)).2.2.2.2⟩⟩⟩⟩⟩⟩⟩⟩), (fun h67 => ((((q15.2 x1) h16) h17).2.2.2.2.2 (Or.imp (fun h => (Int.not_lt.1 (of_decide_eq_false h))) (fun h => (of_decide_eq_false h)) (selB_af h67))))⟩⟩⟩⟩⟩⟩⟩⟩⟩⟩)))⟩))⟩⟩⟩)⟩⟩))))⟩))
/- slices.Equal[[]int,int] -/
def cx42 : Cx := { T := tT, own := ownT, frz := [], loops := [(420005, 78, ⟨[.val 13 (.int .i64)], 0⟩)], cuts := [], inl := inlT }
set_option maxRecDepth 1000000 in
theorem of42 (s1 : (Ty.T (.sl (.int .i64)))) (s2 : (Ty.T (.sl (.int .i64)))) (r : Ty.T .bool) (h : ∀ R : Ty.T .bool → Prop, (∀ x, R x ↔ x = r) → WF (.sl (.int .i64)) s1 → WF (.sl (.int .i64)) s2 → 
    ((((!(decide ((((List.length s1) : Nat) : Int) = (((List.length s2) : Nat) : Int)))) = true) →
      (R false)) ∧
    (((!(decide ((((List.length s1) : Nat) : Int) = (((List.length s2) : Nat) : Int)))) = false) →
      ∃ I : ((Int × Unit) → Prop),
      ∃ μ : ((Int × Unit) → Nat),
      ((I ((0 : Int), ())) ∧
      ∀ x : (Int × Unit),
      ((WF (Ty.int Go.IntKind.i64) x.1 ∧
        True) →
        ((I x) →
          ((((decide (x.1 < (((List.length s1) : Nat) : Int))) = true) →
            ((((0 : Int) ≤ x.1) ∧
            (x.1 < (((List.length s1) : Nat) : Int))) ∧
            ((((0 : Int) ≤ x.1) ∧
            (x.1 < (((List.length s2) : Nat) : Int))) ∧
            ((((!(decide ((List.getD s1 (Int.toNat x.1) (0 : Int)) = (List.getD s2 (Int.toNat x.1) (0 : Int))))) = true) →
              (R false)) ∧
            (((!(decide ((List.getD s1 (Int.toNat x.1) (0 : Int)) = (List.getD s2 (Int.toNat x.1) (0 : Int))))) = false) →
              (inK Go.IntKind.i64 (x.1 + (1 : Int)) ∧
              ((I ((x.1 + (1 : Int)), ())) ∧
              ((μ ((x.1 + (1 : Int)), ())) < (μ x))))))))) ∧
          (((decide (x.1 < (((List.length s1) : Nat) : Int))) = false) →
            (R true))))))))) : CallP Try.prog tT 42 [.d (.sl (.int .i64)) s1, .d (.sl (.int .i64)) s2] .bool r :=
  callP_of (cx := cx42) (d := 6) mixed tab_ok inl_ok Try.func42 ⟨fun _ _ => by kernel_rfl⟩ rfl rfl fun wf => Eq.mpr (by kernel_rfl) (h (fun x => x = r) (fun _ => Iff.rfl) (wf.1 rfl) (wf.2.1 rfl))
/- foresight/word.letter -/
def cx46 : Cx := { T := tT, own := ownT, frz := [], loops := [], cuts := [], inl := inlT }
set_option maxRecDepth 1000000 in
theorem of46 (n : (Ty.T (.int .i64))) (r : Ty.T .bool) (h : ∀ R : Ty.T .bool → Prop, (∀ x, R x ↔ x = r) → WF (.int .i64) n → 
    ((((decide ((0 : Int) ≤ n)) = true) →
      ((decide ((0 : Int) ≤ n)) = true)) ∧
    ((((decide ((0 : Int) ≤ n)) = true) →
      ((decide ((0 : Int) ≤ n)) = true)) ∧
    (R (selB (decide ((0 : Int) ≤ n)) (decide (n < (64 : Int))) false))))) : CallP Try.prog tT 46 [.d (.int .i64) n] .bool r :=
  callP_of (cx := cx46) (d := 6) mixed tab_ok inl_ok Try.func46 ⟨fun _ _ => by kernel_rfl⟩ rfl rfl fun wf => Eq.mpr (by kernel_rfl) (h (fun x => x = r) (fun _ => Iff.rfl) (wf.1 rfl))
set_option maxRecDepth 1000000 in
theorem sf46 (n : (Ty.T (.int .i64))) (r : Ty.T .bool) (h : ∀ R : Ty.T .bool → Prop, (∀ x, R x ↔ x = r) → WF (.int .i64) n → 
    (R (selB (decide ((0 : Int) ≤ n)) (decide (n < (64 : Int))) false))) : CallP Try.prog tT 46 [.d (.int .i64) n] .bool r :=
  of46 n r fun R hR w0_ => have p := h R hR w0_
    ⟨(fun h3 => h3), ⟨(fun h5 => h5), p⟩⟩
/- foresight/word.kept -/
def cx47 : Cx := { T := tT, own := ownT, frz := [], loops := [], cuts := [], inl := inlT }
set_option maxRecDepth 1000000 in
theorem of47 (w : (Ty.T (.st (.pair (.sl (.int .i64)) (.pair (.sl (.int .i64)) .unit))))) (r : Ty.T (.st (.pair (.sl (.int .i64)) (.pair (.sl (.int .i64)) .unit)))) (h : ∀ R : Ty.T (.st (.pair (.sl (.int .i64)) (.pair (.sl (.int .i64)) .unit))) → Prop, (∀ x, R x ↔ x = r) → WF (.st (.pair (.sl (.int .i64)) (.pair (.sl (.int .i64)) .unit))) w → 
    ∃ r : Bool,
    (CallP Try.prog tT (34 : Nat) [(AV.c (Cap.d (Ty.st (Ty.pair (Ty.sl (Ty.int Go.IntKind.i64)) (Ty.pair (Ty.sl (Ty.int Go.IntKind.i64)) Ty.unit))) w))] Ty.bool r ∧
    ((((!r) = true) →
      (R (([] : List Int), (([] : List Int), ())))) ∧
    (((!r) = false) →
      (R (w.1, (w.2.1, ()))))))) : CallP Try.prog tT 47 [.d (.st (.pair (.sl (.int .i64)) (.pair (.sl (.int .i64)) .unit))) w] (.st (.pair (.sl (.int .i64)) (.pair (.sl (.int .i64)) .unit))) r :=
  callP_of (cx := cx47) (d := 6) mixed tab_ok inl_ok Try.func47 ⟨fun _ _ => by kernel_rfl⟩ rfl rfl fun wf => Eq.mpr (by kernel_rfl) (h (fun x => x = r) (fun _ => Iff.rfl) (wf.1 rfl))
/- foresight/foresightref02.Letter -/
def cx48 : Cx := { T := tT, own := ownT, frz := [], loops := [], cuts := [], inl := inlT }
set_option maxRecDepth 1000000 in
theorem of48 (n : (Ty.T (.int .i64))) (r : Ty.T .bool) (h : ∀ R : Ty.T .bool → Prop, (∀ x, R x ↔ x = r) → WF (.int .i64) n → 
    ((((decide ((0 : Int) ≤ n)) = true) →
      ((decide ((0 : Int) ≤ n)) = true)) ∧
    ((((decide ((0 : Int) ≤ n)) = true) →
      ((decide ((0 : Int) ≤ n)) = true)) ∧
    (R (selB (decide ((0 : Int) ≤ n)) (decide (n < (64 : Int))) false))))) : CallP Try.prog tT 48 [.d (.int .i64) n] .bool r :=
  callP_of (cx := cx48) (d := 6) mixed tab_ok inl_ok Try.func48 ⟨fun _ _ => by kernel_rfl⟩ rfl rfl fun wf => Eq.mpr (by kernel_rfl) (h (fun x => x = r) (fun _ => Iff.rfl) (wf.1 rfl))
set_option maxRecDepth 1000000 in
theorem sf48 (n : (Ty.T (.int .i64))) (r : Ty.T .bool) (h : ∀ R : Ty.T .bool → Prop, (∀ x, R x ↔ x = r) → WF (.int .i64) n → 
    (R (selB (decide ((0 : Int) ≤ n)) (decide (n < (64 : Int))) false))) : CallP Try.prog tT 48 [.d (.int .i64) n] .bool r :=
  of48 n r fun R hR w0_ => have p := h R hR w0_
    ⟨(fun h3 => h3), ⟨(fun h5 => h5), p⟩⟩
/- foresight/foresightref02.formed -/
def cx49 : Cx := { T := tT, own := ownT, frz := [], loops := [], cuts := [], inl := inlT }
set_option maxRecDepth 1000000 in
theorem of49 (w : (Ty.T (.st (.pair (.sl (.int .i64)) (.pair (.sl (.int .i64)) .unit))))) (r : Ty.T (.st (.pair (.sl (.int .i64)) (.pair (.sl (.int .i64)) .unit)))) (h : ∀ R : Ty.T (.st (.pair (.sl (.int .i64)) (.pair (.sl (.int .i64)) .unit))) → Prop, (∀ x, R x ↔ x = r) → WF (.st (.pair (.sl (.int .i64)) (.pair (.sl (.int .i64)) .unit))) w → 
    ∃ r : Bool,
    (CallP Try.prog tT (30 : Nat) [(AV.c (Cap.d (Ty.st (Ty.pair (Ty.sl (Ty.int Go.IntKind.i64)) (Ty.pair (Ty.sl (Ty.int Go.IntKind.i64)) Ty.unit))) w))] Ty.bool r ∧
    (((r = true) →
      (R (w.1, (w.2.1, ())))) ∧
    ((r = false) →
      (R (([] : List Int), (([] : List Int), ()))))))) : CallP Try.prog tT 49 [.d (.st (.pair (.sl (.int .i64)) (.pair (.sl (.int .i64)) .unit))) w] (.st (.pair (.sl (.int .i64)) (.pair (.sl (.int .i64)) .unit))) r :=
  callP_of (cx := cx49) (d := 6) mixed tab_ok inl_ok Try.func49 ⟨fun _ _ => by kernel_rfl⟩ rfl rfl fun wf => Eq.mpr (by kernel_rfl) (h (fun x => x = r) (fun _ => Iff.rfl) (wf.1 rfl))
/- foresight/word.period -/
def cx53 : Cx := { T := tT, own := ownT, frz := [], loops := [(530003, 60, ⟨[.val 3 (.int .i64)], 0⟩)], cuts := [], inl := inlT }
set_option maxRecDepth 1000000 in
theorem of53 (l : (Ty.T (.sl (.int .i64)))) (r : Ty.T (.int .i64)) (h : ∀ R : Ty.T (.int .i64) → Prop, (∀ x, R x ↔ x = r) → WF (.sl (.int .i64)) l → 
    ∃ I : ((Int × Unit) → Prop),
    ∃ μ : ((Int × Unit) → Nat),
    ((I ((1 : Int), ())) ∧
    ∀ x : (Int × Unit),
    ((WF (Ty.int Go.IntKind.i64) x.1 ∧
      True) →
      ((I x) →
        ((((decide (x.1 < (((List.length l) : Nat) : Int))) = true) →
          ((((0 : Int) ≤ (((List.length l) : Nat) : Int)) ∧
          ((0 : Int) < x.1)) ∧
          ((((decide (((((List.length l) : Nat) : Int) % x.1) = (0 : Int))) = true) →
            ((((decide (((((List.length l) : Nat) : Int) % x.1) = (0 : Int))) = true) ∧
            ((decide (((((List.length l) : Nat) : Int) % x.1) = (0 : Int))) = true)) ∧
            (((0 : Int) ≤ x.1) ∧
            (x.1 ≤ (((List.length l) : Nat) : Int))))) ∧
          ((((decide (((((List.length l) : Nat) : Int) % x.1) = (0 : Int))) = true) →
            ((decide (((((List.length l) : Nat) : Int) % x.1) = (0 : Int))) = true)) ∧
          ((((decide (((((List.length l) : Nat) : Int) % x.1) = (0 : Int))) = true) →
            ((((decide (((((List.length l) : Nat) : Int) % x.1) = (0 : Int))) = true) ∧
            ((decide (((((List.length l) : Nat) : Int) % x.1) = (0 : Int))) = true)) ∧
            inK Go.IntKind.i64 ((((List.length l) : Nat) : Int) - x.1))) ∧
          ((((decide (((((List.length l) : Nat) : Int) % x.1) = (0 : Int))) = true) →
            ((((decide (((((List.length l) : Nat) : Int) % x.1) = (0 : Int))) = true) ∧
            ((decide (((((List.length l) : Nat) : Int) % x.1) = (0 : Int))) = true)) ∧
            (((0 : Int) ≤ ((((List.length l) : Nat) : Int) - x.1)) ∧
            (((((List.length l) : Nat) : Int) - x.1) ≤ (((List.length l) : Nat) : Int))))) ∧
          ∃ r : Bool,
          ((((decide (((((List.length l) : Nat) : Int) % x.1) = (0 : Int))) = true) →
            ((((decide (((((List.length l) : Nat) : Int) % x.1) = (0 : Int))) = true) ∧
            ((decide (((((List.length l) : Nat) : Int) % x.1) = (0 : Int))) = true)) ∧
            CallP Try.prog tT (42 : Nat) [(AV.c (Cap.d (Ty.sl (Ty.int Go.IntKind.i64)) (List.drop (Int.toNat x.1) l))), (AV.c (Cap.d (Ty.sl (Ty.int Go.IntKind.i64)) (List.take (Int.toNat ((((List.length l) : Nat) : Int) - x.1)) l)))] Ty.bool r)) ∧
          ((((decide (((((List.length l) : Nat) : Int) % x.1) = (0 : Int))) = true) →
            ((decide (((((List.length l) : Nat) : Int) % x.1) = (0 : Int))) = true)) ∧
          ((((selB (decide (((((List.length l) : Nat) : Int) % x.1) = (0 : Int))) r false) = true) →
            (R x.1)) ∧
          (((selB (decide (((((List.length l) : Nat) : Int) % x.1) = (0 : Int))) r false) = false) →
            (inK Go.IntKind.i64 (x.1 + (1 : Int)) ∧
            ((I ((x.1 + (1 : Int)), ())) ∧
            ((μ ((x.1 + (1 : Int)), ())) < (μ x)))))))))))))) ∧
        (((decide (x.1 < (((List.length l) : Nat) : Int))) = false) →
          (R (((List.length l) : Nat) : Int)))))))) : CallP Try.prog tT 53 [.d (.sl (.int .i64)) l] (.int .i64) r :=
  callP_of (cx := cx53) (d := 6) mixed tab_ok inl_ok Try.func53 ⟨fun _ _ => by kernel_rfl⟩ rfl rfl fun wf => Eq.mpr (by kernel_rfl) (h (fun x => x = r) (fun _ => Iff.rfl) (wf.1 rfl))
set_option maxRecDepth 1000000 in
theorem sf53 (l : (Ty.T (.sl (.int .i64)))) (r : Ty.T (.int .i64)) (h : ∀ R : Ty.T (.int .i64) → Prop, (∀ x, R x ↔ x = r) → WF (.sl (.int .i64)) l → 
    (∃ I : ((Int × Unit) → Prop),
    (∃ μ : ((Int × Unit) → Nat),
    ((I ((1 : Int), ())) ∧
    (∀ x : (Int × Unit),
    ((WF (Ty.int Go.IntKind.i64) x.1 ∧
      True) →
      ((I x) →
        (((x.1 < (((List.length l) : Nat) : Int)) →
          ((((0 : Int) ≤ (((List.length l) : Nat) : Int)) ∧
          ((0 : Int) < x.1)) ∧
          (((((((List.length l) : Nat) : Int) % x.1) = (0 : Int)) →
            (((0 : Int) ≤ x.1) ∧
            (x.1 ≤ (((List.length l) : Nat) : Int)))) ∧
          (((((((List.length l) : Nat) : Int) % x.1) = (0 : Int)) →
            inK Go.IntKind.i64 ((((List.length l) : Nat) : Int) - x.1)) ∧
          (((((((List.length l) : Nat) : Int) % x.1) = (0 : Int)) →
            (((0 : Int) ≤ ((((List.length l) : Nat) : Int) - x.1)) ∧
            (((((List.length l) : Nat) : Int) - x.1) ≤ (((List.length l) : Nat) : Int)))) ∧
          (∃ r : Bool,
          (((((((List.length l) : Nat) : Int) % x.1) = (0 : Int)) →
            CallP Try.prog tT (42 : Nat) [(AV.c (Cap.d (Ty.sl (Ty.int Go.IntKind.i64)) (List.drop (Int.toNat x.1) l))), (AV.c (Cap.d (Ty.sl (Ty.int Go.IntKind.i64)) (List.take (Int.toNat ((((List.length l) : Nat) : Int) - x.1)) l)))] Ty.bool r) ∧
          (((((((List.length l) : Nat) : Int) % x.1) = (0 : Int)) → (r = true) →
            (R x.1)) ∧
          (((¬ (((((List.length l) : Nat) : Int) % x.1) = (0 : Int))) ∨ (r = false)) →
            (inK Go.IntKind.i64 (x.1 + (1 : Int)) ∧
            ((I ((x.1 + (1 : Int)), ())) ∧
            ((μ ((x.1 + (1 : Int)), ())) < (μ x))))))))))))) ∧
        (((((List.length l) : Nat) : Int) ≤ x.1) →
          (R (((List.length l) : Nat) : Int))))))))))) : CallP Try.prog tT 53 [.d (.sl (.int .i64)) l] (.int .i64) r :=
  of53 l r fun R hR w0_ => have p := h R hR w0_
    (Exists.elim p fun I q1 => Exists.intro I (Exists.elim q1 fun μ q2 => Exists.intro μ ⟨q2.1, (fun x => (fun h3 => (fun h4 => ⟨(fun h49 => ⟨⟨((((q2.2 x) h3) h4).1 (of_decide_eq_true h49)).1.1, ((((q2.2 x) h3) h4).1 (of_decide_eq_true h49)).1.2⟩, ⟨(fun h55 => ⟨⟨h55, h55⟩, ⟨(((((q2.2 x) h3) h4).1 (of_decide_eq_true h49)).2.1 (of_decide_eq_true h55)).1, (((((q2.2 x) h3) h4).1 (of_decide_eq_true h49)).2.1 (of_decide_eq_true h55)).2⟩⟩), ⟨(fun h58 => h58), ⟨(fun h64 => ⟨⟨h64, h64⟩, (((((q2.2 x) h3) h4).1 (of_decide_eq_true h49)).2.2.1 (of_decide_eq_true h64))⟩), ⟨(fun h70 => ⟨⟨h70, h70⟩, ⟨(((((q2.2 x) h3) h4).1 (of_decide_eq_true h49)).2.2.2.1 (of_decide_eq_true h70)).1, (((((q2.2 x) h3) h4).1 (of_decide_eq_true h49)).2.2.2.1 (of_decide_eq_true h70)).2⟩⟩), (Exists.elim ((((q2.2 x) h3) h4).1 (of_decide_eq_true h49)).2.2.2.2 fun r q71 => Exists.intro r ⟨(fun h77 => ⟨⟨h77, h77⟩, (q71.1 (of_decide_eq_true h77))⟩), ⟨(fun h80 => h80), ⟨(fun h86 => (q71.2.1 (of_decide_eq_true (selB_at h86).1) ((selB_at h86).2))), (fun h88 => ⟨(q71.2.2 (Or.imp (fun h => (of_decide_eq_false h)) (fun h => h) (selB_af h88))).1, ⟨(q71.2.2 (Or.imp (fun h => (of_decide_eq_false h)) (fun h => h) (selB_af h88))).2.1, (q71.2.2 (Or.imp (fun h => (of_decide_eq_false h)) (fun h => h) (selB_af h88))).2.2⟩⟩)⟩⟩⟩)⟩⟩⟩⟩⟩), (fun h90 => ((((q2.2 x) h3) h4).2 (Int.not_lt.1 (of_decide_eq_false h90))))⟩)))⟩))
/- foresight/foresightref02.repeats -/
def cx54 : Cx := { T := tT, own := ownT, frz := [], loops := [(540005, 87, ⟨[.val 5 (.int .i64)], 0⟩)], cuts := [], inl := inlT }
set_option maxRecDepth 1000000 in
theorem of54 (l : (Ty.T (.sl (.int .i64)))) (n : (Ty.T (.int .i64))) (r : Ty.T .bool) (h : ∀ R : Ty.T .bool → Prop, (∀ x, R x ↔ x = r) → WF (.sl (.int .i64)) l → WF (.int .i64) n → 
    ((((0 : Int) ≤ (((List.length l) : Nat) : Int)) ∧
    ((0 : Int) < n)) ∧
    ((((!(decide (((((List.length l) : Nat) : Int) % n) = (0 : Int)))) = true) →
      (R false)) ∧
    (((!(decide (((((List.length l) : Nat) : Int) % n) = (0 : Int)))) = false) →
      ∃ I : ((Int × Unit) → Prop),
      ∃ μ : ((Int × Unit) → Nat),
      ((I (n, ())) ∧
      ∀ x : (Int × Unit),
      ((WF (Ty.int Go.IntKind.i64) x.1 ∧
        True) →
        ((I x) →
          ((((decide (x.1 < (((List.length l) : Nat) : Int))) = true) →
            ((((0 : Int) ≤ x.1) ∧
            (x.1 < (((List.length l) : Nat) : Int))) ∧
            (inK Go.IntKind.i64 (x.1 - n) ∧
            ((((0 : Int) ≤ (x.1 - n)) ∧
            ((x.1 - n) < (((List.length l) : Nat) : Int))) ∧
            ((((!(decide ((List.getD l (Int.toNat x.1) (0 : Int)) = (List.getD l (Int.toNat (x.1 - n)) (0 : Int))))) = true) →
              (R false)) ∧
            (((!(decide ((List.getD l (Int.toNat x.1) (0 : Int)) = (List.getD l (Int.toNat (x.1 - n)) (0 : Int))))) = false) →
              (inK Go.IntKind.i64 (x.1 + (1 : Int)) ∧
              ((I ((x.1 + (1 : Int)), ())) ∧
              ((μ ((x.1 + (1 : Int)), ())) < (μ x)))))))))) ∧
          (((decide (x.1 < (((List.length l) : Nat) : Int))) = false) →
            (R true)))))))))) : CallP Try.prog tT 54 [.d (.sl (.int .i64)) l, .d (.int .i64) n] .bool r :=
  callP_of (cx := cx54) (d := 6) mixed tab_ok inl_ok Try.func54 ⟨fun _ _ => by kernel_rfl⟩ rfl rfl fun wf => Eq.mpr (by kernel_rfl) (h (fun x => x = r) (fun _ => Iff.rfl) (wf.1 rfl) (wf.2.1 rfl))
/- foresight/word.all -/
def cx39 : Cx := { T := tT, own := ownT, frz := [], loops := [], cuts := [], inl := inlT }
theorem of39 (w : (Ty.T (.st (.pair (.sl (.int .i64)) (.pair (.sl (.int .i64)) .unit))))) (h : ∀ R : AV → Prop, (∀ x, R x ↔ x = .fn 51 [.kp (.st (.pair (.sl (.int .i64)) (.pair (.sl (.int .i64)) .unit))) w]) → WF (.st (.pair (.sl (.int .i64)) (.pair (.sl (.int .i64)) .unit))) w → 
    (R (AV.fn (51 : Nat) [(Cap.kp (Ty.st (Ty.pair (Ty.sl (Ty.int Go.IntKind.i64)) (Ty.pair (Ty.sl (Ty.int Go.IntKind.i64)) Ty.unit))) w)]))) : CallK Try.prog tT 39 [.d (.st (.pair (.sl (.int .i64)) (.pair (.sl (.int .i64)) .unit))) w] 51 [.kp (.st (.pair (.sl (.int .i64)) (.pair (.sl (.int .i64)) .unit))) w] :=
  callK_of (cx := cx39) (d := 6) mixed tab_ok inl_ok Try.func39 ⟨fun _ _ => by kernel_rfl⟩ rfl rfl rfl fun wf => Eq.mpr (by kernel_rfl) (h (fun x => x = .fn 51 [.kp (.st (.pair (.sl (.int .i64)) (.pair (.sl (.int .i64)) .unit))) w]) (fun _ => Iff.rfl) (wf.1 rfl))
/- foresight/word.take -/
def cx38 : Cx := { T := tT, own := ownT, frz := [], loops := [(510002, 121, ⟨[.val 10 (.int .i64), .obj 49 [.own 0 3 (.int .i64)], .lp 88], 1⟩), (510007, 185, ⟨[.val 22 (.int .i64), .obj 49 [.own 0 3 (.int .i64)], .lp 88], 1⟩), (510006, 153, ⟨[.obj 49 [.own 0 3 (.int .i64)], .lp 88], 1⟩)], cuts := [], inl := inlT }
set_option maxRecDepth 1000000 in
theorem of38 (u : (Ty.T (.st (.pair (.sl (.int .i64)) (.pair (.sl (.int .i64)) .unit))))) (n : (Ty.T (.int .i64))) (r : Ty.T (.sl (.int .i64))) (h : ∀ R : Ty.T (.sl (.int .i64)) → Prop, (∀ x, R x ↔ x = r) → WF (.int .i64) n → 
    ((((decide (n = (0 : Int))) = true) →
      (R ([] : List Int))) ∧
    (((decide (n = (0 : Int))) = false) →
      ((((0 : Int) ≤ (0 : Int)) ∧
      (((0 : Int) ≤ n) ∧
      ((n * (((8 : Nat) : Nat) : Int)) ≤ (140737488355328 : Int)))) ∧
      ∃ I : ((Int × (((List Int) × Unit) × Unit)) → Prop),
      ∃ μ : ((Int × (((List Int) × Unit) × Unit)) → Nat),
      ((I ((0 : Int), (((List.replicate (Int.toNat (0 : Int)) (0 : Int)), ()), ()))) ∧
      ∀ x : (Int × (((List Int) × Unit) × Unit)),
      ((WF (Ty.int Go.IntKind.i64) x.1 ∧
        (WF (Ty.pair (Ty.sl (Ty.int Go.IntKind.i64)) Ty.unit) x.2.1 ∧
        True)) →
        ((I x) →
          ((((decide (x.1 < (((List.length u.1) : Nat) : Int))) = true) →
            ((((0 : Int) ≤ x.1) ∧
            (x.1 < (((List.length u.1) : Nat) : Int))) ∧
            (((((((List.length x.2.1.1) + (List.length [(List.getD u.1 (Int.toNat x.1) (0 : Int))])) : Nat) : Int) * (((8 : Nat) : Nat) : Int)) ≤ (140737488355328 : Int)) ∧
            ((((decide ((((List.length (x.2.1.1 ++ [(List.getD u.1 (Int.toNat x.1) (0 : Int))])) : Nat) : Int) = n)) = true) →
              ((((!false) = true) →
                (R (x.2.1.1 ++ [(List.getD u.1 (Int.toNat x.1) (0 : Int))]))) ∧
              (((!false) = false) →
                (inK Go.IntKind.i64 (x.1 + (1 : Int)) ∧
                False)))) ∧
            (((decide ((((List.length (x.2.1.1 ++ [(List.getD u.1 (Int.toNat x.1) (0 : Int))])) : Nat) : Int) = n)) = false) →
              ((((!true) = true) →
                (R (x.2.1.1 ++ [(List.getD u.1 (Int.toNat x.1) (0 : Int))]))) ∧
              (((!true) = false) →
                (inK Go.IntKind.i64 (x.1 + (1 : Int)) ∧
                ((I ((x.1 + (1 : Int)), (((x.2.1.1 ++ [(List.getD u.1 (Int.toNat x.1) (0 : Int))]), ()), ()))) ∧
                ((μ ((x.1 + (1 : Int)), (((x.2.1.1 ++ [(List.getD u.1 (Int.toNat x.1) (0 : Int))]), ()), ()))) < (μ x))))))))))) ∧
          (((decide (x.1 < (((List.length u.1) : Nat) : Int))) = false) →
            ∃ I1 : ((((List Int) × Unit) × Unit) → Prop),
            ∃ μ1 : ((((List Int) × Unit) × Unit) → Nat),
            ((I1 ((x.2.1.1, ()), ())) ∧
            ∀ x1 : (((List Int) × Unit) × Unit),
            ((WF (Ty.pair (Ty.sl (Ty.int Go.IntKind.i64)) Ty.unit) x1.1 ∧
              True) →
              ((I1 x1) →
                ∃ I2 : ((Int × (((List Int) × Unit) × Unit)) → Prop),
                ∃ μ2 : ((Int × (((List Int) × Unit) × Unit)) → Nat),
                ((I2 ((0 : Int), ((x1.1.1, ()), ()))) ∧
                ∀ x2 : (Int × (((List Int) × Unit) × Unit)),
                ((WF (Ty.int Go.IntKind.i64) x2.1 ∧
                  (WF (Ty.pair (Ty.sl (Ty.int Go.IntKind.i64)) Ty.unit) x2.2.1 ∧
                  True)) →
                  ((I2 x2) →
                    ((((decide (x2.1 < (((List.length u.2.1) : Nat) : Int))) = true) →
                      ((((0 : Int) ≤ x2.1) ∧
                      (x2.1 < (((List.length u.2.1) : Nat) : Int))) ∧
                      (((((((List.length x2.2.1.1) + (List.length [(List.getD u.2.1 (Int.toNat x2.1) (0 : Int))])) : Nat) : Int) * (((8 : Nat) : Nat) : Int)) ≤ (140737488355328 : Int)) ∧
                      ((((decide ((((List.length (x2.2.1.1 ++ [(List.getD u.2.1 (Int.toNat x2.1) (0 : Int))])) : Nat) : Int) = n)) = true) →
                        ((((!false) = true) →
                          (R (x2.2.1.1 ++ [(List.getD u.2.1 (Int.toNat x2.1) (0 : Int))]))) ∧
                        (((!false) = false) →
                          (inK Go.IntKind.i64 (x2.1 + (1 : Int)) ∧
                          False)))) ∧
                      (((decide ((((List.length (x2.2.1.1 ++ [(List.getD u.2.1 (Int.toNat x2.1) (0 : Int))])) : Nat) : Int) = n)) = false) →
                        ((((!true) = true) →
                          (R (x2.2.1.1 ++ [(List.getD u.2.1 (Int.toNat x2.1) (0 : Int))]))) ∧
                        (((!true) = false) →
                          (inK Go.IntKind.i64 (x2.1 + (1 : Int)) ∧
                          ((I2 ((x2.1 + (1 : Int)), (((x2.2.1.1 ++ [(List.getD u.2.1 (Int.toNat x2.1) (0 : Int))]), ()), ()))) ∧
                          ((μ2 ((x2.1 + (1 : Int)), (((x2.2.1.1 ++ [(List.getD u.2.1 (Int.toNat x2.1) (0 : Int))]), ()), ()))) < (μ2 x2))))))))))) ∧
                    (((decide (x2.1 < (((List.length u.2.1) : Nat) : Int))) = false) →
                      ((I1 ((x2.2.1.1, ()), ())) ∧
                      ((μ1 ((x2.2.1.1, ()), ())) < (μ1 x1)))))))))))))))))))) : CallP Try.prog tT 38 [.fn 51 [.kp (.st (.pair (.sl (.int .i64)) (.pair (.sl (.int .i64)) .unit))) u], .d (.int .i64) n] (.sl (.int .i64)) r :=
  callP_of (cx := cx38) (d := 6) mixed tab_ok inl_ok Try.func38 ⟨fun _ _ => by kernel_rfl⟩ rfl rfl fun wf => Eq.mpr (by kernel_rfl) (h (fun x => x = r) (fun _ => Iff.rfl) (wf.2.1 rfl))
/- foresight/word.Prefix -/
def cx17 : Cx := { T := tT, own := ownT, frz := [], loops := [], cuts := [], inl := inlT }
set_option maxRecDepth 1000000 in
theorem of17 (w : (Ty.T (.st (.pair (.sl (.int .i64)) (.pair (.sl (.int .i64)) .unit))))) (n : (Ty.T (.int .i64))) (r : Ty.T (.sl (.int .i64))) (h : ∀ R : Ty.T (.sl (.int .i64)) → Prop, (∀ x, R x ↔ x = r) → WF (.st (.pair (.sl (.int .i64)) (.pair (.sl (.int .i64)) .unit))) w → WF (.int .i64) n → 
    ((((!(decide (n < (0 : Int)))) = true) →
      ((!(decide (n < (0 : Int)))) = true)) ∧
    ((((decide (n < (0 : Int))) = false) →
      ((!(decide (n < (0 : Int)))) = true)) ∧
    ∃ r : Bool,
    ((((!(selB (decide (n < (0 : Int))) true (decide ((500 : Int) < n)))) = true) →
      (((!(selB (decide (n < (0 : Int))) true (decide ((500 : Int) < n)))) = true) ∧
      CallP Try.prog tT (34 : Nat) [(AV.c (Cap.d (Ty.st (Ty.pair (Ty.sl (Ty.int Go.IntKind.i64)) (Ty.pair (Ty.sl (Ty.int Go.IntKind.i64)) Ty.unit))) w))] Ty.bool r)) ∧
    ((((!(selB (decide (n < (0 : Int))) true (decide ((500 : Int) < n)))) = true) →
      ((!(selB (decide (n < (0 : Int))) true (decide ((500 : Int) < n)))) = true)) ∧
    ((((selB (decide (n < (0 : Int))) true (decide ((500 : Int) < n))) = false) →
      ((!(selB (decide (n < (0 : Int))) true (decide ((500 : Int) < n)))) = true)) ∧
    ((((selB (selB (decide (n < (0 : Int))) true (decide ((500 : Int) < n))) true (!r)) = true) →
      (R ([] : List Int))) ∧
    (((selB (selB (decide (n < (0 : Int))) true (decide ((500 : Int) < n))) true (!r)) = false) →
      ∃ r1 : (List Int),
      (CallP Try.prog tT (38 : Nat) [(AV.fn (51 : Nat) [(Cap.kp (Ty.st (Ty.pair (Ty.sl (Ty.int Go.IntKind.i64)) (Ty.pair (Ty.sl (Ty.int Go.IntKind.i64)) Ty.unit))) w)]), (AV.c (Cap.d (Ty.int Go.IntKind.i64) n))] (Ty.sl (Ty.int Go.IntKind.i64)) r1 ∧
      (R r1)))))))))) : CallP Try.prog tT 17 [.d (.st (.pair (.sl (.int .i64)) (.pair (.sl (.int .i64)) .unit))) w, .d (.int .i64) n] (.sl (.int .i64)) r :=
  callP_of (cx := cx17) (d := 6) mixed tab_ok inl_ok Try.func17 ⟨fun _ _ => by kernel_rfl⟩ rfl rfl fun wf => Eq.mpr (by kernel_rfl) (h (fun x => x = r) (fun _ => Iff.rfl) (wf.1 rfl) (wf.2.1 rfl))
set_option maxRecDepth 1000000 in
theorem sf17 (w : (Ty.T (.st (.pair (.sl (.int .i64)) (.pair (.sl (.int .i64)) .unit))))) (n : (Ty.T (.int .i64))) (r : Ty.T (.sl (.int .i64))) (h : ∀ R : Ty.T (.sl (.int .i64)) → Prop, (∀ x, R x ↔ x = r) → WF (.st (.pair (.sl (.int .i64)) (.pair (.sl (.int .i64)) .unit))) w → WF (.int .i64) n → 
    (∃ r : Bool,
    ((((0 : Int) ≤ n) → (n ≤ (500 : Int)) →
      CallP Try.prog tT (34 : Nat) [(AV.c (Cap.d (Ty.st (Ty.pair (Ty.sl (Ty.int Go.IntKind.i64)) (Ty.pair (Ty.sl (Ty.int Go.IntKind.i64)) Ty.unit))) w))] Ty.bool r) ∧
    (((((n < (0 : Int)) ∨ ((500 : Int) < n)) ∨ (r = false)) →
      (R ([] : List Int))) ∧
    (((0 : Int) ≤ n) → (n ≤ (500 : Int)) → (r = true) →
      (∃ r1 : (List Int),
      (CallP Try.prog tT (38 : Nat) [(AV.fn (51 : Nat) [(Cap.kp (Ty.st (Ty.pair (Ty.sl (Ty.int Go.IntKind.i64)) (Ty.pair (Ty.sl (Ty.int Go.IntKind.i64)) Ty.unit))) w)]), (AV.c (Cap.d (Ty.int Go.IntKind.i64) n))] (Ty.sl (Ty.int Go.IntKind.i64)) r1 ∧
      (R r1)))))))) : CallP Try.prog tT 17 [.d (.st (.pair (.sl (.int .i64)) (.pair (.sl (.int .i64)) .unit))) w, .d (.int .i64) n] (.sl (.int .i64)) r :=
  of17 w n r fun R hR w0_ w1_ => have p := h R hR w0_ w1_
    ⟨(fun h3 => h3), ⟨(fun h5 => (bnot_t2 h5)), (Exists.elim p fun r q6 => Exists.intro r ⟨(fun h12 => ⟨h12, (q6.1 (Int.not_lt.1 (of_decide_eq_false (selB_of (bnot_t h12)).1)) (Int.not_lt.1 (of_decide_eq_false (selB_of (bnot_t h12)).2)))⟩), ⟨(fun h16 => h16), ⟨(fun h19 => (bnot_t2 h19)), ⟨(fun h25 => (q6.2.1 (Or.imp (fun h => (Or.imp (fun h => (of_decide_eq_true h)) (fun h => (of_decide_eq_true h)) (selB_ot h))) (fun h => (bnot_t h)) (selB_ot h25)))), (fun h27 => (Exists.elim (q6.2.2 (Int.not_lt.1 (of_decide_eq_false (selB_of (selB_of h27).1).1)) (Int.not_lt.1 (of_decide_eq_false (selB_of (selB_of h27).1).2)) (bnot_f (selB_of h27).2)) fun r1 q28 => Exists.intro r1 ⟨q28.1, q28.2⟩))⟩⟩⟩⟩)⟩⟩
/- slices.ContainsFunc[[]int,int] -/
def cx44a : Cx := { T := tT, own := ownT, frz := [], loops := [], cuts := [], inl := inlT }
set_option maxRecDepth 1000000 in
theorem of44a (s : (Ty.T (.sl (.int .i64)))) (r : Ty.T .bool) (h : ∀ R : Ty.T .bool → Prop, (∀ x, R x ↔ x = r) → WF (.sl (.int .i64)) s → 
    ∃ r : Int,
    (CallP Try.prog tT (56 : Nat) [(AV.c (Cap.d (Ty.sl (Ty.int Go.IntKind.i64)) s)), (AV.fn (45 : Nat) ([] : List Go.Proofs.Ytblibehfjjgdeaa.Cap))] (Ty.int Go.IntKind.i64) r ∧
    (R (decide ((0 : Int) ≤ r))))) : CallP Try.prog tT 44 [.d (.sl (.int .i64)) s, .fn 45 []] .bool r :=
  callP_of (cx := cx44a) (d := 6) mixed tab_ok inl_ok Try.func44 ⟨fun _ _ => by kernel_rfl⟩ rfl rfl fun wf => Eq.mpr (by kernel_rfl) (h (fun x => x = r) (fun _ => Iff.rfl) (wf.1 rfl))
/- slices.ContainsFunc[[]int,int] -/
def cx44b : Cx := { T := tT, own := ownT, frz := [], loops := [], cuts := [], inl := inlT }
set_option maxRecDepth 1000000 in
theorem of44b (s : (Ty.T (.sl (.int .i64)))) (r : Ty.T .bool) (h : ∀ R : Ty.T .bool → Prop, (∀ x, R x ↔ x = r) → WF (.sl (.int .i64)) s → 
    ∃ r : Int,
    (CallP Try.prog tT (56 : Nat) [(AV.c (Cap.d (Ty.sl (Ty.int Go.IntKind.i64)) s)), (AV.fn (50 : Nat) ([] : List Go.Proofs.Ytblibehfjjgdeaa.Cap))] (Ty.int Go.IntKind.i64) r ∧
    (R (decide ((0 : Int) ≤ r))))) : CallP Try.prog tT 44 [.d (.sl (.int .i64)) s, .fn 50 []] .bool r :=
  callP_of (cx := cx44b) (d := 6) mixed tab_ok inl_ok Try.func44 ⟨fun _ _ => by kernel_rfl⟩ rfl rfl fun wf => Eq.mpr (by kernel_rfl) (h (fun x => x = r) (fun _ => Iff.rfl) (wf.1 rfl))
/- slices.IndexFunc[[]int,int] -/
def cx56a : Cx := { T := tT, own := ownT, frz := [], loops := [(560003, 38, ⟨[.val 8 (.int .i64)], 0⟩)], cuts := [], inl := inlT }
set_option maxRecDepth 1000000 in
theorem of56a (s : (Ty.T (.sl (.int .i64)))) (r : Ty.T (.int .i64)) (h : ∀ R : Ty.T (.int .i64) → Prop, (∀ x, R x ↔ x = r) → WF (.sl (.int .i64)) s → 
    ∃ I : ((Int × Unit) → Prop),
    ∃ μ : ((Int × Unit) → Nat),
    ((I ((0 : Int), ())) ∧
    ∀ x : (Int × Unit),
    ((WF (Ty.int Go.IntKind.i64) x.1 ∧
      True) →
      ((I x) →
        ((((decide (x.1 < (((List.length s) : Nat) : Int))) = true) →
          ((((0 : Int) ≤ x.1) ∧
          (x.1 < (((List.length s) : Nat) : Int))) ∧
          ∃ r : Bool,
          (CallP Try.prog tT (45 : Nat) [(AV.c (Cap.d (Ty.int Go.IntKind.i64) (List.getD s (Int.toNat x.1) (0 : Int))))] Ty.bool r ∧
          (((r = true) →
            (R x.1)) ∧
          ((r = false) →
            (inK Go.IntKind.i64 (x.1 + (1 : Int)) ∧
            ((I ((x.1 + (1 : Int)), ())) ∧
            ((μ ((x.1 + (1 : Int)), ())) < (μ x))))))))) ∧
        (((decide (x.1 < (((List.length s) : Nat) : Int))) = false) →
          (R (-(1 : Int))))))))) : CallP Try.prog tT 56 [.d (.sl (.int .i64)) s, .fn 45 []] (.int .i64) r :=
  callP_of (cx := cx56a) (d := 6) mixed tab_ok inl_ok Try.func56 ⟨fun _ _ => by kernel_rfl⟩ rfl rfl fun wf => Eq.mpr (by kernel_rfl) (h (fun x => x = r) (fun _ => Iff.rfl) (wf.1 rfl))
/- slices.IndexFunc[[]int,int] -/
def cx56b : Cx := { T := tT, own := ownT, frz := [], loops := [(560003, 38, ⟨[.val 8 (.int .i64)], 0⟩)], cuts := [], inl := inlT }
set_option maxRecDepth 1000000 in
theorem of56b (s : (Ty.T (.sl (.int .i64)))) (r : Ty.T (.int .i64)) (h : ∀ R : Ty.T (.int .i64) → Prop, (∀ x, R x ↔ x = r) → WF (.sl (.int .i64)) s → 
    ∃ I : ((Int × Unit) → Prop),
    ∃ μ : ((Int × Unit) → Nat),
    ((I ((0 : Int), ())) ∧
    ∀ x : (Int × Unit),
    ((WF (Ty.int Go.IntKind.i64) x.1 ∧
      True) →
      ((I x) →
        ((((decide (x.1 < (((List.length s) : Nat) : Int))) = true) →
          ((((0 : Int) ≤ x.1) ∧
          (x.1 < (((List.length s) : Nat) : Int))) ∧
          ∃ r : Bool,
          (CallP Try.prog tT (50 : Nat) [(AV.c (Cap.d (Ty.int Go.IntKind.i64) (List.getD s (Int.toNat x.1) (0 : Int))))] Ty.bool r ∧
          (((r = true) →
            (R x.1)) ∧
          ((r = false) →
            (inK Go.IntKind.i64 (x.1 + (1 : Int)) ∧
            ((I ((x.1 + (1 : Int)), ())) ∧
            ((μ ((x.1 + (1 : Int)), ())) < (μ x))))))))) ∧
        (((decide (x.1 < (((List.length s) : Nat) : Int))) = false) →
          (R (-(1 : Int))))))))) : CallP Try.prog tT 56 [.d (.sl (.int .i64)) s, .fn 50 []] (.int .i64) r :=
  callP_of (cx := cx56b) (d := 6) mixed tab_ok inl_ok Try.func56 ⟨fun _ _ => by kernel_rfl⟩ rfl rfl fun wf => Eq.mpr (by kernel_rfl) (h (fun x => x = r) (fun _ => Iff.rfl) (wf.1 rfl))
/- foresight/word.Push 1 -/
def cx45 : Cx := { T := tT, own := ownT, frz := [], loops := [], cuts := [], inl := inlT }
set_option maxRecDepth 1000000 in
theorem of45 (n : (Ty.T (.int .i64))) (r : Ty.T .bool) (h : ∀ R : Ty.T .bool → Prop, (∀ x, R x ↔ x = r) → WF (.int .i64) n → 
    ∃ r : Bool,
    (CallP Try.prog tT (46 : Nat) [(AV.c (Cap.d (Ty.int Go.IntKind.i64) n))] Ty.bool r ∧
    (R (!r)))) : CallP Try.prog tT 45 [.d (.int .i64) n] .bool r :=
  callP_of (cx := cx45) (d := 6) mixed tab_ok inl_ok Try.func45 ⟨fun _ _ => by kernel_rfl⟩ rfl rfl fun wf => Eq.mpr (by kernel_rfl) (h (fun x => x = r) (fun _ => Iff.rfl) (wf.1 rfl))
/- foresight/word.formed 1 -/
def cx50 : Cx := { T := tT, own := ownT, frz := [], loops := [], cuts := [], inl := inlT }
set_option maxRecDepth 1000000 in
theorem of50 (n : (Ty.T (.int .i64))) (r : Ty.T .bool) (h : ∀ R : Ty.T .bool → Prop, (∀ x, R x ↔ x = r) → WF (.int .i64) n → 
    ∃ r : Bool,
    (CallP Try.prog tT (46 : Nat) [(AV.c (Cap.d (Ty.int Go.IntKind.i64) n))] Ty.bool r ∧
    (R (!r)))) : CallP Try.prog tT 50 [.d (.int .i64) n] .bool r :=
  callP_of (cx := cx50) (d := 6) mixed tab_ok inl_ok Try.func50 ⟨fun _ _ => by kernel_rfl⟩ rfl rfl fun wf => Eq.mpr (by kernel_rfl) (h (fun x => x = r) (fun _ => Iff.rfl) (wf.1 rfl))
/- foresight/foresightlaw02.WordMatchesReference -/
def cx3 : Cx := { T := tT, own := ownT, frz := [], loops := [], cuts := [], inl := inlT }
set_option maxRecDepth 1000000 in
theorem of3 (a : (Ty.T (.st (.pair (.sl (.int .i64)) (.pair (.sl (.int .i64)) .unit))))) (b : (Ty.T (.st (.pair (.sl (.int .i64)) (.pair (.sl (.int .i64)) .unit))))) (letters : (Ty.T (.int .i64))) (i : (Ty.T (.int .i64))) (l : (Ty.T (.sl (.int .i64)))) (table : (Ty.T (.sl (.sl (.int .i64))))) (r : Ty.T .bool) (h : ∀ R : Ty.T .bool → Prop, (∀ x, R x ↔ x = r) → WF (.st (.pair (.sl (.int .i64)) (.pair (.sl (.int .i64)) .unit))) a → WF (.st (.pair (.sl (.int .i64)) (.pair (.sl (.int .i64)) .unit))) b → WF (.int .i64) letters → WF (.int .i64) i → WF (.sl (.int .i64)) l → WF (.sl (.sl (.int .i64))) table → 
    ∃ r : Bool,
    (CallP Try.prog tT (10 : Nat) [] Ty.bool r ∧
    ∃ r1 : Bool,
    (CallP Try.prog tT (11 : Nat) [(AV.c (Cap.d (Ty.st (Ty.pair (Ty.sl (Ty.int Go.IntKind.i64)) (Ty.pair (Ty.sl (Ty.int Go.IntKind.i64)) Ty.unit))) a))] Ty.bool r1 ∧
    ∃ r2 : Bool,
    ((((!(!r1)) = true) →
      (((!(!r1)) = true) ∧
      CallP Try.prog tT (11 : Nat) [(AV.c (Cap.d (Ty.st (Ty.pair (Ty.sl (Ty.int Go.IntKind.i64)) (Ty.pair (Ty.sl (Ty.int Go.IntKind.i64)) Ty.unit))) b))] Ty.bool r2)) ∧
    ((((!(!r1)) = true) →
      ((!(!r1)) = true)) ∧
    ((((!r1) = false) →
      ((!(!r1)) = true)) ∧
    ((((!(selB (!r1) true (!r2))) = true) →
      ((!(selB (!r1) true (!r2))) = true)) ∧
    ((((!(selB (!r1) true (!r2))) = true) →
      ((!(selB (!r1) true (!r2))) = true)) ∧
    ((((selB (!r1) true (!r2)) = false) →
      ((!(selB (!r1) true (!r2))) = true)) ∧
    ((((!(selB (selB (!r1) true (!r2)) true (decide ((80 : Int) < (((List.length l) : Nat) : Int))))) = true) →
      ((!(selB (selB (!r1) true (!r2)) true (decide ((80 : Int) < (((List.length l) : Nat) : Int))))) = true)) ∧
    ((((!(selB (selB (!r1) true (!r2)) true (decide ((80 : Int) < (((List.length l) : Nat) : Int))))) = true) →
      ((!(selB (selB (!r1) true (!r2)) true (decide ((80 : Int) < (((List.length l) : Nat) : Int))))) = true)) ∧
    ((((selB (selB (!r1) true (!r2)) true (decide ((80 : Int) < (((List.length l) : Nat) : Int)))) = false) →
      ((!(selB (selB (!r1) true (!r2)) true (decide ((80 : Int) < (((List.length l) : Nat) : Int))))) = true)) ∧
    ((((selB (selB (selB (!r1) true (!r2)) true (decide ((80 : Int) < (((List.length l) : Nat) : Int)))) true (decide ((64 : Int) < (((List.length table) : Nat) : Int)))) = true) →
      (R r)) ∧
    (((selB (selB (selB (!r1) true (!r2)) true (decide ((80 : Int) < (((List.length l) : Nat) : Int)))) true (decide ((64 : Int) < (((List.length table) : Nat) : Int)))) = false) →
      ∃ r3 : Bool,
      (CallP Try.prog tT (12 : Nat) [(AV.c (Cap.d (Ty.int Go.IntKind.i64) letters)), (AV.c (Cap.d (Ty.st (Ty.pair (Ty.sl (Ty.int Go.IntKind.i64)) (Ty.pair (Ty.sl (Ty.int Go.IntKind.i64)) Ty.unit))) a))] Ty.bool r3 ∧
      ∃ r4 : Bool,
      (CallP Try.prog tT (13 : Nat) [(AV.c (Cap.d (Ty.int Go.IntKind.i64) letters)), (AV.c (Cap.d (Ty.st (Ty.pair (Ty.sl (Ty.int Go.IntKind.i64)) (Ty.pair (Ty.sl (Ty.int Go.IntKind.i64)) Ty.unit))) a))] Ty.bool r4 ∧
      ∃ r5 : Int,
      ((((r3 == r4) = true) →
        ((((r3 == r4) = true) ∧
        ((r3 == r4) = true)) ∧
        CallP Try.prog tT (14 : Nat) [(AV.c (Cap.d (Ty.st (Ty.pair (Ty.sl (Ty.int Go.IntKind.i64)) (Ty.pair (Ty.sl (Ty.int Go.IntKind.i64)) Ty.unit))) a)), (AV.c (Cap.d (Ty.int Go.IntKind.i64) i))] (Ty.int Go.IntKind.i64) r5)) ∧
      ∃ r6 : Int,
      ((((r3 == r4) = true) →
        ((((r3 == r4) = true) ∧
        ((r3 == r4) = true)) ∧
        CallP Try.prog tT (15 : Nat) [(AV.c (Cap.d (Ty.st (Ty.pair (Ty.sl (Ty.int Go.IntKind.i64)) (Ty.pair (Ty.sl (Ty.int Go.IntKind.i64)) Ty.unit))) a)), (AV.c (Cap.d (Ty.int Go.IntKind.i64) i))] (Ty.int Go.IntKind.i64) r6)) ∧
      ((((r3 == r4) = true) →
        (((r3 == r4) = true) ∧
        ((r3 == r4) = true))) ∧
      ((((r3 == r4) = true) →
        ((r3 == r4) = true)) ∧
      ∃ r7 : (List Int),
      ((((selB (r3 == r4) (decide (r5 = r6)) false) = true) →
        ((((selB (r3 == r4) (decide (r5 = r6)) false) = true) ∧
        ((selB (r3 == r4) (decide (r5 = r6)) false) = true)) ∧
        CallP Try.prog tT (17 : Nat) [(AV.c (Cap.d (Ty.st (Ty.pair (Ty.sl (Ty.int Go.IntKind.i64)) (Ty.pair (Ty.sl (Ty.int Go.IntKind.i64)) Ty.unit))) a)), (AV.c (Cap.d (Ty.int Go.IntKind.i64) i))] (Ty.sl (Ty.int Go.IntKind.i64)) r7)) ∧
      ∃ r8 : (List Int),
      ((((selB (r3 == r4) (decide (r5 = r6)) false) = true) →
        ((((selB (r3 == r4) (decide (r5 = r6)) false) = true) ∧
        ((selB (r3 == r4) (decide (r5 = r6)) false) = true)) ∧
        CallP Try.prog tT (18 : Nat) [(AV.c (Cap.d (Ty.st (Ty.pair (Ty.sl (Ty.int Go.IntKind.i64)) (Ty.pair (Ty.sl (Ty.int Go.IntKind.i64)) Ty.unit))) a)), (AV.c (Cap.d (Ty.int Go.IntKind.i64) i))] (Ty.sl (Ty.int Go.IntKind.i64)) r8)) ∧
      ∃ r9 : Bool,
      ((((selB (r3 == r4) (decide (r5 = r6)) false) = true) →
        ((((selB (r3 == r4) (decide (r5 = r6)) false) = true) ∧
        ((selB (r3 == r4) (decide (r5 = r6)) false) = true)) ∧
        CallP Try.prog tT (16 : Nat) [(AV.c (Cap.d (Ty.sl (Ty.int Go.IntKind.i64)) r7)), (AV.c (Cap.d (Ty.sl (Ty.int Go.IntKind.i64)) r8))] Ty.bool r9)) ∧
      ((((selB (r3 == r4) (decide (r5 = r6)) false) = true) →
        ((selB (r3 == r4) (decide (r5 = r6)) false) = true)) ∧
      ∃ r10 : ((List Int) × ((List Int) × Unit)),
      ((((selB (selB (r3 == r4) (decide (r5 = r6)) false) r9 false) = true) →
        (((selB (selB (r3 == r4) (decide (r5 = r6)) false) r9 false) = true) ∧
        CallP Try.prog tT (20 : Nat) [(AV.c (Cap.d (Ty.st (Ty.pair (Ty.sl (Ty.int Go.IntKind.i64)) (Ty.pair (Ty.sl (Ty.int Go.IntKind.i64)) Ty.unit))) a))] (Ty.st (Ty.pair (Ty.sl (Ty.int Go.IntKind.i64)) (Ty.pair (Ty.sl (Ty.int Go.IntKind.i64)) Ty.unit))) r10)) ∧
      ∃ r11 : ((List Int) × ((List Int) × Unit)),
      ((((selB (selB (r3 == r4) (decide (r5 = r6)) false) r9 false) = true) →
        (((selB (selB (r3 == r4) (decide (r5 = r6)) false) r9 false) = true) ∧
        CallP Try.prog tT (21 : Nat) [(AV.c (Cap.d (Ty.st (Ty.pair (Ty.sl (Ty.int Go.IntKind.i64)) (Ty.pair (Ty.sl (Ty.int Go.IntKind.i64)) Ty.unit))) a))] (Ty.st (Ty.pair (Ty.sl (Ty.int Go.IntKind.i64)) (Ty.pair (Ty.sl (Ty.int Go.IntKind.i64)) Ty.unit))) r11)) ∧
      ∃ r12 : Bool,
      ((((selB (selB (r3 == r4) (decide (r5 = r6)) false) r9 false) = true) →
        ((((selB (selB (r3 == r4) (decide (r5 = r6)) false) r9 false) = true) ∧
        ((selB (selB (r3 == r4) (decide (r5 = r6)) false) r9 false) = true)) ∧
        CallP Try.prog tT (19 : Nat) [(AV.c (Cap.d (Ty.st (Ty.pair (Ty.sl (Ty.int Go.IntKind.i64)) (Ty.pair (Ty.sl (Ty.int Go.IntKind.i64)) Ty.unit))) r10)), (AV.c (Cap.d (Ty.st (Ty.pair (Ty.sl (Ty.int Go.IntKind.i64)) (Ty.pair (Ty.sl (Ty.int Go.IntKind.i64)) Ty.unit))) r11))] Ty.bool r12)) ∧
      ((((selB (selB (r3 == r4) (decide (r5 = r6)) false) r9 false) = true) →
        ((selB (selB (r3 == r4) (decide (r5 = r6)) false) r9 false) = true)) ∧
      ∃ r13 : Bool,
      ((((selB (selB (selB (r3 == r4) (decide (r5 = r6)) false) r9 false) r12 false) = true) →
        ((((selB (selB (selB (r3 == r4) (decide (r5 = r6)) false) r9 false) r12 false) = true) ∧
        ((selB (selB (selB (r3 == r4) (decide (r5 = r6)) false) r9 false) r12 false) = true)) ∧
        CallP Try.prog tT (22 : Nat) [(AV.c (Cap.d (Ty.st (Ty.pair (Ty.sl (Ty.int Go.IntKind.i64)) (Ty.pair (Ty.sl (Ty.int Go.IntKind.i64)) Ty.unit))) a)), (AV.c (Cap.d (Ty.st (Ty.pair (Ty.sl (Ty.int Go.IntKind.i64)) (Ty.pair (Ty.sl (Ty.int Go.IntKind.i64)) Ty.unit))) b))] Ty.bool r13)) ∧
      ∃ r14 : Bool,
      ((((selB (selB (selB (r3 == r4) (decide (r5 = r6)) false) r9 false) r12 false) = true) →
        ((((selB (selB (selB (r3 == r4) (decide (r5 = r6)) false) r9 false) r12 false) = true) ∧
        ((selB (selB (selB (r3 == r4) (decide (r5 = r6)) false) r9 false) r12 false) = true)) ∧
        CallP Try.prog tT (23 : Nat) [(AV.c (Cap.d (Ty.st (Ty.pair (Ty.sl (Ty.int Go.IntKind.i64)) (Ty.pair (Ty.sl (Ty.int Go.IntKind.i64)) Ty.unit))) a)), (AV.c (Cap.d (Ty.st (Ty.pair (Ty.sl (Ty.int Go.IntKind.i64)) (Ty.pair (Ty.sl (Ty.int Go.IntKind.i64)) Ty.unit))) b))] Ty.bool r14)) ∧
      ((((selB (selB (selB (r3 == r4) (decide (r5 = r6)) false) r9 false) r12 false) = true) →
        (((selB (selB (selB (r3 == r4) (decide (r5 = r6)) false) r9 false) r12 false) = true) ∧
        ((selB (selB (selB (r3 == r4) (decide (r5 = r6)) false) r9 false) r12 false) = true))) ∧
      ((((selB (selB (selB (r3 == r4) (decide (r5 = r6)) false) r9 false) r12 false) = true) →
        ((selB (selB (selB (r3 == r4) (decide (r5 = r6)) false) r9 false) r12 false) = true)) ∧
      (((r = true) →
        (r = true)) ∧
      ∃ r15 : ((List Int) × ((List Int) × Unit)),
      ((((selB r (selB (selB (selB (selB (r3 == r4) (decide (r5 = r6)) false) r9 false) r12 false) (r13 == r14) false) false) = true) →
        ((((selB r (selB (selB (selB (selB (r3 == r4) (decide (r5 = r6)) false) r9 false) r12 false) (r13 == r14) false) false) = true) ∧
        ((selB r (selB (selB (selB (selB (r3 == r4) (decide (r5 = r6)) false) r9 false) r12 false) (r13 == r14) false) false) = true)) ∧
        CallP Try.prog tT (24 : Nat) [(AV.c (Cap.d (Ty.st (Ty.pair (Ty.sl (Ty.int Go.IntKind.i64)) (Ty.pair (Ty.sl (Ty.int Go.IntKind.i64)) Ty.unit))) a)), (AV.c (Cap.d (Ty.int Go.IntKind.i64) i))] (Ty.st (Ty.pair (Ty.sl (Ty.int Go.IntKind.i64)) (Ty.pair (Ty.sl (Ty.int Go.IntKind.i64)) Ty.unit))) r15)) ∧
      ∃ r16 : ((List Int) × ((List Int) × Unit)),
      ((((selB r (selB (selB (selB (selB (r3 == r4) (decide (r5 = r6)) false) r9 false) r12 false) (r13 == r14) false) false) = true) →
        ((((selB r (selB (selB (selB (selB (r3 == r4) (decide (r5 = r6)) false) r9 false) r12 false) (r13 == r14) false) false) = true) ∧
        ((selB r (selB (selB (selB (selB (r3 == r4) (decide (r5 = r6)) false) r9 false) r12 false) (r13 == r14) false) false) = true)) ∧
        CallP Try.prog tT (25 : Nat) [(AV.c (Cap.d (Ty.st (Ty.pair (Ty.sl (Ty.int Go.IntKind.i64)) (Ty.pair (Ty.sl (Ty.int Go.IntKind.i64)) Ty.unit))) a)), (AV.c (Cap.d (Ty.int Go.IntKind.i64) i))] (Ty.st (Ty.pair (Ty.sl (Ty.int Go.IntKind.i64)) (Ty.pair (Ty.sl (Ty.int Go.IntKind.i64)) Ty.unit))) r16)) ∧
      ∃ r17 : Bool,
      ((((selB r (selB (selB (selB (selB (r3 == r4) (decide (r5 = r6)) false) r9 false) r12 false) (r13 == r14) false) false) = true) →
        ((((selB r (selB (selB (selB (selB (r3 == r4) (decide (r5 = r6)) false) r9 false) r12 false) (r13 == r14) false) false) = true) ∧
        ((selB r (selB (selB (selB (selB (r3 == r4) (decide (r5 = r6)) false) r9 false) r12 false) (r13 == r14) false) false) = true)) ∧
        CallP Try.prog tT (19 : Nat) [(AV.c (Cap.d (Ty.st (Ty.pair (Ty.sl (Ty.int Go.IntKind.i64)) (Ty.pair (Ty.sl (Ty.int Go.IntKind.i64)) Ty.unit))) r15)), (AV.c (Cap.d (Ty.st (Ty.pair (Ty.sl (Ty.int Go.IntKind.i64)) (Ty.pair (Ty.sl (Ty.int Go.IntKind.i64)) Ty.unit))) r16))] Ty.bool r17)) ∧
      ((((selB r (selB (selB (selB (selB (r3 == r4) (decide (r5 = r6)) false) r9 false) r12 false) (r13 == r14) false) false) = true) →
        ((selB r (selB (selB (selB (selB (r3 == r4) (decide (r5 = r6)) false) r9 false) r12 false) (r13 == r14) false) false) = true)) ∧
      ∃ r18 : ((List Int) × ((List Int) × Unit)),
      ((((selB (selB r (selB (selB (selB (selB (r3 == r4) (decide (r5 = r6)) false) r9 false) r12 false) (r13 == r14) false) false) r17 false) = true) →
        ((((selB (selB r (selB (selB (selB (selB (r3 == r4) (decide (r5 = r6)) false) r9 false) r12 false) (r13 == r14) false) false) r17 false) = true) ∧
        ((selB (selB r (selB (selB (selB (selB (r3 == r4) (decide (r5 = r6)) false) r9 false) r12 false) (r13 == r14) false) false) r17 false) = true)) ∧
        CallP Try.prog tT (26 : Nat) [(AV.c (Cap.d (Ty.sl (Ty.int Go.IntKind.i64)) l)), (AV.c (Cap.d (Ty.st (Ty.pair (Ty.sl (Ty.int Go.IntKind.i64)) (Ty.pair (Ty.sl (Ty.int Go.IntKind.i64)) Ty.unit))) a))] (Ty.st (Ty.pair (Ty.sl (Ty.int Go.IntKind.i64)) (Ty.pair (Ty.sl (Ty.int Go.IntKind.i64)) Ty.unit))) r18)) ∧
      ∃ r19 : ((List Int) × ((List Int) × Unit)),
      ((((selB (selB r (selB (selB (selB (selB (r3 == r4) (decide (r5 = r6)) false) r9 false) r12 false) (r13 == r14) false) false) r17 false) = true) →
        ((((selB (selB r (selB (selB (selB (selB (r3 == r4) (decide (r5 = r6)) false) r9 false) r12 false) (r13 == r14) false) false) r17 false) = true) ∧
        ((selB (selB r (selB (selB (selB (selB (r3 == r4) (decide (r5 = r6)) false) r9 false) r12 false) (r13 == r14) false) false) r17 false) = true)) ∧
        CallP Try.prog tT (27 : Nat) [(AV.c (Cap.d (Ty.sl (Ty.int Go.IntKind.i64)) l)), (AV.c (Cap.d (Ty.st (Ty.pair (Ty.sl (Ty.int Go.IntKind.i64)) (Ty.pair (Ty.sl (Ty.int Go.IntKind.i64)) Ty.unit))) a))] (Ty.st (Ty.pair (Ty.sl (Ty.int Go.IntKind.i64)) (Ty.pair (Ty.sl (Ty.int Go.IntKind.i64)) Ty.unit))) r19)) ∧
      ∃ r20 : Bool,
      ((((selB (selB r (selB (selB (selB (selB (r3 == r4) (decide (r5 = r6)) false) r9 false) r12 false) (r13 == r14) false) false) r17 false) = true) →
        ((((selB (selB r (selB (selB (selB (selB (r3 == r4) (decide (r5 = r6)) false) r9 false) r12 false) (r13 == r14) false) false) r17 false) = true) ∧
        ((selB (selB r (selB (selB (selB (selB (r3 == r4) (decide (r5 = r6)) false) r9 false) r12 false) (r13 == r14) false) false) r17 false) = true)) ∧
        CallP Try.prog tT (19 : Nat) [(AV.c (Cap.d (Ty.st (Ty.pair (Ty.sl (Ty.int Go.IntKind.i64)) (Ty.pair (Ty.sl (Ty.int Go.IntKind.i64)) Ty.unit))) r18)), (AV.c (Cap.d (Ty.st (Ty.pair (Ty.sl (Ty.int Go.IntKind.i64)) (Ty.pair (Ty.sl (Ty.int Go.IntKind.i64)) Ty.unit))) r19))] Ty.bool r20)) ∧
      ((((selB (selB r (selB (selB (selB (selB (r3 == r4) (decide (r5 = r6)) false) r9 false) r12 false) (r13 == r14) false) false) r17 false) = true) →
        ((selB (selB r (selB (selB (selB (selB (r3 == r4) (decide (r5 = r6)) false) r9 false) r12 false) (r13 == r14) false) false) r17 false) = true)) ∧
      ∃ r21 : ((List Int) × ((List Int) × Unit)),
      ((((selB (selB (selB r (selB (selB (selB (selB (r3 == r4) (decide (r5 = r6)) false) r9 false) r12 false) (r13 == r14) false) false) r17 false) r20 false) = true) →
        ((((selB (selB (selB r (selB (selB (selB (selB (r3 == r4) (decide (r5 = r6)) false) r9 false) r12 false) (r13 == r14) false) false) r17 false) r20 false) = true) ∧
        (((selB (selB (selB r (selB (selB (selB (selB (r3 == r4) (decide (r5 = r6)) false) r9 false) r12 false) (r13 == r14) false) false) r17 false) r20 false) = true) ∧
        ((selB (selB (selB r (selB (selB (selB (selB (r3 == r4) (decide (r5 = r6)) false) r9 false) r12 false) (r13 == r14) false) false) r17 false) r20 false) = true))) ∧
        CallP Try.prog tT (28 : Nat) [(AV.c (Cap.d (Ty.st (Ty.pair (Ty.sl (Ty.int Go.IntKind.i64)) (Ty.pair (Ty.sl (Ty.int Go.IntKind.i64)) Ty.unit))) a)), (AV.c (Cap.d (Ty.st (Ty.pair (Ty.sl (Ty.int Go.IntKind.i64)) (Ty.pair (Ty.sl (Ty.int Go.IntKind.i64)) Ty.unit))) b)), (AV.c (Cap.d (Ty.sl (Ty.sl (Ty.int Go.IntKind.i64))) table))] (Ty.st (Ty.pair (Ty.sl (Ty.int Go.IntKind.i64)) (Ty.pair (Ty.sl (Ty.int Go.IntKind.i64)) Ty.unit))) r21)) ∧
      ∃ r22 : ((List Int) × ((List Int) × Unit)),
      ((((selB (selB (selB r (selB (selB (selB (selB (r3 == r4) (decide (r5 = r6)) false) r9 false) r12 false) (r13 == r14) false) false) r17 false) r20 false) = true) →
        ((((selB (selB (selB r (selB (selB (selB (selB (r3 == r4) (decide (r5 = r6)) false) r9 false) r12 false) (r13 == r14) false) false) r17 false) r20 false) = true) ∧
        (((selB (selB (selB r (selB (selB (selB (selB (r3 == r4) (decide (r5 = r6)) false) r9 false) r12 false) (r13 == r14) false) false) r17 false) r20 false) = true) ∧
        ((selB (selB (selB r (selB (selB (selB (selB (r3 == r4) (decide (r5 = r6)) false) r9 false) r12 false) (r13 == r14) false) false) r17 false) r20 false) = true))) ∧
        CallP Try.prog tT (29 : Nat) [(AV.c (Cap.d (Ty.st (Ty.pair (Ty.sl (Ty.int Go.IntKind.i64)) (Ty.pair (Ty.sl (Ty.int Go.IntKind.i64)) Ty.unit))) a)), (AV.c (Cap.d (Ty.st (Ty.pair (Ty.sl (Ty.int Go.IntKind.i64)) (Ty.pair (Ty.sl (Ty.int Go.IntKind.i64)) Ty.unit))) b)), (AV.c (Cap.d (Ty.sl (Ty.sl (Ty.int Go.IntKind.i64))) table))] (Ty.st (Ty.pair (Ty.sl (Ty.int Go.IntKind.i64)) (Ty.pair (Ty.sl (Ty.int Go.IntKind.i64)) Ty.unit))) r22)) ∧
      ∃ r23 : Bool,
      ((((selB (selB (selB r (selB (selB (selB (selB (r3 == r4) (decide (r5 = r6)) false) r9 false) r12 false) (r13 == r14) false) false) r17 false) r20 false) = true) →
        ((((selB (selB (selB r (selB (selB (selB (selB (r3 == r4) (decide (r5 = r6)) false) r9 false) r12 false) (r13 == r14) false) false) r17 false) r20 false) = true) ∧
        ((selB (selB (selB r (selB (selB (selB (selB (r3 == r4) (decide (r5 = r6)) false) r9 false) r12 false) (r13 == r14) false) false) r17 false) r20 false) = true)) ∧
        CallP Try.prog tT (19 : Nat) [(AV.c (Cap.d (Ty.st (Ty.pair (Ty.sl (Ty.int Go.IntKind.i64)) (Ty.pair (Ty.sl (Ty.int Go.IntKind.i64)) Ty.unit))) r21)), (AV.c (Cap.d (Ty.st (Ty.pair (Ty.sl (Ty.int Go.IntKind.i64)) (Ty.pair (Ty.sl (Ty.int Go.IntKind.i64)) Ty.unit))) r22))] Ty.bool r23)) ∧
      ((((selB (selB (selB r (selB (selB (selB (selB (r3 == r4) (decide (r5 = r6)) false) r9 false) r12 false) (r13 == r14) false) false) r17 false) r20 false) = true) →
        ((selB (selB (selB r (selB (selB (selB (selB (r3 == r4) (decide (r5 = r6)) false) r9 false) r12 false) (r13 == r14) false) false) r17 false) r20 false) = true)) ∧
      (R (selB (selB (selB (selB r (selB (selB (selB (selB (r3 == r4) (decide (r5 = r6)) false) r9 false) r12 false) (r13 == r14) false) false) r17 false) r20 false) r23 false))))))))))))))))))))))))))))))))))))))))))))))) : CallP Try.prog tT 3 [.d (.st (.pair (.sl (.int .i64)) (.pair (.sl (.int .i64)) .unit))) a, .d (.st (.pair (.sl (.int .i64)) (.pair (.sl (.int .i64)) .unit))) b, .d (.int .i64) letters, .d (.int .i64) i, .d (.sl (.int .i64)) l, .d (.sl (.sl (.int .i64))) table] .bool r :=
  callP_of (cx := cx3) (d := 6) mixed tab_ok inl_ok Try.func3 ⟨fun _ _ => by kernel_rfl⟩ rfl rfl fun wf => Eq.mpr (by kernel_rfl) (h (fun x => x = r) (fun _ => Iff.rfl) (wf.1 rfl) (wf.2.1 rfl) (wf.2.2.1 rfl) (wf.2.2.2.1 rfl) (wf.2.2.2.2.1 rfl) (wf.2.2.2.2.2.1 rfl))
set_option maxRecDepth 1000000 in
theorem sf3 (a : (Ty.T (.st (.pair (.sl (.int .i64)) (.pair (.sl (.int .i64)) .unit))))) (b : (Ty.T (.st (.pair (.sl (.int .i64)) (.pair (.sl (.int .i64)) .unit))))) (letters : (Ty.T (.int .i64))) (i : (Ty.T (.int .i64))) (l : (Ty.T (.sl (.int .i64)))) (table : (Ty.T (.sl (.sl (.int .i64))))) (r : Ty.T .bool) (h : ∀ R : Ty.T .bool → Prop, (∀ x, R x ↔ x = r) → WF (.st (.pair (.sl (.int .i64)) (.pair (.sl (.int .i64)) .unit))) a → WF (.st (.pair (.sl (.int .i64)) (.pair (.sl (.int .i64)) .unit))) b → WF (.int .i64) letters → WF (.int .i64) i → WF (.sl (.int .i64)) l → WF (.sl (.sl (.int .i64))) table → 
    (∃ r : Bool,
    (CallP Try.prog tT (10 : Nat) [] Ty.bool r ∧
    (∃ r1 : Bool,
    (CallP Try.prog tT (11 : Nat) [(AV.c (Cap.d (Ty.st (Ty.pair (Ty.sl (Ty.int Go.IntKind.i64)) (Ty.pair (Ty.sl (Ty.int Go.IntKind.i64)) Ty.unit))) a))] Ty.bool r1 ∧
    (∃ r2 : Bool,
    (((r1 = true) →
      CallP Try.prog tT (11 : Nat) [(AV.c (Cap.d (Ty.st (Ty.pair (Ty.sl (Ty.int Go.IntKind.i64)) (Ty.pair (Ty.sl (Ty.int Go.IntKind.i64)) Ty.unit))) b))] Ty.bool r2) ∧
    ((((((r1 = false) ∨ (r2 = false)) ∨ ((80 : Int) < (((List.length l) : Nat) : Int))) ∨ ((64 : Int) < (((List.length table) : Nat) : Int))) →
      (R r)) ∧
    ((r1 = true) → (r2 = true) → ((((List.length l) : Nat) : Int) ≤ (80 : Int)) → ((((List.length table) : Nat) : Int) ≤ (64 : Int)) →
      (∃ r3 : Bool,
      (CallP Try.prog tT (12 : Nat) [(AV.c (Cap.d (Ty.int Go.IntKind.i64) letters)), (AV.c (Cap.d (Ty.st (Ty.pair (Ty.sl (Ty.int Go.IntKind.i64)) (Ty.pair (Ty.sl (Ty.int Go.IntKind.i64)) Ty.unit))) a))] Ty.bool r3 ∧
      (∃ r4 : Bool,
      (CallP Try.prog tT (13 : Nat) [(AV.c (Cap.d (Ty.int Go.IntKind.i64) letters)), (AV.c (Cap.d (Ty.st (Ty.pair (Ty.sl (Ty.int Go.IntKind.i64)) (Ty.pair (Ty.sl (Ty.int Go.IntKind.i64)) Ty.unit))) a))] Ty.bool r4 ∧
      (∃ r5 : Int,
      ((((r3 == r4) = true) →
        CallP Try.prog tT (14 : Nat) [(AV.c (Cap.d (Ty.st (Ty.pair (Ty.sl (Ty.int Go.IntKind.i64)) (Ty.pair (Ty.sl (Ty.int Go.IntKind.i64)) Ty.unit))) a)), (AV.c (Cap.d (Ty.int Go.IntKind.i64) i))] (Ty.int Go.IntKind.i64) r5) ∧
      (∃ r6 : Int,
      ((((r3 == r4) = true) →
        CallP Try.prog tT (15 : Nat) [(AV.c (Cap.d (Ty.st (Ty.pair (Ty.sl (Ty.int Go.IntKind.i64)) (Ty.pair (Ty.sl (Ty.int Go.IntKind.i64)) Ty.unit))) a)), (AV.c (Cap.d (Ty.int Go.IntKind.i64) i))] (Ty.int Go.IntKind.i64) r6) ∧
      (∃ r7 : (List Int),
      ((((r3 == r4) = true) → (r5 = r6) →
        CallP Try.prog tT (17 : Nat) [(AV.c (Cap.d (Ty.st (Ty.pair (Ty.sl (Ty.int Go.IntKind.i64)) (Ty.pair (Ty.sl (Ty.int Go.IntKind.i64)) Ty.unit))) a)), (AV.c (Cap.d (Ty.int Go.IntKind.i64) i))] (Ty.sl (Ty.int Go.IntKind.i64)) r7) ∧
      (∃ r8 : (List Int),
      ((((r3 == r4) = true) → (r5 = r6) →
        CallP Try.prog tT (18 : Nat) [(AV.c (Cap.d (Ty.st (Ty.pair (Ty.sl (Ty.int Go.IntKind.i64)) (Ty.pair (Ty.sl (Ty.int Go.IntKind.i64)) Ty.unit))) a)), (AV.c (Cap.d (Ty.int Go.IntKind.i64) i))] (Ty.sl (Ty.int Go.IntKind.i64)) r8) ∧
      (∃ r9 : Bool,
      ((((r3 == r4) = true) → (r5 = r6) →
        CallP Try.prog tT (16 : Nat) [(AV.c (Cap.d (Ty.sl (Ty.int Go.IntKind.i64)) r7)), (AV.c (Cap.d (Ty.sl (Ty.int Go.IntKind.i64)) r8))] Ty.bool r9) ∧
      (∃ r10 : ((List Int) × ((List Int) × Unit)),
      ((((r3 == r4) = true) → (r5 = r6) → (r9 = true) →
        CallP Try.prog tT (20 : Nat) [(AV.c (Cap.d (Ty.st (Ty.pair (Ty.sl (Ty.int Go.IntKind.i64)) (Ty.pair (Ty.sl (Ty.int Go.IntKind.i64)) Ty.unit))) a))] (Ty.st (Ty.pair (Ty.sl (Ty.int Go.IntKind.i64)) (Ty.pair (Ty.sl (Ty.int Go.IntKind.i64)) Ty.unit))) r10) ∧
      (∃ r11 : ((List Int) × ((List Int) × Unit)),
      ((((r3 == r4) = true) → (r5 = r6) → (r9 = true) →
        CallP Try.prog tT (21 : Nat) [(AV.c (Cap.d (Ty.st (Ty.pair (Ty.sl (Ty.int Go.IntKind.i64)) (Ty.pair (Ty.sl (Ty.int Go.IntKind.i64)) Ty.unit))) a))] (Ty.st (Ty.pair (Ty.sl (Ty.int Go.IntKind.i64)) (Ty.pair (Ty.sl (Ty.int Go.IntKind.i64)) Ty.unit))) r11) ∧
      (∃ r12 : Bool,
      ((((r3 == r4) = true) → (r5 = r6) → (r9 = true) →
        CallP Try.prog tT (19 : Nat) [(AV.c (Cap.d (Ty.st (Ty.pair (Ty.sl (Ty.int Go.IntKind.i64)) (Ty.pair (Ty.sl (Ty.int Go.IntKind.i64)) Ty.unit))) r10)), (AV.c (Cap.d (Ty.st (Ty.pair (Ty.sl (Ty.int Go.IntKind.i64)) (Ty.pair (Ty.sl (Ty.int Go.IntKind.i64)) Ty.unit))) r11))] Ty.bool r12) ∧
      (∃ r13 : Bool,
      ((((r3 == r4) = true) → (r5 = r6) → (r9 = true) → (r12 = true) →
        CallP Try.prog tT (22 : Nat) [(AV.c (Cap.d (Ty.st (Ty.pair (Ty.sl (Ty.int Go.IntKind.i64)) (Ty.pair (Ty.sl (Ty.int Go.IntKind.i64)) Ty.unit))) a)), (AV.c (Cap.d (Ty.st (Ty.pair (Ty.sl (Ty.int Go.IntKind.i64)) (Ty.pair (Ty.sl (Ty.int Go.IntKind.i64)) Ty.unit))) b))] Ty.bool r13) ∧
      (∃ r14 : Bool,
      ((((r3 == r4) = true) → (r5 = r6) → (r9 = true) → (r12 = true) →
        CallP Try.prog tT (23 : Nat) [(AV.c (Cap.d (Ty.st (Ty.pair (Ty.sl (Ty.int Go.IntKind.i64)) (Ty.pair (Ty.sl (Ty.int Go.IntKind.i64)) Ty.unit))) a)), (AV.c (Cap.d (Ty.st (Ty.pair (Ty.sl (Ty.int Go.IntKind.i64)) (Ty.pair (Ty.sl (Ty.int Go.IntKind.i64)) Ty.unit))) b))] Ty.bool r14) ∧
      (∃ r15 : ((List Int) × ((List Int) × Unit)),
      (((r = true) → ((r3 == r4) = true) → (r5 = r6) → (r9 = true) → (r12 = true) → ((r13 == r14) = true) →
        CallP Try.prog tT (24 : Nat) [(AV.c (Cap.d (Ty.st (Ty.pair (Ty.sl (Ty.int Go.IntKind.i64)) (Ty.pair (Ty.sl (Ty.int Go.IntKind.i64)) Ty.unit))) a)), (AV.c (Cap.d (Ty.int Go.IntKind.i64) i))] (Ty.st (Ty.pair (Ty.sl (Ty.int Go.IntKind.i64)) (Ty.pair (Ty.sl (Ty.int Go.IntKind.i64)) Ty.unit))) r15) ∧
      (∃ r16 : ((List Int) × ((List Int) × Unit)),
      (((r = true) → ((r3 == r4) = true) → (r5 = r6) → (r9 = true) → (r12 = true) → ((r13 == r14) = true) →
        CallP Try.prog tT (25 : Nat) [(AV.c (Cap.d (Ty.st (Ty.pair (Ty.sl (Ty.int Go.IntKind.i64)) (Ty.pair (Ty.sl (Ty.int Go.IntKind.i64)) Ty.unit))) a)), (AV.c (Cap.d (Ty.int Go.IntKind.i64) i))] (Ty.st (Ty.pair (Ty.sl (Ty.int Go.IntKind.i64)) (Ty.pair (Ty.sl (Ty.int Go.IntKind.i64)) Ty.unit))) r16) ∧
      (∃ r17 : Bool,
      (((r = true) → ((r3 == r4) = true) → (r5 = r6) → (r9 = true) → (r12 = true) → ((r13 == r14) = true) →
        CallP Try.prog tT (19 : Nat) [(AV.c (Cap.d (Ty.st (Ty.pair (Ty.sl (Ty.int Go.IntKind.i64)) (Ty.pair (Ty.sl (Ty.int Go.IntKind.i64)) Ty.unit))) r15)), (AV.c (Cap.d (Ty.st (Ty.pair (Ty.sl (Ty.int Go.IntKind.i64)) (Ty.pair (Ty.sl (Ty.int Go.IntKind.i64)) Ty.unit))) r16))] Ty.bool r17) ∧
      (∃ r18 : ((List Int) × ((List Int) × Unit)),
      (((r = true) → ((r3 == r4) = true) → (r5 = r6) → (r9 = true) → (r12 = true) → ((r13 == r14) = true) → (r17 = true) →
        CallP Try.prog tT (26 : Nat) [(AV.c (Cap.d (Ty.sl (Ty.int Go.IntKind.i64)) l)), (AV.c (Cap.d (Ty.st (Ty.pair (Ty.sl (Ty.int Go.IntKind.i64)) (Ty.pair (Ty.sl (Ty.int Go.IntKind.i64)) Ty.unit))) a))] (Ty.st (Ty.pair (Ty.sl (Ty.int Go.IntKind.i64)) (Ty.pair (Ty.sl (Ty.int Go.IntKind.i64)) Ty.unit))) r18) ∧
      (∃ r19 : ((List Int) × ((List Int) × Unit)),
      (((r = true) → ((r3 == r4) = true) → (r5 = r6) → (r9 = true) → (r12 = true) → ((r13 == r14) = true) → (r17 = true) →
        CallP Try.prog tT (27 : Nat) [(AV.c (Cap.d (Ty.sl (Ty.int Go.IntKind.i64)) l)), (AV.c (Cap.d (Ty.st (Ty.pair (Ty.sl (Ty.int Go.IntKind.i64)) (Ty.pair (Ty.sl (Ty.int Go.IntKind.i64)) Ty.unit))) a))] (Ty.st (Ty.pair (Ty.sl (Ty.int Go.IntKind.i64)) (Ty.pair (Ty.sl (Ty.int Go.IntKind.i64)) Ty.unit))) r19) ∧
      (∃ r20 : Bool,
      (((r = true) → ((r3 == r4) = true) → (r5 = r6) → (r9 = true) → (r12 = true) → ((r13 == r14) = true) → (r17 = true) →
        CallP Try.prog tT (19 : Nat) [(AV.c (Cap.d (Ty.st (Ty.pair (Ty.sl (Ty.int Go.IntKind.i64)) (Ty.pair (Ty.sl (Ty.int Go.IntKind.i64)) Ty.unit))) r18)), (AV.c (Cap.d (Ty.st (Ty.pair (Ty.sl (Ty.int Go.IntKind.i64)) (Ty.pair (Ty.sl (Ty.int Go.IntKind.i64)) Ty.unit))) r19))] Ty.bool r20) ∧
      (∃ r21 : ((List Int) × ((List Int) × Unit)),
      (((r = true) → ((r3 == r4) = true) → (r5 = r6) → (r9 = true) → (r12 = true) → ((r13 == r14) = true) → (r17 = true) → (r20 = true) →
        CallP Try.prog tT (28 : Nat) [(AV.c (Cap.d (Ty.st (Ty.pair (Ty.sl (Ty.int Go.IntKind.i64)) (Ty.pair (Ty.sl (Ty.int Go.IntKind.i64)) Ty.unit))) a)), (AV.c (Cap.d (Ty.st (Ty.pair (Ty.sl (Ty.int Go.IntKind.i64)) (Ty.pair (Ty.sl (Ty.int Go.IntKind.i64)) Ty.unit))) b)), (AV.c (Cap.d (Ty.sl (Ty.sl (Ty.int Go.IntKind.i64))) table))] (Ty.st (Ty.pair (Ty.sl (Ty.int Go.IntKind.i64)) (Ty.pair (Ty.sl (Ty.int Go.IntKind.i64)) Ty.unit))) r21) ∧
      (∃ r22 : ((List Int) × ((List Int) × Unit)),
      (((r = true) → ((r3 == r4) = true) → (r5 = r6) → (r9 = true) → (r12 = true) → ((r13 == r14) = true) → (r17 = true) → (r20 = true) →
        CallP Try.prog tT (29 : Nat) [(AV.c (Cap.d (Ty.st (Ty.pair (Ty.sl (Ty.int Go.IntKind.i64)) (Ty.pair (Ty.sl (Ty.int Go.IntKind.i64)) Ty.unit))) a)), (AV.c (Cap.d (Ty.st (Ty.pair (Ty.sl (Ty.int Go.IntKind.i64)) (Ty.pair (Ty.sl (Ty.int Go.IntKind.i64)) Ty.unit))) b)), (AV.c (Cap.d (Ty.sl (Ty.sl (Ty.int Go.IntKind.i64))) table))] (Ty.st (Ty.pair (Ty.sl (Ty.int Go.IntKind.i64)) (Ty.pair (Ty.sl (Ty.int Go.IntKind.i64)) Ty.unit))) r22) ∧
      (∃ r23 : Bool,
      (((r = true) → ((r3 == r4) = true) → (r5 = r6) → (r9 = true) → (r12 = true) → ((r13 == r14) = true) → (r17 = true) → (r20 = true) →
        CallP Try.prog tT (19 : Nat) [(AV.c (Cap.d (Ty.st (Ty.pair (Ty.sl (Ty.int Go.IntKind.i64)) (Ty.pair (Ty.sl (Ty.int Go.IntKind.i64)) Ty.unit))) r21)), (AV.c (Cap.d (Ty.st (Ty.pair (Ty.sl (Ty.int Go.IntKind.i64)) (Ty.pair (Ty.sl (Ty.int Go.IntKind.i64)) Ty.unit))) r22))] Ty.bool r23) ∧
      (R (selB (selB (selB (selB r (selB (selB (selB (selB (r3 == r4) (decide (r5 = r6)) false) r9 false) r12 false) (r13 == r14) false) false) r17 false) r20 false) r23 false))))))))))))))))))))))))))))))))))))))))))))))))))))) : CallP Try.prog tT 3 [.d (.st (.pair (.sl (.int .i64)) (.pair (.sl (.int .i64)) .unit))) a, .d (.st (.pair (.sl (.int .i64)) (.pair (.sl (.int .i64)) .unit))) b, .d (.int .i64) letters, .d (.int .i64) i, .d (.sl (.int .i64)) l, .d (.sl (.sl (.int .i64))) table] .bool r :=
  of3 a b letters i l table r fun R hR w0_ w1_ w2_ w3_ w4_ w5_ => have p := h R hR w0_ w1_ w2_ w3_ w4_ w5_
    (Exists.elim p fun r q1 => Exists.intro r ⟨q1.1, (Exists.elim q1.2 fun r1 q2 => Exists.intro r1 ⟨q2.1, (Exists.elim q2.2 fun r2 q3 => Exists.intro r2 ⟨(fun h9 => ⟨h9, (q3.1 (bnot_f (bnot_t h9)))⟩), ⟨(fun h19 => h19), ⟨(fun h28 => (bnot_t2 h28)), ⟨(fun h36 => h36), ⟨(fun h43 => h43), ⟨(fun h49 => (bnot_t2 h49)), ⟨(fun h54 => h54), ⟨(fun h58 => h58), ⟨(fun h61 => (bnot_t2 h61)), ⟨(fun h67 => (q3.2.1 (Or.imp (fun h => (Or.imp (fun h => (Or.imp (fun h => (bnot_t h)) (fun h => (bnot_t h)) (selB_ot h))) (fun h => (of_decide_eq_true h)) (selB_ot h))) (fun h => (of_decide_eq_true h)) (selB_ot h67)))), (fun h69 => (Exists.elim (q3.2.2 (bnot_f (selB_of (selB_of (selB_of h69).1).1).1) (bnot_f (selB_of (selB_of (selB_of h69).1).1).2) (Int.not_lt.1 (of_decide_eq_false (selB_of (selB_of h69).1).2)) (Int.not_lt.1 (of_decide_eq_false (selB_of h69).2))) fun r3 q70 => Exists.intro r3 ⟨q70.1, (Exists.elim q70.2 fun r4 q71 => Exists.intro r4 ⟨q71.1, (Exists.elim q71.2 fun r5 q72 => Exists.intro r5 ⟨(fun h78 => ⟨⟨h78, h78⟩, (q72.1 h78)⟩), (Exists.elim q72.2 fun r6 q79 => Exists.intro r6 ⟨(fun h85 => ⟨⟨h85, h85⟩, (q79.1 h85)⟩), ⟨(fun h88 => ⟨h88, h88⟩), ⟨(fun h90 => h90), (Exists.elim q79.2 fun r7 q91 => Exists.intro r7 ⟨(fun h97 => ⟨⟨h97, h97⟩, (q91.1 ((selB_at h97).1) (of_decide_eq_true (selB_at h97).2))⟩), (Exists.elim q91.2 fun r8 q98 => Exists.intro r8 ⟨(fun h104 => ⟨⟨h104, h104⟩, (q98.1 ((selB_at h104).1) (of_decide_eq_true (selB_at h104).2))⟩), (Exists.elim q98.2 fun r9 q105 => Exists.intro r9 ⟨(fun h111 => ⟨⟨h111, h111⟩, (q105.1 ((selB_at h111).1) (of_decide_eq_true (selB_at h111).2))⟩), ⟨(fun h113 => h113), (Exists.elim q105.2 fun r10 q114 => Exists.intro r10 ⟨(fun h120 => ⟨h120, (q114.1 ((selB_at (selB_at h120).1).1) (of_decide_eq_true (selB_at (selB_at h120).1).2) ((selB_at h120).2))⟩), (Exists.elim q114.2 fun r11 q121 => Exists.intro r11 ⟨(fun h127 => ⟨h127, (q121.1 ((selB_at (selB_at h127).1).1) (of_decide_eq_true (selB_at (selB_at h127).1).2) ((selB_at h127).2))⟩), (Exists.elim q121.2 fun r12 q128 => Exists.intro r12 ⟨(fun h134 => ⟨⟨h134, h134⟩, (q128.1 ((selB_at (selB_at h134).1).1) (of_decide_eq_true (selB_at (selB_at h134).1).2) ((selB_at h134).2))⟩), ⟨(fun h136 => h136), (Exists.elim q128.2 fun r13 q137 => Exists.intro r13 ⟨(fun h143 => ⟨⟨h143, h143⟩, (q137.1 ((selB_at (selB_at (selB_at h143).1).1).1) (of_decide_eq_true (selB_at (selB_at (selB_at h143).1).1).2) ((selB_at (selB_at h143).1).2) ((selB_at h143).2))⟩), (Exists.elim q137.2 fun r14 q144 => Exists.intro r14 ⟨(fun h150 => ⟨⟨h150, h150⟩, (q144.1 ((selB_at (selB_at (selB_at h150).1).1).1) (of_decide_eq_true (selB_at (selB_at (selB_at h150).1).1).2) ((selB_at (selB_at h150).1).2) ((selB_at h150).2))⟩), ⟨(fun h154 => ⟨h154, h154⟩), ⟨(fun h157 => h157), ⟨(fun h159 => h159), (Exists.elim q144.2 fun r15 q160 => Exists.intro r15 ⟨(fun h166 => ⟨⟨h166, h166⟩, (q160.1 ((selB_at h166).1) ((selB_at (selB_at (selB_at (selB_at (selB_at h166).2).1).1).1).1) (of_decide_eq_true (selB_at (selB_at (selB_at (selB_at (selB_at h166).2).1).1).1).2) ((selB_at (selB_at (selB_at (selB_at h166).2).1).1).2) ((selB_at (selB_at (selB_at h166).2).1).2) ((selB_at (selB_at h166).2).2))⟩), (Exists.elim q160.2 fun r16 q167 => Exists.intro r16 ⟨(fun h173 => ⟨⟨h173, h173⟩, (q167.1 ((selB_at h173).1) ((selB_at (selB_at (selB_at (selB_at (selB_at h173).2).1).1).1).1) (of_decide_eq_true (selB_at (selB_at (selB_at (selB_at (selB_at h173).2).1).1).1).2) ((selB_at (selB_at (selB_at (selB_at h173).2).1).1).2) ((selB_at (selB_at (selB_at h173).2).1).2) ((selB_at (selB_at h173).2).2))⟩), (Exists.elim q167.2 fun r17 q174 => Exists.intro r17 ⟨(fun h180 => ⟨⟨h180, h180⟩, (q174.1 ((selB_at h180).1) ((selB_at (selB_at (selB_at (selB_at (selB_at h180).2).1).1).1).1) (of_decide_eq_true (selB_at (selB_at (selB_at (selB_at (selB_at h180).2).1).1).1).2) ((selB_at (selB_at (selB_at (selB_at h180).2).1).1).2) ((selB_at (selB_at (selB_at h180).2).1).2) ((selB_at (selB_at h180).2).2))⟩), ⟨(fun h182 => h182), (Exists.elim q174.2 fun r18 q183 => Exists.intro r18 ⟨(fun h189 => ⟨⟨h189, h189⟩, (q183.1 ((selB_at (selB_at h189).1).1) ((selB_at (selB_at (selB_at (selB_at (selB_at (selB_at h189).1).2).1).1).1).1) (of_decide_eq_true (selB_at (selB_at (selB_at (selB_at (selB_at (selB_at h189).1).2).1).1).1).2) ((selB_at (selB_at (selB_at (selB_at (selB_at h189).1).2).1).1).2) ((selB_at (selB_at (selB_at (selB_at h189).1).2).1).2) ((selB_at (selB_at (selB_at h189).1).2).2) ((selB_at h189).2))⟩), (Exists.elim q183.2 fun r19 q190 => Exists.intro r19 ⟨(fun h196 => ⟨⟨h196, h196⟩, (q190.1 ((selB_at (selB_at h196).1).1) ((selB_at (selB_at (selB_at (selB_at (selB_at (selB_at h196).1).2).1).1).1).1) (of_decide_eq_true (selB_at (selB_at (selB_at (selB_at (selB_at (selB_at h196).1).2).1).1).1).2) ((selB_at (selB_at (selB_at (selB_at (selB_at h196).1).2).1).1).2) ((selB_at (selB_at (selB_at (selB_at h196).1).2).1).2) ((selB_at (selB_at (selB_at h196).1).2).2) ((selB_at h196).2))⟩), (Exists.elim q190.2 fun r20 q197 => Exists.intro r20 ⟨(fun h203 => ⟨⟨h203, h203⟩, (q197.1 ((selB_at (selB_at h203).1).1) ((selB_at (selB_at (selB_at (selB_at (selB_at (selB_at h203).1).2).1).1).1).1) (of_decide_eq_true (selB_at (selB_at (selB_at (selB_at (selB_at (selB_at h203).1).2).1).1).1).2) ((selB_at (selB_at (selB_at (selB_at (selB_at h203).1).2).1).1).2) ((selB_at (selB_at (selB_at (selB_at h203).1).2).1).2) ((selB_at (selB_at (selB_at h203).1).2).2) ((selB_at h203).2))⟩), ⟨(fun h205 => h205), (Exists.elim q197.2 fun r21 q206 => Exists.intro r21 ⟨(fun h212 => ⟨⟨h212, ⟨h212, h212⟩⟩, (q206.1 ((selB_at (selB_at (selB_at h212).1).1).1) ((selB_at (selB_at (selB_at (selB_at (selB_at (selB_at (selB_at h212).1).1).2).1).1).1).1) (of_decide_eq_true (selB_at (selB_at (selB_at (selB_at (selB_at (selB_at (selB_at h212).1).1).2).1).1).1).2) ((selB_at (selB_at (selB_at (selB_at (selB_at (selB_at h212).1).1).2).1).1).2) ((selB_at (selB_at (selB_at (selB_at (selB_at h212).1).1).2).1).2) ((selB_at (selB_at (selB_at (selB_at h212).1).1).2).2) ((selB_at (selB_at h212).1).2) ((selB_at h212).2))⟩), (Exists.elim q206.2 fun r22 q213 => Exists.intro r22 ⟨(fun h219 => ⟨⟨h219, ⟨h219, h219⟩⟩, (q213.1 ((selB_at (selB_at (selB_at h219).1).1).1) ((selB_at (selB_at (selB_at (selB_at (selB_at (selB_at (selB_at h219).1).1).2).1).1).1).1) (of_decide_eq_true (selB_at (selB_at (selB_at (selB_at (selB_at (selB_at (selB_at h219).1).1).2).1).1).1).2) ((selB_at (selB_at (selB_at (selB_at (selB_at (selB_at h219).1).1).2).1).1).2) ((selB_at (selB_at (selB_at (selB_at (selB_at h219).1).1).2).1).2) ((selB_at (selB_at (selB_at (selB_at h219).1).1).2).2) ((selB_at (selB_at h219).1).2) ((selB_at h219).2))⟩), (Exists.elim q213.2 fun r23 q220 => Exists.intro r23 ⟨(fun h226 => ⟨⟨h226, h226⟩, (q220.1 ((selB_at (selB_at (selB_at h226).1).1).1) ((selB_at (selB_at (selB_at (selB_at (selB_at (selB_at (selB_at h226).1).1).2).1).1).1).1) (of_decide_eq_true (selB_at (selB_at (selB_at (selB_at (selB_at (selB_at (selB_at h226).1).1).2).1).1).1).2) ((selB_at (selB_at (selB_at (selB_at (selB_at (selB_at h226).1).1).2).1).1).2) ((selB_at (selB_at (selB_at (selB_at (selB_at h226).1).1).2).1).2) ((selB_at (selB_at (selB_at (selB_at h226).1).1).2).2) ((selB_at (selB_at h226).1).2) ((selB_at h226).2))⟩), ⟨(fun h228 => h228), q220.2⟩⟩)⟩)⟩)⟩⟩)⟩)⟩)⟩⟩)⟩)⟩)⟩⟩⟩⟩)⟩)⟩⟩)⟩)⟩)⟩⟩)⟩)⟩)⟩⟩⟩)⟩)⟩)⟩))⟩⟩⟩⟩⟩⟩⟩⟩⟩⟩)⟩)⟩)
end Go.Proofs.Ytblibehfjjgdeaa
