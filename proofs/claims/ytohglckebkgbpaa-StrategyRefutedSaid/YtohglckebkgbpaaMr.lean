/-
  What the evaluator says of an operation is so: parts of lists, literals, new memory, append.
-/
import Derived.Test.YtohglckebkgbpaaMq
import Derived.Laws.MakeOwn
namespace Go.Proofs.Ytohglckebkgbpaa
open Go.RowKit

theorem run_sb {P : Program} {w : World} {k : IntKind} {i : Int} {y : Nat} {code : BoundsCode} (h0 : 0 ≤ i) (h1 : i ≤ y) : (Instr.sliceBound (.int k i) y code).run P w = .ok i.toNat w := by
  simp [Instr.sliceBound, asIntOf, h0, h1]

section
variable {P : Program} {T : Tab} {w0 : World} {F0 : Mem} {ρ : Nat → Value} {F : Mem} {M : Mm} {w : World} {o : Oper} {ρ0 : Operand → Value} {d : Option Nat} {evf : Operand → AV}
theorem optInt_some {x : Option Operand} {n : Int} (hev : ∀ x, RepA ρ F (evf x) (ρ0 x)) (h : optInt (x.map evf) = some (some n)) : ∃ k, x.map ρ0 = some (.int k n) := by
  cases x with
  | none => simp [optInt] at h
  | some x =>
    simp only [Option.map_some] at h ⊢
    have hx := hev x
    generalize evf x = ax at h hx
    cases ax <;> try (simp [optInt] at h; done)
    rename_i t y
    cases t <;> try (simp [optInt] at h; done)
    simp only [optInt, Option.some.injEq] at h
    subst h
    exact ⟨_, by rw [(rep_int hx).1]⟩
theorem optInt_none {x : Option Operand} (h : optInt (x.map evf) = some none) : x = none := by
  cases x with
  | none => rfl
  | some x =>
    simp only [Option.map_some] at h
    generalize evf x = ax at h
    cases ax <;> try (simp [optInt] at h; done)
    rename_i t y
    cases t <;> simp [optInt] at h
/-- the bounds of a part, as numbers -/
def loN (l : Option Int) : Nat := match l with | none => 0 | some l => l.toNat
def hiN (h : Option Int) (n : Nat) : Nat := match h with | none => n | some h => h.toNat
def mxN (m : Option Int) (cap : Nat) : Nat := match m with | none => cap | some m => m.toNat
theorem partL_eq {α : Type} (xs : List α) (l h : Option Int) : partL xs l h = (xs.take (hiN h xs.length)).drop (loN l) := by
  cases l <;> cases h <;> simp [partL, hiN, loN]
theorem bounds_ok {isS : Bool} {n cap : Nat} {l h m : Option Int} {L H MX : Option Value} (hL : ∀ i, l = some i → ∃ k, L = some (.int k i)) (hH : ∀ i, h = some i → ∃ k, H = some (.int k i)) (hM : ∀ i, m = some i → ∃ k, MX = some (.int k i))
    (nL : l = none → L = none) (nH : h = none → H = none) (nM : m = none → MX = none) (hc : n ≤ cap) (hb : ∀ q, partOb n l h m = some q → q) :
    (Instr.sliceBounds isS n cap L H MX).run P w = .ok (loN l, hiN h n, mxN m cap) w ∧ loN l ≤ hiN h n ∧ hiN h n ≤ n ∧ hiN h n ≤ mxN m cap ∧ mxN m cap ≤ cap := by
  cases m with
  | none =>
    have e3 := nM rfl
    subst e3
    cases h with
    | none =>
      have e2 := nH rfl
      subst e2
      cases l with
      | none =>
        have e1 := nL rfl
        subst e1
        simp [Instr.sliceBounds, loN, hiN, mxN, hc]
      | some i =>
        obtain ⟨k, rfl⟩ := hL i rfl
        have hq : 0 ≤ i ∧ i ≤ n := hb _ rfl
        refine ⟨?_, by simp [loN, hiN]; omega, by simp [hiN], by simp [hiN, mxN, hc], by simp [mxN]⟩
        simp [Instr.sliceBounds, loN, hiN, mxN, run_sb hq.1 hq.2]
    | some j =>
      obtain ⟨k, rfl⟩ := hH j rfl
      cases l with
      | none =>
        have e1 := nL rfl
        subst e1
        have hq : 0 ≤ j ∧ j ≤ n := hb _ rfl
        refine ⟨?_, by simp [loN], by simp [hiN]; omega, by simp [hiN, mxN]; omega, by simp [mxN]⟩
        simp [Instr.sliceBounds, loN, hiN, mxN, run_sb hq.1 (show j ≤ (cap : Int) by omega)]
      | some i =>
        obtain ⟨k', rfl⟩ := hL i rfl
        have hq : 0 ≤ i ∧ i ≤ j ∧ j ≤ n := hb _ rfl
        refine ⟨?_, by simp [loN, hiN]; omega, by simp [hiN]; omega, by simp [hiN, mxN]; omega, by simp [mxN]⟩
        simp [Instr.sliceBounds, loN, hiN, mxN, run_sb (show 0 ≤ j by omega) (show j ≤ (cap : Int) by omega), run_sb hq.1 (show i ≤ ((j.toNat : Nat) : Int) by omega)]
  | some mm =>
    obtain ⟨km, rfl⟩ := hM mm rfl
    cases h with
    | none => cases l <;> exact absurd (hb _ rfl) id
    | some j =>
      obtain ⟨k, rfl⟩ := hH j rfl
      cases l with
      | none =>
        have e1 := nL rfl
        subst e1
        have hq : 0 ≤ j ∧ j ≤ mm ∧ mm ≤ n := hb _ rfl
        refine ⟨?_, by simp [loN], by simp [hiN]; omega, by simp [hiN, mxN]; omega, by simp [mxN]; omega⟩
        simp [Instr.sliceBounds, loN, hiN, mxN, run_sb (show 0 ≤ mm by omega) (show mm ≤ (cap : Int) by omega), run_sb hq.1 (show j ≤ ((mm.toNat : Nat) : Int) by omega)]
      | some i =>
        obtain ⟨k', rfl⟩ := hL i rfl
        have hq : 0 ≤ i ∧ i ≤ j ∧ j ≤ mm ∧ mm ≤ n := hb _ rfl
        refine ⟨?_, by simp [loN, hiN]; omega, by simp [hiN]; omega, by simp [hiN, mxN]; omega, by simp [mxN]; omega⟩
        simp [Instr.sliceBounds, loN, hiN, mxN, run_sb (show 0 ≤ mm by omega) (show mm ≤ (cap : Int) by omega), run_sb (show 0 ≤ j by omega) (show j ≤ ((mm.toNat : Nat) : Int) by omega), run_sb hq.1 (show i ≤ ((j.toNat : Nat) : Int) by omega)]
theorem s_slice {t : TypeId} {τ : Ty} {x : Operand} {L H MX : Option Operand} {l h m : Option Int} (hT : tabB P T = true) (st : St w0 F0 ρ F M w) (hev : ∀ x, RepA ρ F (evf x) (ρ0 x)) (ho : o.op = .slice t x L H MX) (ht : T.ty t = some τ)
    (hl : optInt (L.map evf) = some l) (hh : optInt (H.map evf) = some h) (hm : optInt (MX.map evf) = some m) {p : Option Prop × AV} (hp : partA τ (evf x) l h m = some p) (hob : ∀ q, p.1 = some q → q) : OpOk P w0 F0 ρ F w o ρ0 d p.2 M := by
  obtain ⟨ti, hlk, rfl⟩ := ty_look ht
  have hti := tab_ti hT hlk
  have hx := hev x
  have oL : ∀ i, l = some i → ∃ k, L.map ρ0 = some (.int k i) := fun i e => optInt_some hev (by rw [hl, e])
  have oH : ∀ i, h = some i → ∃ k, H.map ρ0 = some (.int k i) := fun i e => optInt_some hev (by rw [hh, e])
  have oM : ∀ i, m = some i → ∃ k, MX.map ρ0 = some (.int k i) := fun i e => optInt_some hev (by rw [hm, e])
  have nL : l = none → L.map ρ0 = none := fun e => by rw [optInt_none (evf := evf) (x := L) (by rw [hl, e])]; rfl
  have nH : h = none → H.map ρ0 = none := fun e => by rw [optInt_none (evf := evf) (x := H) (by rw [hh, e])]; rfl
  have nM : m = none → MX.map ρ0 = none := fun e => by rw [optInt_none (evf := evf) (x := MX) (by rw [hm, e])]; rfl
  generalize evf x = ax at hp hx
  generalize htt : ti.ty = tt at hp
  unfold partA at hp
  split at hp
  · rename_i τ' τ'' xs
    split at hp <;> simp only [Option.some.injEq, reduceCtorEq] at hp
    rename_i e
    subst e
    subst hp
    obtain ⟨hu, hte⟩ := ti_slice hti htt
    obtain ⟨te, hle, hee⟩ := ty_look hte
    obtain ⟨inf, z, hinf, hs, _⟩ := ti_info (tab_ti hT hle)
    obtain ⟨ad, cap, hv, c1, c2, c3⟩ := rep_sl hx
    obtain ⟨hb, b1, b2, b3, b4⟩ := bounds_ok (P := P) (w := w) (isS := true) (n := List.length xs) (cap := cap) oL oH oM nL nH nM c1 hob
    have hsz : inf.size = τ'.sz := by rw [hs, hee]
    have hrep : RepC F (.sl τ') [.slice ad (List.length xs) cap] xs := ⟨ad, cap, rfl, c1, c2, c3⟩
    have := sub_rep hrep b1 b2 b3 b4
    refine ok_value (v := .slice (if mxN m cap = loN l then ad else ad.map (·.add (loN l * τ'.sz))) (hiN h (List.length xs) - loN l) (mxN m cap - loN l)) st ?_ ?_
    · simp only [execOp, ho, Instr.sliceAt, Sem.run_bind, run_underlying hu, Result.andThen_ok, Instr.slice, hv, hb, sizeOf, typeInfo, run_program, hinf, Sem.run_pure, hsz]
    · show RepC F (.sl τ') [_] (partL xs l h)
      rw [partL_eq]
      exact this
  · rename_i s
    split at hp <;> simp only [Option.some.injEq, reduceCtorEq] at hp
    subst hp
    have hu := ti_str hti htt
    obtain ⟨hv, hlen⟩ := rep_str hx
    obtain ⟨hb, b1, b2, b3, b4⟩ := bounds_ok (P := P) (w := w) (isS := false) (n := List.length s) (cap := List.length s) (m := none) oL oH oM nL nH nM (Nat.le_refl _) hob
    have e3 := nM rfl
    refine ok_value (v := .string ⟨((List.take (hiN h (List.length s)) s).drop (loN l)).toArray⟩) st ?_ ?_
    · rw [e3] at hb
      have hx : (ByteArray.mk s.toArray).extract (loN l) (hiN h (List.length s)) = ⟨((List.take (hiN h (List.length s)) s).drop (loN l)).toArray⟩ := by
        apply ByteArray.ext
        apply Array.ext'
        simp [ByteArray.data_extract, List.extract_eq_take_drop, List.drop_take]
      simp only [execOp, ho, Instr.sliceAt, Sem.run_bind, run_underlying hu, Result.andThen_ok, Instr.slice, hv, e3, bytes_size, hb, Option.isSome_none, Bool.false_eq_true, if_false, Sem.run_pure, hx]
    · show RepC F .str [_] (partL s l h)
      rw [partL_eq]
      refine ⟨rfl, ?_⟩
      simp
      omega
  · simp at hp
end
end Go.Proofs.Ytohglckebkgbpaa
