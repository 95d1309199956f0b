/-
  From the contracts of the walks to contracts on plain data.
-/
import Derived.Test.YtohglckebkgbpaaRg
import Derived.Test.YtohglckebkgbpaaPlay
import Derived.Test.YtohglckebkgbpaaHead
namespace Go.Proofs.Ytohglckebkgbpaa
open Go.RowKit

abbrev intT : Ty := .int .i64
abbrev intsT : Ty := .sl intT
abbrev rowsT : Ty := .sl intsT
abbrev boolsT : Ty := .sl .bool
abbrev gameT : Ty := .st (.pair intsT (.pair intsT (.pair rowsT .unit)))
abbrev pathT : Ty := .st (.pair intsT (.pair intsT .unit))
def gameD (g : gameT.T) : Game := ⟨g.1, g.2.1, g.2.2.1⟩
def pathD (p : pathT.T) : Path := ⟨p.1, p.2.1⟩
def pathE (p : Path) : pathT.T := (p.stem, p.loop, ())

theorem RepL.cons {F : Mem} {a : AV} {l : List AV} {vs : List Value} (h : RepL F (a :: l) vs) : ∃ v vs', vs = v :: vs' ∧ RepA ρn F a v ∧ RepL F l vs' := by
  obtain ⟨h1, h2⟩ := h
  cases vs with
  | nil => simp at h1
  | cons v vs' => exact ⟨v, vs', rfl, by simpa using h2 0 a rfl, by simpa using h1, fun j b hj => by simpa using h2 (j + 1) b (by simpa using hj)⟩
theorem RepL.nil {F : Mem} {vs : List Value} (h : RepL F [] vs) : vs = [] := List.eq_nil_of_length_eq_zero (by simpa using h.1)
theorem int_of {F : Mem} {k : IntKind} {v : Value} {n : Int} (h : RepV F (.int k) v n) : v = .int k n := by
  have := h.1; simpa using this
theorem bool_of {F : Mem} {v : Value} {n : Bool} (h : RepV F .bool v n) : v = .bool n := by
  have : [v] = [Value.bool n] := h
  simpa using this
theorem slAt_of {α : Type} {R : Mem → Value → α → Prop} {F : Mem} {t : Ty} (ht : t.sz = 1) (f : t.T → α) (hR : ∀ {us : List Value} {x : t.T}, RepC F t us x → ∃ u, us = [u] ∧ R F u (f x)) {v : Value} {xs : List t.T} (h : RepV F (.sl t) v xs) : SlAt R F v (xs.map f) := by
  obtain ⟨ad, cap, e, h1, h2, h3⟩ := h
  simp only [List.cons.injEq, and_true] at e
  refine ⟨ad, cap, by rw [e]; simp, by simpa using h1, h2, fun j hj => ?_⟩
  obtain ⟨b, off, us, e1, e2, e3⟩ := h3 j (by simpa using hj)
  obtain ⟨u, rfl, hu⟩ := hR e3
  refine ⟨b, off, u, e1, ?_, by simpa using hu⟩
  have := e2 0 u rfl
  rw [ht] at this
  simpa using this
theorem ints_of {F : Mem} {v : Value} {xs : List Int} (h : RepV F intsT v xs) : Ints F v xs := by
  have := slAt_of (R := IntR) (t := intT) rfl id (fun {us x} k => ⟨_, k.1, rfl⟩) h
  simpa using this
theorem bools_of {F : Mem} {v : Value} {xs : List Bool} (h : RepV F boolsT v xs) : Bools F v xs := by
  have := slAt_of (R := BoolR) (t := .bool) rfl id (fun {us x} k => ⟨_, k, rfl⟩) h
  simpa using this
theorem rows_of {F : Mem} {v : Value} {xs : List (List Int)} (h : RepV F rowsT v xs) : Rows2 F v xs := by
  have := slAt_of (R := Ints) (t := intsT) rfl id (fun {us x} k => by
    obtain ⟨ad, cap, e, r⟩ := k
    exact ⟨_, e, ints_of ⟨ad, cap, rfl, r⟩⟩) h
  simpa using this
theorem game_of {F : Mem} {v : Value} {g : gameT.T} (h : RepV F gameT v g) : GameR F v (gameD g) := by
  obtain ⟨us, rfl, u1, r1, rfl, h1, u2, r2, rfl, h2, u3, r3, rfl, h3, h4⟩ := h
  have h4 : r3 = [] := h4
  subst h4
  obtain ⟨a1, c1, rfl, k1⟩ := h1
  obtain ⟨a2, c2, rfl, k2⟩ := h2
  obtain ⟨a3, c3, rfl, k3⟩ := h3
  exact ⟨_, _, _, rfl, ints_of ⟨a1, c1, rfl, k1⟩, ints_of ⟨a2, c2, rfl, k2⟩, rows_of ⟨a3, c3, rfl, k3⟩⟩
theorem path_of {F : Mem} {v : Value} {p : pathT.T} (h : RepV F pathT v p) : PathR F v (pathD p) := by
  obtain ⟨us, rfl, u1, r1, rfl, h1, u2, r2, rfl, h2, h4⟩ := h
  have h4 : r2 = [] := h4
  subst h4
  obtain ⟨a1, c1, rfl, k1⟩ := h1
  obtain ⟨a2, c2, rfl, k2⟩ := h2
  exact ⟨_, _, rfl, ints_of ⟨a1, c1, rfl, k1⟩, ints_of ⟨a2, c2, rfl, k2⟩⟩
theorem of_ints {F : Mem} {v : Value} {xs : List Int} (h : Ints F v xs) (hin : ∀ x ∈ xs, inK .i64 x) : RepC F intsT [v] xs := by
  obtain ⟨a, cap, rfl, h1, h2, h3⟩ := h
  refine ⟨a, cap, rfl, h1, h2, fun i hi => ?_⟩
  obtain ⟨b, off, u, e1, e2, e3⟩ := h3 i hi
  refine ⟨b, off, [u], e1, fun j x hj => ?_, ?_⟩
  · cases j with
    | zero => simp at hj; subst hj; simpa [Ty.sz] using e2
    | succ j => simp at hj
  · have : u = .int .i64 xs[i] := e3
    exact ⟨by rw [this]; rfl, hin _ (List.getElem_mem hi)⟩
theorem of_path {F : Mem} {v : Value} {p : Path} (h : PathR F v p) (h1 : ∀ x ∈ p.stem, inK .i64 x) (h2 : ∀ x ∈ p.loop, inK .i64 x) : RepV F pathT v (pathE p) := by
  obtain ⟨sv, lv, rfl, k1, k2⟩ := h
  exact ⟨[sv, lv], rfl, [sv], [lv], rfl, of_ints k1 h1, [lv], [], rfl, of_ints k2 h2, rfl⟩
/-- a contract that hands on no address -/
theorem callP_ret {P : Program} {T : Tab} {f : FuncId} {args : List AV} {rt : Ty} {r : rt.T} {v : Value} (hen : Enters P f) (hv : ∀ F, RepV F rt v r)
    (h : ∀ (F : Mem) (w : World) (vs : List Value), Sub F w.cell? → RepL F args vs → Calls P f vs.toArray w (Ret w v)) : CallP P T f args rt r := by
  refine ⟨hen, fun F w vs _ hs hr => (h F w vs hs hr).mono ?_⟩
  rintro e w' ⟨rfl, hb⟩
  exact ⟨v, F, rfl, hb, Sub.refl _, hs.trans (bsub hb), fun a u h1 h2 => (by rw [h1] at h2; simp at h2), hv F⟩
/-- a contract whose result lies in new memory -/
theorem callP_new {P : Program} {T : Tab} {f : FuncId} {args : List AV} {rt : Ty} {r : rt.T} (hen : Enters P f)
    (h : ∀ (F : Mem) (w : World) (vs : List Value), Sub F w.cell? → RepL F args vs → Calls P f vs.toArray w (RetR w fun W u => RepV (newM w.heap.size W) rt u r)) : CallP P T f args rt r := by
  refine ⟨hen, fun F w vs _ hs hr => (h F w vs hs hr).mono ?_⟩
  rintro e w' ⟨v, rfl, hv, hb⟩
  refine ⟨v, fun a => if w.heap.size ≤ a.block then w'.cell? a else F a, rfl, hb, ?_, ?_, ?_, hv.mono ?_⟩
  · intro a u hu
    by_cases hk : w.heap.size ≤ a.block
    · simp only [hk, if_true]; exact bsub hb _ _ (hs _ _ hu)
    · simp only [hk, if_false]; exact hu
  · intro a u hu
    by_cases hk : w.heap.size ≤ a.block
    · simp only [hk, if_true] at hu; exact hu
    · simp only [hk, if_false] at hu; exact bsub hb _ _ (hs _ _ hu)
  · intro a u h1 h2
    by_cases hk : w.heap.size ≤ a.block
    · exact hk
    · simp only [hk, if_false] at h1; rw [h1] at h2; simp at h2
  · intro a u hu
    simp only [newM] at hu
    split at hu
    · rename_i hk; simp only [hk, if_true]; exact hu
    · simp at hu
end Go.Proofs.Ytohglckebkgbpaa
