/-
  From the contracts of the walks to contracts on plain data.
-/
import Derived.Test.YtohglckebkgbpaaNd
import Derived.Test.YtohglckebkgbpaaPlay
import Derived.Test.YtohglckebkgbpaaHead
namespace Go.Proofs.Ytohglckebkgbpaa
open Go.RowKit

abbrev intT : Ty := .int .i64
abbrev intsT : Ty := .sl intT
abbrev rowsT : Ty := .sl intsT
abbrev boolsT : Ty := .sl .bool
abbrev gameT : Ty := .st (.pair intsT (.pair intsT (.pair rowsT .unit)))
abbrev pathT : Ty := .st (.pair intsT (.pair intsT .unit))
def gameD (g : gameT.T) : Game := ⟨g.1, g.2.1, g.2.2.1⟩
def pathD (p : pathT.T) : Path := ⟨p.1, p.2.1⟩
def pathE (p : Path) : pathT.T := (p.stem, p.loop, ())

theorem RepL.cons {F : Mem} {a : AV} {l : List AV} {vs : List Value} (h : RepL F (a :: l) vs) : ∃ v vs', vs = v :: vs' ∧ RepA ρn F a v ∧ RepL F l vs' := by
  obtain ⟨h1, h2⟩ := h
  cases vs with
  | nil => simp at h1
  | cons v vs' => exact ⟨v, vs', rfl, by simpa using h2 0 a rfl, by simpa using h1, fun j b hj => by simpa using h2 (j + 1) b (by simpa using hj)⟩
theorem RepL.nil {F : Mem} {vs : List Value} (h : RepL F [] vs) : vs = [] := List.eq_nil_of_length_eq_zero (by simpa using h.1)
theorem int_of {F : Mem} {k : IntKind} {v : Value} {n : Int} (h : RepV F (.int k) v n) : v = .int k n := by
  have := h.1; simpa using this
theorem bool_of {F : Mem} {v : Value} {n : Bool} (h : RepV F .bool v n) : v = .bool n := by
  have : [v] = [Value.bool n] := h
  simpa using this
theorem slAt_of {α : Type} {R : Mem → Value → α → Prop} {F : Mem} {t : Ty} (ht : t.sz = 1) (f : t.T → α) (hR : ∀ {us : List Value} {x : t.T}, RepC F t us x → ∃ u, us = [u] ∧ R F u (f x)) {v : Value} {xs : List t.T} (h : RepV F (.sl t) v xs) : SlAt R F v (xs.map f) := by
  obtain ⟨ad, cap, e, h1, h2, h3⟩ := h
  simp only [List.cons.injEq, and_true] at e
  refine ⟨ad, cap, by rw [e]; simp, by simpa using h1, h2, fun j hj => ?_⟩
  obtain ⟨b, off, us, e1, e2, e3⟩ := h3 j (by simpa using hj)
  obtain ⟨u, rfl, hu⟩ := hR e3
  refine ⟨b, off, u, e1, ?_, by simpa using hu⟩
  have := e2 0 u rfl
  rw [ht] at this
  simpa using this
theorem ints_of {F : Mem} {v : Value} {xs : List Int} (h : RepV F intsT v xs) : Ints F v xs := by
  have := slAt_of (R := IntR) (t := intT) rfl id (fun {us x} k => ⟨_, k.1, rfl⟩) h
  simpa using this
theorem bools_of {F : Mem} {v : Value} {xs : List Bool} (h : RepV F boolsT v xs) : Bools F v xs := by
  have := slAt_of (R := BoolR) (t := .bool) rfl id (fun {us x} k => ⟨_, k, rfl⟩) h
  simpa using this
theorem rows_of {F : Mem} {v : Value} {xs : List (List Int)} (h : RepV F rowsT v xs) : Rows2 F v xs := by
  have := slAt_of (R := Ints) (t := intsT) rfl id (fun {us x} k => by
    obtain ⟨ad, cap, e, r⟩ := k
    exact ⟨_, e, ints_of ⟨ad, cap, rfl, r⟩⟩) h
  simpa using this
theorem game_of {F : Mem} {v : Value} {g : gameT.T} (h : RepV F gameT v g) : GameR F v (gameD g) := by
  obtain ⟨us, rfl, u1, r1, rfl, h1, u2, r2, rfl, h2, u3, r3, rfl, h3, h4⟩ := h
  have h4 : r3 = [] := h4
  subst h4
  obtain ⟨a1, c1, rfl, k1⟩ := h1
  obtain ⟨a2, c2, rfl, k2⟩ := h2
  obtain ⟨a3, c3, rfl, k3⟩ := h3
  exact ⟨_, _, _, rfl, ints_of ⟨a1, c1, rfl, k1⟩, ints_of ⟨a2, c2, rfl, k2⟩, rows_of ⟨a3, c3, rfl, k3⟩⟩
theorem path_of {F : Mem} {v : Value} {p : pathT.T} (h : RepV F pathT v p) : PathR F v (pathD p) := by
  obtain ⟨us, rfl, u1, r1, rfl, h1, u2, r2, rfl, h2, h4⟩ := h
  have h4 : r2 = [] := h4
  subst h4
  obtain ⟨a1, c1, rfl, k1⟩ := h1
  obtain ⟨a2, c2, rfl, k2⟩ := h2
  exact ⟨_, _, rfl, ints_of ⟨a1, c1, rfl, k1⟩, ints_of ⟨a2, c2, rfl, k2⟩⟩
theorem of_ints {F : Mem} {v : Value} {xs : List Int} (h : Ints F v xs) (hin : ∀ x ∈ xs, inK .i64 x) : RepC F intsT [v] xs := by
  obtain ⟨a, cap, rfl, h1, h2, h3⟩ := h
  refine ⟨a, cap, rfl, h1, h2, fun i hi => ?_⟩
  obtain ⟨b, off, u, e1, e2, e3⟩ := h3 i hi
  refine ⟨b, off, [u], e1, fun j x hj => ?_, ?_⟩
  · cases j with
    | zero => simp at hj; subst hj; simpa [Ty.sz] using e2
    | succ j => simp at hj
  · have : u = .int .i64 xs[i] := e3
    exact ⟨by rw [this]; rfl, hin _ (List.getElem_mem hi)⟩
theorem of_path {F : Mem} {v : Value} {p : Path} (h : PathR F v p) (h1 : ∀ x ∈ p.stem, inK .i64 x) (h2 : ∀ x ∈ p.loop, inK .i64 x) : RepV F pathT v (pathE p) := by
  obtain ⟨sv, lv, rfl, k1, k2⟩ := h
  exact ⟨[sv, lv], rfl, [sv], [lv], rfl, of_ints k1 h1, [lv], [], rfl, of_ints k2 h2, rfl⟩
/-- a contract that hands on no address -/
theorem callP_ret {P : Program} {T : Tab} {f : FuncId} {args : List AV} {rt : Ty} {r : rt.T} {v : Value} (hen : Enters P f) (hv : ∀ F, RepV F rt v r)
    (h : ∀ (F : Mem) (w : World) (vs : List Value), Sub F w.cell? → RepL F args vs → Calls P f vs.toArray w (Ret w v)) : CallP P T f args rt r := by
  refine ⟨hen, fun F w vs _ hs hr => (h F w vs hs hr).mono ?_⟩
  rintro e w' ⟨rfl, hb⟩
  exact ⟨v, F, rfl, hb, Sub.refl _, hs.trans (bsub hb), fun a u h1 h2 => (by rw [h1] at h2; simp at h2), hv F⟩
/-- a contract whose result lies in new memory -/
theorem callP_new {P : Program} {T : Tab} {f : FuncId} {args : List AV} {rt : Ty} {r : rt.T} (hen : Enters P f)
    (h : ∀ (F : Mem) (w : World) (vs : List Value), Sub F w.cell? → RepL F args vs → Calls P f vs.toArray w (RetR w fun W u => RepV (newM w.heap.size W) rt u r)) : CallP P T f args rt r := by
  refine ⟨hen, fun F w vs _ hs hr => (h F w vs hs hr).mono ?_⟩
  rintro e w' ⟨v, rfl, hv, hb⟩
  refine ⟨v, fun a => if w.heap.size ≤ a.block then w'.cell? a else F a, rfl, hb, ?_, ?_, ?_, hv.mono ?_⟩
  · intro a u hu
    by_cases hk : w.heap.size ≤ a.block
    · simp only [hk, if_true]; exact bsub hb _ _ (hs _ _ hu)
    · simp only [hk, if_false]; exact hu
  · intro a u hu
    by_cases hk : w.heap.size ≤ a.block
    · simp only [hk, if_true] at hu; exact hu
    · simp only [hk, if_false] at hu; exact bsub hb _ _ (hs _ _ hu)
  · intro a u h1 h2
    by_cases hk : w.heap.size ≤ a.block
    · exact hk
    · simp only [hk, if_false] at h1; rw [h1] at h2; simp at h2
  · intro a u hu
    simp only [newM] at hu
    split at hu
    · rename_i hk; simp only [hk, if_true]; exact hu
    · simp at hu
end Go.Proofs.Ytohglckebkgbpaa
/-
  Contracts on plain data of what the laws of chapter 25 call.
-/
namespace Go.Proofs.Ytohglckebkgbpaa
open Go.RowKit

theorem ints_in {F : Mem} {v : Value} {xs : List Int} (h : RepV F intsT v xs) : ∀ x ∈ xs, inK .i64 x := by
  obtain ⟨ad, cap, e, h1, h2, h3⟩ := h
  intro x hx
  obtain ⟨i, hi, rfl⟩ := List.getElem_of_mem hx
  obtain ⟨b, off, us, _, _, e3⟩ := h3 i hi
  exact e3.2
theorem cp_head (T : Tab) : CallP Try.prog T 9 [] .bool true :=
  callP_ret ⟨fun _ _ => by kernel_rfl⟩ (fun _ => rfl) fun F w vs hs hr => by
    have := hr.nil; subst this; exact head_calls w
theorem cp_right (T : Tab) (g : gameT.T) (set : List Bool) (s : List Int) : CallP Try.prog T 20 [.d gameT g, .d boolsT set, .d intsT s] .bool (rightS (gameD g) set s) :=
  callP_ret ⟨fun _ _ => by kernel_rfl⟩ (fun _ => rfl) fun F w vs hs hr => by
    obtain ⟨v1, r1, rfl, h1, hr⟩ := hr.cons
    obtain ⟨v2, r2, rfl, h2, hr⟩ := hr.cons
    obtain ⟨v3, r3, rfl, h3, hr⟩ := hr.cons
    have := hr.nil; subst this
    exact right_calls w v1 v2 v3 _ _ _ ((game_of h1).mono hs) ((bools_of h2).mono hs) ((ints_of h3).mono hs)
theorem cp_player (T : Tab) (b : Bool) : CallP Try.prog T 21 [.d .bool b] (.int .i64) (playerS b) :=
  callP_ret (v := .int .i64 (playerS b)) ⟨fun _ _ => by kernel_rfl⟩ (fun _ => ⟨rfl, by cases b <;> decide⟩) fun F w vs hs hr => by
    obtain ⟨v1, r1, rfl, h1, hr⟩ := hr.cons
    have := hr.nil; subst this
    have := bool_of (F := F) h1; subst this
    exact player_calls w b
theorem cp_Valid (T : Tab) (g : gameT.T) (player : Int) (set : List Bool) (s : List Int) : CallP Try.prog T 13 [.d gameT g, .d (.int .i64) player, .d boolsT set, .d intsT s] .bool (validS (gameD g) player set s) :=
  callP_ret ⟨fun _ _ => by kernel_rfl⟩ (fun _ => rfl) fun F w vs hs hr => by
    obtain ⟨v1, r1, rfl, h1, hr⟩ := hr.cons
    obtain ⟨v0, r0, rfl, h0, hr⟩ := hr.cons
    obtain ⟨v2, r2, rfl, h2, hr⟩ := hr.cons
    obtain ⟨v3, r3, rfl, h3, hr⟩ := hr.cons
    have := hr.nil; subst this
    have := int_of (F := F) h0; subst this
    exact strategy_Valid w v1 v2 v3 _ player _ _ ((game_of h1).mono hs) ((bools_of h2).mono hs) ((ints_of h3).mono hs)
theorem cp_Wins (T : Tab) (g : gameT.T) (player : Int) (set : List Bool) (s : List Int) : CallP Try.prog T 15 [.d gameT g, .d (.int .i64) player, .d boolsT set, .d intsT s] .bool (winsS (gameD g) player set s) :=
  callP_ret ⟨fun _ _ => by kernel_rfl⟩ (fun _ => rfl) fun F w vs hs hr => by
    obtain ⟨v1, r1, rfl, h1, hr⟩ := hr.cons
    obtain ⟨v0, r0, rfl, h0, hr⟩ := hr.cons
    obtain ⟨v2, r2, rfl, h2, hr⟩ := hr.cons
    obtain ⟨v3, r3, rfl, h3, hr⟩ := hr.cons
    have := hr.nil; subst this
    have := int_of (F := F) h0; subst this
    exact strategy_Wins w v1 v2 v3 _ player _ _ ((game_of h1).mono hs) ((bools_of h2).mono hs) ((ints_of h3).mono hs)
theorem cp_Winner (T : Tab) (g : gameT.T) (p : pathT.T) (hlen : p.1.length + p.2.1.length ≤ 1000000) (hin : inK .i64 (winnerS (gameD g) (pathD p))) : CallP Try.prog T 18 [.d gameT g, .d pathT p] (.int .i64) (winnerS (gameD g) (pathD p)) :=
  callP_ret (v := .int .i64 (winnerS (gameD g) (pathD p))) ⟨fun _ _ => by kernel_rfl⟩ (fun _ => ⟨rfl, hin⟩) fun F w vs hs hr => by
    obtain ⟨v1, r1, rfl, h1, hr⟩ := hr.cons
    obtain ⟨v2, r2, rfl, h2, hr⟩ := hr.cons
    have := hr.nil; subst this
    exact strategy_Winner w v1 v2 _ _ ((game_of h1).mono hs) ((path_of h2).mono hs) hlen
theorem playF_all {Pr : Int → Prop} {g : Game} {a b : List Int} (hp : ∀ j, Pr (playTo g a b j)) : ∀ (f : Nat) (l : List Int) (i : Int) (l' : List Int) (i' : Int), (∀ x ∈ l, Pr x) → Pr i → playF g a b f l i = some (l', i') → ∀ x ∈ l', Pr x
  | 0, _, _, _, _, _, _, h => by simp [playF] at h
  | f + 1, l, i, l', i', hl, hi, h => by
    simp only [playF] at h
    split at h
    · simp only [Option.some.injEq, Prod.mk.injEq] at h
      rw [← h.1]; exact hl
    · split at h
      · refine playF_all hp f _ _ l' i' ?_ (hp i) h
        intro x hx
        rcases List.mem_append.1 hx with hx | hx
        · exact hl x hx
        · simp only [List.mem_singleton] at hx; subst hx; exact hi
      · simp at h
theorem playS_all {Pr : Int → Prop} {g : Game} {a b : List Int} {start : Int} (hp : ∀ j, Pr (playTo g a b j)) (hi : Pr start) : (∀ x ∈ (playS g a b start).stem, Pr x) ∧ ∀ x ∈ (playS g a b start).loop, Pr x := by
  unfold playS
  split
  · split
    · rename_i l i h
      have := playF_all hp _ _ _ _ _ (by simp) hi h
      exact ⟨fun x hx => this x (List.mem_of_mem_take hx), fun x hx => this x (List.mem_of_mem_drop hx)⟩
    · simp
  · simp
theorem getD_in {l : List Int} {n : Nat} (h : ∀ x ∈ l, inK .i64 x) : inK .i64 (l.getD n 0) := by
  rw [List.getD_eq_getElem?_getD]
  cases hx : l[n]? with
  | none => decide
  | some x => exact h x (List.mem_of_getElem? hx)
theorem cp_Play (T : Tab) (g : gameT.T) (a b : List Int) (start : Int) : CallP Try.prog T 11 [.d gameT g, .d intsT a, .d intsT b, .d (.int .i64) start] pathT (pathE (playS (gameD g) a b start)) :=
  callP_new ⟨fun _ _ => by kernel_rfl⟩ fun F w vs hs hr => by
    obtain ⟨v1, r1, rfl, h1, hr⟩ := hr.cons
    obtain ⟨v2, r2, rfl, h2, hr⟩ := hr.cons
    obtain ⟨v3, r3, rfl, h3, hr⟩ := hr.cons
    obtain ⟨v0, r0, rfl, h0, hr⟩ := hr.cons
    have := hr.nil; subst this
    have hin : inK .i64 start := (show RepC F (.int .i64) [v0] start from h0).2
    have := int_of (F := F) h0; subst this
    refine (strategy_PlayN w v1 v2 v3 _ _ _ start ((game_of h1).mono hs) ((ints_of h2).mono hs) ((ints_of h3).mono hs)).mono ?_
    rintro e w' ⟨v, rfl, hv, hb⟩
    have hp : ∀ j, inK .i64 (playTo (gameD g) a b j) := fun j => by
      unfold playTo
      split
      · exact getD_in (ints_in h3)
      · exact getD_in (ints_in h2)
    obtain ⟨k1, k2⟩ := playS_all (start := start) hp hin
    exact ⟨v, rfl, of_path hv k1 k2, hb⟩
end Go.Proofs.Ytohglckebkgbpaa
