/-
  Contracts of arena.Valid and of what it calls; what a well-formed game is.
-/
import Derived.Test.YtohglckebkgbpaaSlices
namespace Go.Proofs.Ytohglckebkgbpaa
open Go.RowKit

structure Game where
  owner : List Int
  prio : List Int
  succ : List (List Int)

def GameR (m : Mem) (v : Value) (g : Game) : Prop := ∃ ov pv sv, v = .agg #[ov, pv, sv] ∧ Ints m ov g.owner ∧ Ints m pv g.prio ∧ Rows2 m sv g.succ
theorem GameR.mono {m m' : Mem} {v : Value} {g : Game} (hs : Sub m m') (h : GameR m v g) : GameR m' v g := by
  obtain ⟨ov, pv, sv, h0, h1, h2, h3⟩ := h
  exact ⟨ov, pv, sv, h0, h1.mono hs, h2.mono hs, h3.mono hs⟩

def out (lo hi x : Int) : Bool := decide (x < lo) || decide (hi < x)
def inR (lo hi : Int) (l : List Int) : Bool := l.all fun x => !out lo hi x
def rowOk (n : Nat) (l : List Int) : Bool := !l.isEmpty && inR 0 (n - 1) l
def Game.valid (g : Game) : Bool :=
  decide (g.owner.length ≤ 3000) && decide (g.prio.length = g.owner.length) && decide (g.succ.length = g.owner.length) &&
  inR 0 1 g.owner && inR 0 30000 g.prio && g.succ.all (rowOk g.owner.length)

theorem within1_enters : Enters Try.prog 52 := ⟨fun _ _ => by kernel_rfl⟩
theorem within1_calls (w : World) (x lo hi : Int) (p1 p2 : Addr) (h1 : w.cell? p1 = some (.int .i64 lo)) (h2 : w.cell? p2 = some (.int .i64 hi)) :
    Calls Try.prog 52 #[.int .i64 x, .pointer (some p1), .pointer (some p2)] w (Ret w (.bool (out lo hi x))) := by
  by_cases h : x < lo
  · go_enter Try.func52, Try.ntmps52
    go_wp2
    go_ret
    exact ⟨ret_bool (by simp [out, h]), Below.refl _ _⟩
  · have hd : decide (x < lo) = false := by simpa using h
    go_enter Try.func52, Try.ntmps52
    go_wp2
    go_ret
    exact ⟨ret_bool (by simp [out, hd]), Below.refl _ _⟩

/-- the contract of ContainsFunc where the function value only looks -/
theorem pureFound {σ : World → Prop} {P : Program} {f : FuncId} {args : Array Value} {w : World} {α : Type} {p : α → Bool} {xs : List α}
    (h : Calls P f args w (FoundPost (fun (_ : Unit) w' => σ w') (findS (fun (s : Unit) x => (p x, s)) xs () 0))) :
    Calls P f args w (fun e w' => e = .returned (.bool (xs.any p)) ∧ σ w') :=
  h.mono fun e w' ⟨he, hs⟩ => ⟨by rw [he, findS_pure], hs⟩

theorem within_found (w W : World) (lo hi : Int) (v : Value) (xs : List Int) (hx : Ints w.cell? v xs) (hs : Below w.heap.size w W) (p1 p2 : Addr) (h1 : W.cell? p1 = some (.int .i64 lo)) (h2 : W.cell? p2 = some (.int .i64 hi)) :
    Calls Try.prog 34 #[v, .func (.func 52) #[] #[.pointer (some p1), .pointer (some p2)]] W (Ret W (.bool (xs.any (out lo hi)))) :=
  pureFound (slices_ContainsFuncInt IntR (fun _ w' => Below W.heap.size W w') _ w.cell? xs () W v _ _ hx (fun _ w1 h => (bsub hs).trans (bsub h)) (Below.refl _ _) within1_enters
    (fun _ w1 u x _ h hu => by
      cases hu
      exact (within1_calls w1 x lo hi p1 p2 (bsub h _ _ h1) (bsub h _ _ h2)).mono fun e w' ⟨he, hb⟩ => ⟨he, bstep h hb⟩))

theorem inR_any (lo hi : Int) (l : List Int) : (!l.any (out lo hi)) = inR lo hi l := by simp [inR, List.all_eq_not_any_not]

theorem within_calls (w : World) (lo hi : Int) (v : Value) (xs : List Int) (hx : Ints w.cell? v xs) :
    Calls Try.prog 42 #[.int .i64 lo, .int .i64 hi, v] w (Ret w (.bool (inR lo hi xs))) := by
  have HX := Lib.hid hx; clear hx
  go_enter Try.func42, Try.ntmps42
  go_wp2_with fail
  refine (within_found w _ lo hi v xs HX.out (bstep (below_alloc _ _) (below_alloc _ _)) _ _ (by go_simp) (by go_simp)).mono ?_
  rintro e w' ⟨rfl, hb⟩
  have HB := Lib.hid hb; clear hb
  go_wp2
  go_ret
  exact ⟨ret_bool (inR_any _ _ _), bstep (bstep (below_alloc _ _) (below_alloc _ _)) HB.out⟩

theorem valid1_enters : Enters Try.prog 44 := ⟨fun _ _ => by kernel_rfl⟩
theorem valid1_calls (w : World) (v : Value) (l : List Int) (n : Nat) (hn : n ≤ 3000) (hx : Ints w.cell? v l) (p : Addr) (h1 : w.cell? p = some (.int .i64 n)) :
    Calls Try.prog 44 #[v, .pointer (some p)] w (Ret w (.bool (!rowOk n l))) := by
  have HX := Lib.hid hx
  obtain ⟨a, cap, rfl, hl1, hl2, hl3⟩ := hx
  unfold maxLen at hl2
  have HL := Lib.hid hl3; clear hl3
  by_cases h : l.length = 0
  · have hd : decide (l.length = 0) = true := by simpa using h
    have hl : l = [] := List.eq_nil_of_length_eq_zero h
    go_enter Try.func44, Try.ntmps44
    go_wp2
    go_ret
    exact ⟨ret_bool (by simp [rowOk, hl]), Below.refl _ _⟩
  · have hd : ((l.length : Int) == 0) = false := by simp; simpa using h
    have hf : l.isEmpty = false := by cases l <;> simp_all
    have HF : Hid (l.isEmpty = false) := hf
    clear hf
    go_enter Try.func44, Try.ntmps44
    go_wp2_with (go_at_call 42; refine (within_calls _ _ _ _ l HX.out).mono ?_; rintro e w' ⟨rfl, hb⟩)
    go_ret
    exact ⟨ret_bool (by simp [rowOk, HF.out]), hb⟩

theorem valid_found (w W : World) (v : Value) (rows : List (List Int)) (n : Nat) (hn : n ≤ 3000) (hx : Rows2 w.cell? v rows) (hs : Below w.heap.size w W) (p : Addr) (h1 : W.cell? p = some (.int .i64 n)) :
    Calls Try.prog 43 #[v, .func (.func 44) #[] #[.pointer (some p)]] W (Ret W (.bool (rows.any fun l => !rowOk n l))) :=
  pureFound (slices_ContainsFuncRow Ints (fun _ w' => Below W.heap.size W w') _ w.cell? rows () W v _ _ hx (fun _ _ h => (bsub hs).trans (bsub h)) (Below.refl _ _) valid1_enters
    (fun _ w1 u x _ h hu => 
      (valid1_calls w1 u x n hn (hu.mono ((bsub hs).trans (bsub h))) p (bsub h _ _ h1)).mono fun _ _ ⟨he, hb⟩ => ⟨he, bstep h hb⟩))

theorem arena_Valid (w : World) (v : Value) (g : Game) (hg : GameR w.cell? v g) :
    Calls Try.prog 29 #[v] w (Ret w (.bool g.valid)) := by
  obtain ⟨ov, pv, sv, rfl, ho, hp, hs⟩ := hg
  have HO := Lib.hid ho
  have HP := Lib.hid hp
  have HS := Lib.hid hs
  obtain ⟨ao, co, rfl, o1, o2, o3⟩ := ho
  obtain ⟨ap, cp, rfl, p1, p2, p3⟩ := hp
  obtain ⟨as', cs, rfl, s1, s2, s3⟩ := hs
  unfold maxLen at o2 p2 s2
  clear o3 p3 s3
  go_enter Try.func29, Try.ntmps29
  go_wp2_with fail
  · have e1 : g.owner.length ≤ 3000 := by omega
    have e2 : g.prio.length = g.owner.length := by omega
    have e3 : g.succ.length = g.owner.length := by omega
    have E2 := Lib.hid e2; have E3 := Lib.hid e3; clear e2 e3
    refine (within_calls _ _ _ _ g.owner (HO.out.mono (bsub (bstep (below_alloc _ _) (below_alloc _ _))))).mono ?_
    rintro e w1 ⟨rfl, hb1⟩
    have hb1' := bstep (bstep (below_alloc w _) (below_alloc _ _)) hb1
    have hc1 := bcell hb1
    have hz1 : w.heap.size + 1 < w1.heap.size := by have := hb1.size; simp at this; omega
    have hz0 : w.heap.size < w1.heap.size := by omega
    have HB1 := Lib.hid hb1'; clear hb1 hb1'
    by_cases hi : inR 0 1 g.owner = true
    · go_wp2_with fail
      refine (within_calls _ _ _ _ g.prio (HP.out.mono (bsub HB1.out))).mono ?_
      rintro e w2 ⟨rfl, hb2⟩
      have hc2 := bcell hb2
      have HB2 := Lib.hid (bstep HB1.out hb2); clear hb2
      by_cases hj : inR 0 30000 g.prio = true
      · go_wp2_with fail
        refine (valid_found w _ _ g.succ g.owner.length e1 HS.out HB2.out _ ?c1).mono ?_
        case c1 => go_simp
        rintro e w3 ⟨rfl, hb3⟩
        have HB3 := Lib.hid (bstep HB2.out hb3); clear hb3
        go_wp2
        go_ret
        refine ⟨ret_bool ?_, HB3.out⟩
        simp [Game.valid, e1, E2.out, E3.out, hi, hj, List.all_eq_not_any_not]
      · rw [Bool.not_eq_true] at hj
        go_wp2
        go_ret
        exact ⟨ret_bool (by simp [Game.valid, hj]), HB2.out⟩
    · rw [Bool.not_eq_true] at hi
      go_wp2
      go_ret
      exact ⟨ret_bool (by simp [Game.valid, hi]), HB1.out⟩
  all_goals
    go_ret
    refine ⟨ret_bool ?_, bstep (below_alloc _ _) (below_alloc _ _)⟩
  · have e3 : ¬ g.succ.length = g.owner.length := by omega
    simp [Game.valid, e3]
  · have e3 : ¬ g.prio.length = g.owner.length := by omega
    simp [Game.valid, e3]
  · have e3 : ¬ g.owner.length ≤ 3000 := by omega
    simp [Game.valid, e3]
end Go.Proofs.Ytohglckebkgbpaa
