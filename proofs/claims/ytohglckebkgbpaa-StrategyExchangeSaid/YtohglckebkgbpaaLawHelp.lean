/-
  Contracts of the law's own helpers: right, player, play, Example, head.
-/
import Derived.Test.YtohglckebkgbpaaRefArena
import Derived.Test.YtohglckebkgbpaaPlay
namespace Go.Proofs.Ytohglckebkgbpaa
open Go.RowKit

def rightS (g : Game) (set : List Bool) (s : List Int) : Bool := (smallG g 16 && g.valid) && (decide (set.length = g.owner.length) && decide (s.length = g.owner.length))

theorem right_calls (w : World) (v vs vt : Value) (g : Game) (set : List Bool) (s : List Int) (hg : GameR w.cell? v g) (hset : Bools w.cell? vs set) (hs : Ints w.cell? vt s) :
    Calls Try.prog 20 #[v, vs, vt] w (Ret w (.bool (rightS g set s))) := by
  have HG := Lib.hid hg
  obtain ⟨ov, pv, sv, rfl, ho, hp, hsu⟩ := hg
  obtain ⟨ao, co, rfl, o1, o2⟩ := SlAt.shape ho
  obtain ⟨ab, cs, rfl, s1, s2⟩ := SlAt.shape hset
  obtain ⟨aw, ct, rfl, t1, t2⟩ := SlAt.shape hs
  clear ho hp hsu hset hs
  go_enter Try.func20, Try.ntmps20
  go_wp2_with fail
  refine (ref_Small _ _ g 16 (HG.out.mono (bsub (below_alloc _ _)))).mono ?_
  rintro e w1 ⟨rfl, hb1⟩
  have c0 : w1.cell? ⟨w.heap.size, 0, none⟩ = some (.slice ao g.owner.length co) := bsub hb1 _ _ (by go_simp)
  have c1 : w1.cell? ⟨w.heap.size, 1, none⟩ = some pv := bsub hb1 _ _ (by go_simp)
  have c2 : w1.cell? ⟨w.heap.size, 2, none⟩ = some sv := bsub hb1 _ _ (by go_simp)
  have B1 := Lib.hid (bstep (below_alloc w _) hb1); clear hb1
  by_cases hsm : smallG g 16 = true
  · go_wp2_with fail
    refine (ref_Valid _ _ g (HG.out.mono (bsub B1.out))).mono ?_
    rintro e w2 ⟨rfl, hb2⟩
    have d0 := bsub hb2 _ _ c0
    have B2 := Lib.hid (bstep B1.out hb2); clear hb2 c0 c1 c2
    by_cases hv : g.valid = true
    · by_cases h2 : set.length = g.owner.length
      · have q2 : ((set.length : Int) == (g.owner.length : Int)) = true := by simp [h2]
        have H2 := Lib.hid h2; clear h2
        by_cases h3 : s.length = g.owner.length
        · have q3 : ((s.length : Int) == (g.owner.length : Int)) = true := by simp [h3]
          have hfin : Hid (rightS g set s = true) := by simp [rightS, hsm, hv, H2.out, h3, Hid]
          clear h3
          go_wp2
          go_ret
          exact ⟨ret_bool hfin.out.symm, B2.out⟩
        · have q3 : ((s.length : Int) == (g.owner.length : Int)) = false := by simp; omega
          have hfin : Hid (rightS g set s = false) := by simp [rightS, h3, Hid]
          go_wp2
          go_ret
          exact ⟨ret_bool hfin.out.symm, B2.out⟩
      · have q3 : ((set.length : Int) == (g.owner.length : Int)) = false := by simp; omega
        have hfin : Hid (rightS g set s = false) := by simp [rightS, h2, Hid]
        go_wp2
        go_ret
        exact ⟨ret_bool hfin.out.symm, B2.out⟩
    · rw [Bool.not_eq_true] at hv
      go_wp2
      go_ret
      exact ⟨ret_bool (by simp [rightS, hv]), B2.out⟩
  · rw [Bool.not_eq_true] at hsm
    go_wp2
    go_ret
    exact ⟨ret_bool (by simp [rightS, hsm]), B1.out⟩

def playerS (second : Bool) : Int := if second then 1 else 0
theorem player_calls (w : World) (b : Bool) : Calls Try.prog 21 #[.bool b] w (Ret w (.int .i64 (playerS b))) := by
  cases b
  · go_enter Try.func21, Try.ntmps21
    go_wp2
    go_ret
    exact ⟨rfl, Below.refl _ _⟩
  · go_enter Try.func21, Try.ntmps21
    go_wp2
    go_ret
    exact ⟨rfl, Below.refl _ _⟩

theorem Example_calls (w : World) : Calls Try.prog 28 #[] w (RetR w fun W u => GameR W.cell? u ⟨[0, 1, 0], [1, 2, 3], [[1, 2], [0, 1], [0]]⟩) := by
  go_enter Try.func28, Try.ntmps28
  go_wp2
  refine bodyPost_ret (v := .agg #[.slice (some ⟨w.heap.size + 1, 0, none⟩) 3 3, .slice (some ⟨w.heap.size + 1 + 1, 0, none⟩) 3 3, .slice (some ⟨w.heap.size + 1 + 1 + 1 + 1 + 1 + 1, 0, none⟩) 3 3]) (by simp [results, Try.results28, go_sem]) rfl ?_
  refine ⟨_, rfl, ⟨_, _, _, rfl, SlAt.lit3 (by go_simp) (by go_simp) (by go_simp) rfl rfl rfl, SlAt.lit3 (by go_simp) (by go_simp) (by go_simp) rfl rfl rfl, SlAt.lit3 (u0 := .slice (some ⟨w.heap.size + 1 + 1 + 1, 0, none⟩) 2 2) (u1 := .slice (some ⟨w.heap.size + 1 + 1 + 1 + 1, 0, none⟩) 2 2) (u2 := .slice (some ⟨w.heap.size + 1 + 1 + 1 + 1 + 1, 0, none⟩) 1 1) (by go_simp) (by go_simp) (by go_simp) (SlAt.lit2 (by go_simp) (by go_simp) rfl rfl) (SlAt.lit2 (by go_simp) (by go_simp) rfl rfl) (SlAt.lit1 (by go_simp) rfl)⟩, ?_⟩
  repeat (first | exact Below.refl _ _ | refine Below.setCell ?_ (by simp; try omega) _ | refine Below.alloc ?_ (by simp; try omega) _)

def exG : Game := ⟨[0, 1, 0], [1, 2, 3], [[1, 2], [0, 1], [0]]⟩
theorem ex1 : playS exG [2, -1, 0] [-1, 1, -1] 1 = ⟨[], [1]⟩ := by decide +kernel
theorem ex2 : playS exG [2, -1, 0] [-1, 0, -1] 1 = ⟨[1], [0, 2]⟩ := by decide +kernel
theorem ex3 : validS exG 0 [true, true, true] [1, -1, 0] = true := by decide +kernel
theorem ex4 : winsS exG 0 [true, true, true] [1, -1, 0] = false := by decide +kernel
theorem ex5 : validS exG 0 [false, true, false] [-1, -1, -1] = false := by decide +kernel
theorem ex6 : winsS exG 1 [true, true, true] [-1, 0, -1] = true := by decide +kernel
theorem ex7 : winnerS exG ⟨[], [1]⟩ = 0 := by decide +kernel
theorem ex8 : winnerS exG ⟨[1], [0, 2]⟩ = 1 := by decide +kernel
theorem ex9 : winnerS exG ⟨[], [0]⟩ = -1 := by decide +kernel
theorem ey1 : (([1] : List Int) == [1]) = true := rfl
theorem ey2 : (([0, 2] : List Int) == [0, 2]) = true := rfl
theorem ex10 : playS exG [] [] 0 = ⟨[], []⟩ := by decide +kernel
end Go.Proofs.Ytohglckebkgbpaa
