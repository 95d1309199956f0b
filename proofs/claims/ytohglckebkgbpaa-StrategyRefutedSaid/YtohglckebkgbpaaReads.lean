/-
  How the arguments of this seat's laws read: games, sets, strategies, plays.
-/
import Derived.Test.YtohglckebkgbpaaFrame
import Derived.Test.YtohglckebkgbpaaLawHelp
import Derived.Lib.SmallJoins
namespace Go.Proofs.Ytohglckebkgbpaa
open Go.RowKit Go.ChangeShapes Go.WideShapes Go.ChangeAt Go.Joins

theorem laid : laidOutB Try.prog = true := by kernel_rfl
theorem ownk : ownKnob (Try.prog).godebug = none := by kernel_rfl
section
variable {H : Type} {enc : TypeId × Value → H} {W : World} {r : Reach} {b0 : Nat} {sp : Nat → Bool} {v : Value} {d : DataW H} {p : List MemPlace}

theorem cells1_int : (Try.prog).cellsOf 3 = 1 := by kernel_rfl
theorem cells1_bool : (Try.prog).cellsOf 4 = 1 := by kernel_rfl
theorem cells1_ints : (Try.prog).cellsOf 22 = 1 := by kernel_rfl

theorem ints_trod (fuel : Nat) (c : Value) (d : DataW H) (ps : List MemPlace) (h : DataW.trod enc Try.prog W 0 sp true fuel 22 [c] = some (d, ps)) : ∃ xs, Ints W.cell? c xs :=
  slAt_of_trod Try.underlying22 cells1_int (fun fuel c d ps h => int_of_trod Try.underlying3 fuel c d ps h) h
theorem rows_trod (fuel : Nat) (c : Value) (d : DataW H) (ps : List MemPlace) (h : DataW.trod enc Try.prog W 0 sp true fuel 23 [c] = some (d, ps)) : ∃ xs, Rows2 W.cell? c xs :=
  slAt_of_trod Try.underlying23 cells1_ints (fun fuel c d ps h => ints_trod fuel c d ps h) h
theorem bools_trod (fuel : Nat) (c : Value) (d : DataW H) (ps : List MemPlace) (h : DataW.trod enc Try.prog W 0 sp true fuel 26 [c] = some (d, ps)) : ∃ xs, Bools W.cell? c xs :=
  slAt_of_trod Try.underlying26 cells1_bool (fun fuel c d ps h => bool_of_trod Try.underlying4 fuel c d ps h) h

theorem read_ints (hv : Value.okWide Try.prog W r b0 22 v) (h : DataW.Trod enc Try.prog W 0 sp true 22 v d p) : ∃ xs, Ints W.cell? v xs := by
  obtain ⟨a, len, cap, rfl⟩ := okWide_slice Try.underlying22 hv
  obtain ⟨fuel, hf⟩ := h
  exact ints_trod fuel _ d p (by simpa [Value.cells] using hf)
theorem read_bools (hv : Value.okWide Try.prog W r b0 26 v) (h : DataW.Trod enc Try.prog W 0 sp true 26 v d p) : ∃ xs, Bools W.cell? v xs := by
  obtain ⟨a, len, cap, rfl⟩ := okWide_slice Try.underlying26 hv
  obtain ⟨fuel, hf⟩ := h
  exact bools_trod fuel _ d p (by simpa [Value.cells] using hf)
theorem read_game (hv : Value.okWide Try.prog W r b0 25 v) (h : DataW.Trod enc Try.prog W 0 sp true 25 v d p) : ∃ g, GameR W.cell? v g := by
  obtain ⟨c0, c1, c2, y0, y1, y2, n, rfl, _, _, h0, h1, h2⟩ := open_agg3 Try.underlying25 (by kernel_rfl) (by kernel_rfl) hv h
  obtain ⟨x0, e0⟩ := ints_trod n c0 y0.1 y0.2 h0
  obtain ⟨x1, e1⟩ := ints_trod n c1 y1.1 y1.2 h1
  obtain ⟨x2, e2⟩ := rows_trod n c2 y2.1 y2.2 h2
  exact ⟨⟨x0, x1, x2⟩, _, _, _, rfl, e0, e1, e2⟩
theorem read_path (hv : Value.okWide Try.prog W r b0 28 v) (h : DataW.Trod enc Try.prog W 0 sp true 28 v d p) : ∃ q, PathR W.cell? v q := by
  obtain ⟨c0, c1, y0, y1, n, rfl, _, _, h0, h1⟩ := open_agg2 Try.underlying28 (by kernel_rfl) (by kernel_rfl) hv h
  obtain ⟨x0, e0⟩ := ints_trod n c0 y0.1 y0.2 h0
  obtain ⟨x1, e1⟩ := ints_trod n c1 y1.1 y1.2 h1
  exact ⟨⟨x0, x1⟩, _, _, rfl, e0, e1⟩
end
end Go.Proofs.Ytohglckebkgbpaa
