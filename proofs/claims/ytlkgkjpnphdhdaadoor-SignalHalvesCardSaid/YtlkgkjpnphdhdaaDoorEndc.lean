/-
  The ends of laws whose rows list package-level variables: what the condition gives.
-/
import Derived.Test.YtlkgkjpnphdhdaaDoorFrame
import Derived.Test.YtlkgkjpnphdhdaaDoorTab
import Derived.Test.YtlkgkjpnphdhdaaDoorNd
import Derived.Test.YtlkgkjpnphdhdaaDoorRows
import Derived.Lib.SmallJoins
import Derived.Lib.LaidTab
import Derived.ProofKit
import Derived.LaidMore
import Derived.OpenShut
import Derived.Stop.Joined
namespace Go.Proofs.YtlkgkjpnphdhdaaDoor
open Go.RowKit Go.ChangeShapes Go.WideShapes Go.ChangeAt Go.Joins

theorem laid : laidOutB Tryd.prog = true := by kernel_rfl
theorem ownk : ownKnob (Tryd.prog).godebug = none := by kernel_rfl
def laidL : List (String × DataW Unit) := [("unicode.White_Space", Rows.laid_unicode_White_Space), ("strings.asciiSpace", Rows.laid_strings_asciiSpace)]
theorem gTab : (Tryd.prog).globalNamed "strings.asciiSpace" = some 0 := by kernel_rfl
theorem tTab : ((Tryd.prog).globals[0]?).map (·.type) = some 56 := by kernel_rfl
theorem laid_tab : (Rows.laid_strings_asciiSpace : DataW Unit) = Lib.tabData .u8 Lib.asciiSpaceTab := by kernel_rfl
theorem door_met (os : Os) (args : Array Value) : laidMetH Tryd.prog laidL ((World.doorLaid Tryd.prog 33 os).forCall (fun _ _ => 0) ⟨#[], args, []⟩).memory :=
  laidMetH_of_parts3 (fuel := 8) (laidMet_of_run' 8 (by kernel_rfl) (by kernel_rfl)) (by kernel_rfl) (by kernel_rfl)
theorem tab_of_laid {W : World} (h : laidMetH Tryd.prog laidL W) : Lib.TabIs Tryd.prog W "strings.asciiSpace" .u8 Lib.asciiSpaceTab := by
  rw [MakeChecks.laidMetH_plain _ _ _ (by kernel_rfl)] at h
  obtain ⟨ps, ⟨g0, t0, cs0, f0, p0, q0, hg0, ht0, hv0, hd0, ⟨g1, t1, cs1, f1, p1, q1, hg1, ht1, hv1, hd1, _, _⟩, _⟩, _, _⟩ := h
  obtain rfl := Option.some.inj (gTab.symm.trans hg1)
  obtain rfl := Option.some.inj (tTab.symm.trans ht1)
  rw [laid_tab] at hd1
  unfold Lib.TabIs
  rw [hv1, ← Lib.cells_of_tab Tryd.underlying56 Tryd.underlying5 (by kernel_rfl) (by kernel_rfl) hd1]
theorem glob_of_laid {W : World} (h : laidMetH Tryd.prog laidL W) : GlobOk tT W.cell? := by
  have ht := tab_of_laid h
  have hlen := Lib.asciiSpaceTab_length
  intro g x hx
  have hx : look [((0 : Nat), (⟨.arr 256 (.int .u8), Lib.asciiSpaceTab⟩ : Glob))] g = some x := hx
  by_cases hg : g = 0
  · subst hg
    have hx : (⟨.arr 256 (.int .u8), Lib.asciiSpaceTab⟩ : Glob) = x := Option.some.inj hx
    subst hx
    refine ⟨0, 0, Lib.asciiSpaceTab.map fun z => Value.int .u8 z, rfl, fun j u hj => ?_, ?_⟩
    · have hjl : j < Lib.asciiSpaceTab.length := by
        rcases Nat.lt_or_ge j Lib.asciiSpaceTab.length with h1 | h1
        · exact h1
        · rw [List.getElem?_eq_none (by rw [List.length_map]; exact h1)] at hj; simp at hj
      have hc := ht.cell gTab j hjl
      rw [Nat.zero_add]
      rw [hc]
      simp only [List.getElem?_map] at hj
      rw [List.getElem?_eq_getElem hjl] at hj
      simp only [Option.map_some, Option.some.injEq] at hj
      rw [← hj]
      simp [List.getD_eq_getElem?_getD, hjl]
    · have hle : List.length Lib.asciiSpaceTab = 256 := hlen
      refine ⟨by rw [List.length_map, hlen]; rfl, hle, fun u hu => ?_, fun i hi => ?_⟩
      · obtain ⟨z, _, rfl⟩ := List.mem_map.1 hu; rfl
      · have hi' : i < Lib.asciiSpaceTab.length := hi
        have e1 : ((Lib.asciiSpaceTab.map fun z => Value.int .u8 z).drop (i * (Ty.int IntKind.u8).sz)).take (Ty.int IntKind.u8).sz = [Value.int .u8 (Lib.asciiSpaceTab.get ⟨i, hi'⟩)] := by
          show ((Lib.asciiSpaceTab.map fun z => Value.int .u8 z).drop (i * 1)).take 1 = _
          rw [Nat.mul_one, List.drop_eq_getElem_cons (by rw [List.length_map]; exact hi'), List.take_succ_cons, List.take_zero]
          simp
        refine ⟨e1, ?_⟩
        have h2 := Lib.asciiSpaceTab_at i (by omega)
        have h3 : Lib.asciiSpaceTab.get ⟨i, hi'⟩ = Lib.asciiSpaceTab.getD i 0 := by simp [List.getD_eq_getElem?_getD, hi']
        show inK .u8 (Lib.asciiSpaceTab.get ⟨i, hi'⟩)
        rw [h3, h2]
        split <;> exact ⟨by decide, by decide⟩
  · exfalso
    have : look [((0 : Nat), (⟨.arr 256 (.int .u8), Lib.asciiSpaceTab⟩ : Glob))] g = none := by
      have hb : Nat.beq g 0 = false := by cases g with | zero => exact absurd rfl hg | succ g => rfl
      have hb2 : Nat.beq 0 g = false := by cases g with | zero => exact absurd rfl hg | succ g => rfl
      simp [look, hb, hb2, hg, Ne.symm hg]
    rw [this] at hx; simp at hx
end Go.Proofs.YtlkgkjpnphdhdaaDoor
