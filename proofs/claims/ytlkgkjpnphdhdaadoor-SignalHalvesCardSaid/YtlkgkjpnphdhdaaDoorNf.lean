/-
  Contracts proved elsewhere as contracts on plain data.
-/
import Derived.Test.YtlkgkjpnphdhdaaDoorNd
import Derived.Test.YtlkgkjpnphdhdaaDoorNe
namespace Go.Proofs.YtlkgkjpnphdhdaaDoor
open Go.RowKit
/-- what lies in the new blocks -/
def newB (n : Nat) (w : World) : Mem := fun a => if n ≤ a.block then w.cell? a else none
theorem RepL.one {F : Mem} {a : AV} {vs : List Value} (h : RepL F [a] vs) : ∃ v, vs = [v] ∧ RepA ρn F a v := by
  obtain ⟨h1, h2⟩ := h
  match vs, h1 with
  | [v], _ => exact ⟨v, rfl, by simpa using h2 0 a rfl⟩
/-- a contract whose result lies in new memory -/
theorem callP_newG {P : Program} {T : Tab} {f : FuncId} {args : List AV} {rt : Ty} {r : rt.T} (hen : Enters P f)
    (h : ∀ (F : Mem) (w : World) (vs : List Value), GlobOk T F → Sub F w.cell? → RepL F args vs → Calls P f vs.toArray w (RetR w fun W u => RepV (newB w.heap.size W) rt u r)) : CallP P T f args rt r := by
  refine ⟨hen, fun F w vs hg hs hr => (h F w vs hg hs hr).mono ?_⟩
  rintro e w' ⟨v, rfl, hv, hb⟩
  refine ⟨v, fun a => if w.heap.size ≤ a.block then w'.cell? a else F a, rfl, hb, ?_, ?_, ?_, hv.mono ?_⟩
  · intro a u hu
    by_cases hk : w.heap.size ≤ a.block
    · simp only [hk, if_true]; exact bsub hb _ _ (hs _ _ hu)
    · simp only [hk, if_false]; exact hu
  · intro a u hu
    by_cases hk : w.heap.size ≤ a.block
    · simp only [hk, if_true] at hu; exact hu
    · simp only [hk, if_false] at hu; exact bsub hb _ _ (hs _ _ hu)
  · intro a u h1 h2
    by_cases hk : w.heap.size ≤ a.block
    · exact hk
    · simp only [hk, if_false] at h1; rw [h1] at h2; simp at h2
  · intro a u hu
    simp only [newB] at hu
    split at hu
    · rename_i hk; simp only [hk, if_true]; exact hu
    · simp at hu
end Go.Proofs.YtlkgkjpnphdhdaaDoor
