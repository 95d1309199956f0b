/-
  Bool tests as propositions.
-/
import Derived.Test.YtohglckebkgbpaaNd
namespace Go.Proofs.Ytohglckebkgbpaa
theorem bnot_t {a : Bool} (h : (!a) = true) : a = false := by cases a <;> simp_all
theorem bnot_f {a : Bool} (h : (!a) = false) : a = true := by cases a <;> simp_all
theorem bnot_t2 {a : Bool} (h : a = false) : (!a) = true := by cases a <;> simp_all
theorem bnot_f2 {a : Bool} (h : a = true) : (!a) = false := by cases a <;> simp_all
theorem selB_at {a b : Bool} (h : selB a b false = true) : a = true ∧ b = true := by cases a <;> simp_all [selB]
theorem selB_af {a b : Bool} (h : selB a b false = false) : a = false ∨ b = false := by cases a <;> simp_all [selB]
theorem selB_ot {a b : Bool} (h : selB a true b = true) : a = true ∨ b = true := by cases a <;> simp_all [selB]
theorem selB_of {a b : Bool} (h : selB a true b = false) : a = false ∧ b = false := by cases a <;> simp_all [selB]
theorem and_at {a b : Bool} (h : (a && b) = true) : a = true ∧ b = true := by cases a <;> simp_all
theorem and_af {a b : Bool} (h : (a && b) = false) : a = false ∨ b = false := by cases a <;> simp_all
theorem or_ot {a b : Bool} (h : (a || b) = true) : a = true ∨ b = true := by cases a <;> simp_all
theorem or_of {a b : Bool} (h : (a || b) = false) : a = false ∧ b = false := by cases a <;> simp_all
theorem and_at2 {a b : Bool} (h1 : a = true) (h2 : b = true) : (a && b) = true := by rw [h1, h2]; rfl
theorem selB_at2 {a b : Bool} (h1 : a = true) (h2 : b = true) : selB a b false = true := by rw [h1, h2]; rfl
theorem selB_of2 {a b : Bool} (h1 : a = false) (h2 : b = false) : selB a true b = false := by rw [h1, h2]; rfl
end Go.Proofs.Ytohglckebkgbpaa
