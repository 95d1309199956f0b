/-
  Contracts of functions of Go's package slices, at the element types that this seat has.
-/
import Derived.Test.YtohglckebkgbpaaLib
namespace Go.Proofs.Ytohglckebkgbpaa
open Go.RowKit

/-- the first index, or -1 -/
def idxOf (x : Int) : List Int → Nat → Int
  | [], _ => -1
  | y :: l, k => if x == y then (k : Int) else idxOf x l (k + 1)
theorem idxOf_ge (x : Int) : ∀ (l : List Int) (k : Nat), (0 ≤ idxOf x l k) ↔ x ∈ l
  | [], k => by simp [idxOf]
  | y :: l, k => by
    simp only [idxOf, List.mem_cons]
    by_cases h : x = y
    · simp [h]
    · simp [h]; exact idxOf_ge x l (k + 1)
/-- the first element at which the step says yes, and the state behind it -/
def findS {σ α : Type} (step : σ → α → Bool × σ) : List α → σ → Nat → Int × σ
  | [], s, _ => (-1, s)
  | x :: l, s, k => if (step s x).1 then ((k : Int), (step s x).2) else findS step l (step s x).2 (k + 1)
theorem findS_pure {α : Type} (p : α → Bool) : ∀ (l : List α) (k : Nat), decide (0 ≤ (findS (fun (s : Unit) x => (p x, s)) l () k).1) = l.any p
  | [], k => by simp [findS]
  | x :: l, k => by
    simp only [findS, List.any_cons]
    by_cases h : p x = true
    · simp [h]
    · simp only [Bool.not_eq_true] at h; simp only [h, Bool.false_eq_true, if_false, Bool.false_or]; exact findS_pure p l (k + 1)
/-- what IndexFunc at any element type comes to -/
def FindPost {σ : Type} (St : σ → World → Prop) (r : Int × σ) (e : Ending) (w' : World) : Prop := e = .returned (.int .i64 r.1) ∧ St r.2 w'
def FoundPost {σ : Type} (St : σ → World → Prop) (r : Int × σ) (e : Ending) (w' : World) : Prop := e = .returned (.bool (decide (0 ≤ r.1))) ∧ St r.2 w'
/-- what one call of the function value comes to -/
def StepPost {σ : Type} (St : σ → World → Prop) (r : Bool × σ) (e : Ending) (w' : World) : Prop := e = .returned (.bool r.1) ∧ St r.2 w'

theorem slices_Index (w : World) (v : Value) (xs : List Int) (x : Int) (hx : Ints w.cell? v xs) :
    Calls Try.prog 45 #[v, .int .i64 x] w (Ret w (.int .i64 (idxOf x xs 0))) := by
  obtain ⟨a, cap, rfl, h1, h2, h3⟩ := hx
  unfold maxLen at h2
  go_enter Try.func45, Try.ntmps45
  go_wp2
  go_loop [8] (fun k => ∃ m : Nat, m ≤ xs.length ∧ k = .int .i64 m ∧ Hid (idxOf x (xs.drop m) m = idxOf x xs 0)) (fun k => xs.length - (intOf k).toNat)
  case atStart => exact ⟨0, Nat.zero_le _, rfl, rfl⟩
  case round =>
    obtain ⟨m, hm, rfl, hr⟩ := hrel
    by_cases hlt : m < xs.length
    · obtain ⟨b, off, u, rfl, hc, rfl⟩ := h3 m hlt
      have hd : xs.drop m = xs[m] :: xs.drop (m + 1) := by simp
      have hr' : Hid (idxOf x xs 0 = if x == xs[m] then (m : Int) else idxOf x (xs.drop (m + 1)) (m + 1)) := by rw [← hr.out, hd]; rfl
      clear hr hd h3
      go_wp2
      · go_ret
        refine ⟨ret_int ?_, Below.refl _ _⟩
        rw [hr'.out, if_pos (by assumption)]
      · go_round
        case rel => exact ⟨m + 1, by omega, by go_num, by rw [hr'.out, if_neg (by simp_all)]; rfl⟩
        case measure => simp [intOf]; omega
    · go_wp2
      go_ret
      refine ⟨ret_int ?_, Below.refl _ _⟩
      rw [← hr.out, List.drop_of_length_le (by omega)]; rfl

theorem slices_Contains (w : World) (v : Value) (xs : List Int) (x : Int) (hx : Ints w.cell? v xs) :
    Calls Try.prog 31 #[v, .int .i64 x] w (Ret w (.bool (decide (x ∈ xs)))) := by
  go_enter Try.func31, Try.ntmps31
  go_wp2_with (go_at_call 45; refine (slices_Index _ _ _ _ hx).mono ?_; rintro e w' ⟨rfl, hb⟩)
  go_ret
  refine ⟨ret_bool ?_, hb⟩
  have := idxOf_ge x xs 0
  simp [this]

theorem slices_IndexFuncInt {σ α : Type} (R : Mem → Value → α → Prop) (St : σ → World → Prop) (step : σ → α → Bool × σ) (m0 : Mem) (xs : List α) (s0 : σ) (w : World) (v : Value) (g : FuncId) (c1 : Array Value)
    (hx : SlAt R m0 v xs) (hm : ∀ s w1, St s w1 → Sub m0 w1.cell?) (h0 : St s0 w)
    (hent : Enters Try.prog g) (hcall : ∀ s w1 u x, x ∈ xs → St s w1 → R m0 u x → Calls Try.prog g (#[u] ++ c1) w1 (StepPost St (step s x))) :
    Calls Try.prog 47 #[v, .func (.func g) #[] c1] w (FindPost St (findS step xs s0 0)) := by
  obtain ⟨a, cap, rfl, h1, h2, h3⟩ := hx
  unfold maxLen at h2
  have hen := hent.out; clear hent
  have H3 := Lib.hid h3; clear h3
  have HM := Lib.hid hm; clear hm
  have HC := Lib.hid hcall; clear hcall
  go_enter Try.func47, Try.ntmps47
  go_wp2
  go_loopw [8] (fun k wr => ∃ (m : Nat) (s : σ), m ≤ xs.length ∧ k = .int .i64 m ∧ St s wr ∧ Hid (findS step (xs.drop m) s m = findS step xs s0 0)) (fun k _ => xs.length - (intOf k).toNat)
  case atStart => exact ⟨0, s0, Nat.zero_le _, rfl, h0, rfl⟩
  case round =>
    obtain ⟨m, s, hm, rfl, hst, hr⟩ := hrel
    have HS := Lib.hid hst; clear hst
    by_cases hlt : m < xs.length
    · obtain ⟨b, off, u, rfl, hc, hu⟩ := H3.out m hlt
      have hc' : wr.cell? ⟨b, off + m, none⟩ = some u := HM.out _ _ HS.out _ _ hc
      have HU := Lib.hid hu; clear hu
      have hd : xs.drop m = xs[m] :: xs.drop (m + 1) := by simp
      have hr' : Hid (findS step xs s0 0 = if (step s xs[m]).1 then ((m : Int), (step s xs[m]).2) else findS step (xs.drop (m + 1)) (step s xs[m]).2 (m + 1)) := by rw [← hr.out, hd]; rfl
      clear hr hd
      go_wp2_with fail
      refine (HC.out s wr u xs[m] (List.getElem_mem hlt) HS.out HU.out).mono ?_
      rintro e w' ⟨rfl, hst'⟩
      have HS' := Lib.hid hst'; clear hst'
      by_cases hs : (step s xs[m]).1 = true
      · go_wp2
        go_ret
        refine ⟨ret_int ?_, ?_⟩
        · rw [hr'.out, if_pos hs]
        · rw [hr'.out, if_pos hs]; exact HS'.out
      · rw [Bool.not_eq_true] at hs
        go_wp2
        go_roundw
        case rel => exact ⟨m + 1, (step s xs[m]).2, by omega, by go_num, HS'.out, by rw [hr'.out, if_neg (by simp [hs])]; rfl⟩
        case measure => simp [intOf]; omega
    · go_wp2
      go_ret
      have hn : xs.drop m = [] := List.drop_of_length_le (by omega)
      have hf : findS step xs s0 0 = (-1, s) := by rw [← hr.out, hn]; rfl
      exact ⟨ret_int (by rw [hf]), by rw [hf]; exact HS.out⟩

theorem slices_ContainsFuncInt {σ α : Type} (R : Mem → Value → α → Prop) (St : σ → World → Prop) (step : σ → α → Bool × σ) (m0 : Mem) (xs : List α) (s0 : σ) (w : World) (v : Value) (g : FuncId) (c1 : Array Value)
    (hx : SlAt R m0 v xs) (hm : ∀ s w1, St s w1 → Sub m0 w1.cell?) (h0 : St s0 w)
    (hent : Enters Try.prog g) (hcall : ∀ s w1 u x, x ∈ xs → St s w1 → R m0 u x → Calls Try.prog g (#[u] ++ c1) w1 (StepPost St (step s x))) :
    Calls Try.prog 34 #[v, .func (.func g) #[] c1] w (FoundPost St (findS step xs s0 0)) := by
  have HC := Lib.hid (slices_IndexFuncInt R St step m0 xs s0 w v g c1 hx hm h0 hent hcall)
  clear hx hm h0 hcall hent
  go_enter Try.func34, Try.ntmps34
  go_wp2_with fail
  refine HC.out.mono ?_
  rintro e w' ⟨rfl, hst⟩
  have HS := Lib.hid hst; clear hst
  go_wp2
  go_ret
  exact ⟨rfl, HS.out⟩

theorem slices_IndexFuncRow {σ α : Type} (R : Mem → Value → α → Prop) (St : σ → World → Prop) (step : σ → α → Bool × σ) (m0 : Mem) (xs : List α) (s0 : σ) (w : World) (v : Value) (g : FuncId) (c1 : Array Value)
    (hx : SlAt R m0 v xs) (hm : ∀ s w1, St s w1 → Sub m0 w1.cell?) (h0 : St s0 w)
    (hent : Enters Try.prog g) (hcall : ∀ s w1 u x, x ∈ xs → St s w1 → R m0 u x → Calls Try.prog g (#[u] ++ c1) w1 (StepPost St (step s x))) :
    Calls Try.prog 53 #[v, .func (.func g) #[] c1] w (FindPost St (findS step xs s0 0)) := by
  obtain ⟨a, cap, rfl, h1, h2, h3⟩ := hx
  unfold maxLen at h2
  have hen := hent.out; clear hent
  have H3 := Lib.hid h3; clear h3
  have HM := Lib.hid hm; clear hm
  have HC := Lib.hid hcall; clear hcall
  go_enter Try.func53, Try.ntmps53
  go_wp2
  go_loopw [8] (fun k wr => ∃ (m : Nat) (s : σ), m ≤ xs.length ∧ k = .int .i64 m ∧ St s wr ∧ Hid (findS step (xs.drop m) s m = findS step xs s0 0)) (fun k _ => xs.length - (intOf k).toNat)
  case atStart => exact ⟨0, s0, Nat.zero_le _, rfl, h0, rfl⟩
  case round =>
    obtain ⟨m, s, hm, rfl, hst, hr⟩ := hrel
    have HS := Lib.hid hst; clear hst
    by_cases hlt : m < xs.length
    · obtain ⟨b, off, u, rfl, hc, hu⟩ := H3.out m hlt
      have hc' : wr.cell? ⟨b, off + m, none⟩ = some u := HM.out _ _ HS.out _ _ hc
      have HU := Lib.hid hu; clear hu
      have hd : xs.drop m = xs[m] :: xs.drop (m + 1) := by simp
      have hr' : Hid (findS step xs s0 0 = if (step s xs[m]).1 then ((m : Int), (step s xs[m]).2) else findS step (xs.drop (m + 1)) (step s xs[m]).2 (m + 1)) := by rw [← hr.out, hd]; rfl
      clear hr hd
      go_wp2_with fail
      refine (HC.out s wr u xs[m] (List.getElem_mem hlt) HS.out HU.out).mono ?_
      rintro e w' ⟨rfl, hst'⟩
      have HS' := Lib.hid hst'; clear hst'
      by_cases hs : (step s xs[m]).1 = true
      · go_wp2
        go_ret
        refine ⟨ret_int ?_, ?_⟩
        · rw [hr'.out, if_pos hs]
        · rw [hr'.out, if_pos hs]; exact HS'.out
      · rw [Bool.not_eq_true] at hs
        go_wp2
        go_roundw
        case rel => exact ⟨m + 1, (step s xs[m]).2, by omega, by go_num, HS'.out, by rw [hr'.out, if_neg (by simp [hs])]; rfl⟩
        case measure => simp [intOf]; omega
    · go_wp2
      go_ret
      have hn : xs.drop m = [] := List.drop_of_length_le (by omega)
      have hf : findS step xs s0 0 = (-1, s) := by rw [← hr.out, hn]; rfl
      exact ⟨ret_int (by rw [hf]), by rw [hf]; exact HS.out⟩

theorem slices_ContainsFuncRow {σ α : Type} (R : Mem → Value → α → Prop) (St : σ → World → Prop) (step : σ → α → Bool × σ) (m0 : Mem) (xs : List α) (s0 : σ) (w : World) (v : Value) (g : FuncId) (c1 : Array Value)
    (hx : SlAt R m0 v xs) (hm : ∀ s w1, St s w1 → Sub m0 w1.cell?) (h0 : St s0 w)
    (hent : Enters Try.prog g) (hcall : ∀ s w1 u x, x ∈ xs → St s w1 → R m0 u x → Calls Try.prog g (#[u] ++ c1) w1 (StepPost St (step s x))) :
    Calls Try.prog 43 #[v, .func (.func g) #[] c1] w (FoundPost St (findS step xs s0 0)) := by
  have HC := Lib.hid (slices_IndexFuncRow R St step m0 xs s0 w v g c1 hx hm h0 hent hcall)
  clear hx hm h0 hcall hent
  go_enter Try.func43, Try.ntmps43
  go_wp2_with fail
  refine HC.out.mono ?_
  rintro e w' ⟨rfl, hst⟩
  have HS := Lib.hid hst; clear hst
  go_wp2
  go_ret
  exact ⟨rfl, HS.out⟩

end Go.Proofs.Ytohglckebkgbpaa
