/-
  Lassos: periods, the normal one, equal words.
-/
import Derived.Test.YtblibehfjjgdeaaNd
import Derived.Test.YtblibehfjjgdeaaConcat
import Derived.Test.YtblibehfjjgdeaaTab
import Derived.Test.YtblibehfjjgdeaaVcs
namespace Go.Proofs.Ytblibehfjjgdeaa
namespace Word

/-- the letter of a lasso at a position -/
def wat (s l : List Int) (i : Nat) : Int := if i < s.length then s.getD i 0 else l.getD ((i - s.length) % l.length) 0
/-- the infinite repetition of a list -/
def rep (l : List Int) (i : Nat) : Int := l.getD (i % l.length) 0
def Per (f : Nat → Int) (p : Nat) : Prop := ∀ i, f (i + p) = f i
theorem Per.mul {f : Nat → Int} {p : Nat} (h : Per f p) : ∀ k, Per f (p * k)
  | 0 => fun i => by simp
  | k + 1 => fun i => by rw [Nat.mul_succ, ← Nat.add_assoc, h (i + p * k), h.mul k i]
theorem Per.mod {f : Nat → Int} {p : Nat} (h : Per f p) (i : Nat) : f i = f (i % p) := by
  have := h.mul (i / p) (i % p)
  rw [Nat.mod_add_div] at this
  exact this
theorem Per.gcd {f : Nat → Int} (p q : Nat) : Per f p → Per f q → Per f (Nat.gcd p q) := by
  induction p, q using Nat.gcd.induction with
  | H0 n => intro _ h; simpa using h
  | H1 m n hm ih =>
    intro h1 h2
    rw [Nat.gcd_rec]
    refine ih (fun i => ?_) h1
    have := h1.mul (n / m) (i + n % m)
    rw [Nat.add_assoc, Nat.mod_add_div] at this
    rw [← this, h2 i]
theorem rep_per {l : List Int} : Per (rep l) l.length := fun i => by simp [rep]
theorem rep_lt {l : List Int} {i : Nat} (h : i < l.length) : rep l i = l.getD i 0 := by simp [rep, Nat.mod_eq_of_lt h]
/-- a list is a repetition of its first n elements -/
def Rep (l : List Int) (n : Nat) : Prop := l.length % n = 0 ∧ ∀ i, n ≤ i → i < l.length → l.getD i 0 = l.getD (i - n) 0
theorem rep_of_Rep {l : List Int} {n : Nat} (hn : 0 < n) (h : Rep l n) : Per (rep l) n := by
  have key : ∀ i, i < l.length → l.getD i 0 = l.getD (i % n) 0 := by
    intro i
    induction i using Nat.strongRecOn with
    | _ i ih =>
      intro hi
      rcases Nat.lt_or_ge i n with h1 | h1
      · rw [Nat.mod_eq_of_lt h1]
      · rw [h.2 i h1 hi, ih (i - n) (by omega) (by omega), ← Nat.mod_eq_sub_mod h1]
  intro i
  rcases Nat.eq_zero_or_pos l.length with h0 | h0
  · have : l = [] := List.eq_nil_of_length_eq_zero h0
    subst this
    rfl
  · have hd : n ∣ l.length := Nat.dvd_of_mod_eq_zero h.1
    unfold rep
    rw [key _ (Nat.mod_lt _ h0), key _ (Nat.mod_lt (i) h0), Nat.mod_mod_of_dvd _ hd, Nat.mod_mod_of_dvd _ hd, Nat.add_mod_right]
theorem Rep_of_rep {l : List Int} {n : Nat} (hd : l.length % n = 0) (h : Per (rep l) n) : Rep l n := by
  refine ⟨hd, fun i h1 h2 => ?_⟩
  have := h (i - n)
  rw [Nat.sub_add_cancel h1, rep_lt h2, rep_lt (by omega)] at this
  exact this
/-- no repetition of a shorter list -/
def Prim (l : List Int) : Prop := ∀ n, 0 < n → n < l.length → ¬ Rep l n
/-- the normal lasso -/
structure Nf (s l : List Int) : Prop where
  loop : l ≠ []
  prim : Prim l
  last : s = [] ∨ s.getD (s.length - 1) 0 ≠ l.getD (l.length - 1) 0
theorem Prim.eq {l m : List Int} (hl : l ≠ []) (hm : m ≠ []) (pl : Prim l) (pm : Prim m) (h : ∀ i, rep l i = rep m i) : l = m := by
  have l0 := List.length_pos_iff.2 hl
  have m0 := List.length_pos_iff.2 hm
  have hf : rep l = rep m := funext h
  have d1 : Per (rep l) (Nat.gcd l.length m.length) := Per.gcd _ _ rep_per (by rw [hf]; exact rep_per)
  have g0 : 0 < Nat.gcd l.length m.length := Nat.gcd_pos_of_pos_left _ l0
  have e1 : Nat.gcd l.length m.length = l.length := by
    have hle := Nat.le_of_dvd l0 (Nat.gcd_dvd_left l.length m.length)
    rcases Nat.lt_or_ge (Nat.gcd l.length m.length) l.length with h1 | h1
    · exact absurd (Rep_of_rep (Nat.mod_eq_zero_of_dvd (Nat.gcd_dvd_left _ _)) d1) (pl _ g0 h1)
    · omega
  have e2 : Nat.gcd l.length m.length = m.length := by
    have hle := Nat.le_of_dvd m0 (Nat.gcd_dvd_right l.length m.length)
    rcases Nat.lt_or_ge (Nat.gcd l.length m.length) m.length with h1 | h1
    · exact absurd (Rep_of_rep (Nat.mod_eq_zero_of_dvd (Nat.gcd_dvd_right _ _)) (by rw [← hf]; exact d1)) (pm _ g0 h1)
    · omega
  have e3 : l.length = m.length := e1.symm.trans e2
  apply List.ext_getElem e3
  intro i h1 h2
  have := h i
  rw [rep_lt h1, rep_lt h2] at this
  simpa [List.getD_eq_getElem?_getD, h1, h2] using this
theorem wat_stem {s l : List Int} {i : Nat} (h : i < s.length) : wat s l i = s.getD i 0 := by simp [wat, h]
theorem wat_loop {s l : List Int} (i : Nat) : wat s l (s.length + i) = rep l i := by
  unfold wat rep
  rw [if_neg (by omega), Nat.add_sub_cancel_left]
/-- the normal lasso of a word is one -/
theorem Nf.eq {s l t m : List Int} (a : Nf s l) (b : Nf t m) (h : ∀ i, wat s l i = wat t m i) : s = t ∧ l = m := by
  have half : ∀ {s l t m : List Int}, Nf s l → Nf t m → (∀ i, wat s l i = wat t m i) → ¬ s.length < t.length := by
    intro s l t m a b h hlt
    have l0 := List.length_pos_iff.2 a.loop
    have m0 := List.length_pos_iff.2 b.loop
    rcases b.last with hb | hb
    · rw [hb] at hlt; simp at hlt
    · apply hb
      obtain ⟨k, hk⟩ : ∃ k, t.length = s.length + k + 1 := ⟨t.length - s.length - 1, by omega⟩
      have h1 := h (s.length + k)
      rw [wat_loop, wat_stem (by omega)] at h1
      have hp : 0 < l.length * m.length := Nat.mul_pos l0 m0
      have h2 := h (s.length + (k + l.length * m.length))
      rw [wat_loop, rep_per.mul m.length] at h2
      have e2 : s.length + (k + l.length * m.length) = t.length + (l.length * m.length - 1) := by omega
      have e3 : l.length * m.length - 1 = (m.length - 1) + m.length * (l.length - 1) := by
        rw [Nat.mul_sub, Nat.mul_one, Nat.mul_comm l.length]
        have : m.length ≤ m.length * l.length := Nat.le_mul_of_pos_right _ l0
        omega
      rw [e2, wat_loop, e3, rep_per.mul (l.length - 1), rep_lt (l := m) (i := m.length - 1) (by omega)] at h2
      have e4 : t.length - 1 = s.length + k := by omega
      rw [e4, ← h1, h2]
  have e0 : s.length = t.length := by
    have h1 := half a b h
    have h2 := half b a fun i => (h i).symm
    omega
  refine ⟨?_, a.prim.eq a.loop b.loop b.prim fun i => ?_⟩
  · apply List.ext_getElem e0
    intro i h1 h2
    have := h i
    rw [wat_stem h1, wat_stem h2] at this
    simpa [List.getD_eq_getElem?_getD, h1, h2] using this
  · have := h (s.length + i)
    rw [wat_loop, e0, wat_loop] at this
    exact this
/-- words that agree for long enough are the same -/
theorem agree_all {s l t m : List Int} (hl : l ≠ []) (hm : m ≠ []) {N : Nat} (hN : s.length + l.length + m.length ≤ N) (hN' : t.length + l.length + m.length ≤ N) (h : ∀ i, i < N → wat s l i = wat t m i) : ∀ i, wat s l i = wat t m i := by
  have l0 := List.length_pos_iff.2 hl
  have m0 := List.length_pos_iff.2 hm
  obtain ⟨k, k1, k2, k3⟩ : ∃ k, s.length ≤ k ∧ t.length ≤ k ∧ k + l.length + m.length ≤ N := ⟨max s.length t.length, by omega, by omega, by omega⟩
  have ps : Per (fun i => wat s l (k + i)) l.length := fun i => by
    have e1 : k + (i + l.length) = s.length + ((k - s.length + i) + l.length) := by omega
    have e2 : k + i = s.length + (k - s.length + i) := by omega
    show wat s l (k + (i + l.length)) = wat s l (k + i)
    rw [e1, e2, wat_loop, wat_loop, rep_per]
  have pt : Per (fun i => wat t m (k + i)) m.length := fun i => by
    have e1 : k + (i + m.length) = t.length + ((k - t.length + i) + m.length) := by omega
    have e2 : k + i = t.length + (k - t.length + i) := by omega
    show wat t m (k + (i + m.length)) = wat t m (k + i)
    rw [e1, e2, wat_loop, wat_loop, rep_per]
  have pq : Per (fun i => wat s l (k + i)) m.length := by
    intro i
    have h1 := ps.mod (i + m.length)
    show wat s l (k + (i + m.length)) = wat s l (k + i)
    have h2 : (i + m.length) % l.length = (i % l.length + m.length) % l.length := by rw [Nat.mod_add_mod]
    have h3 := ps.mod (i % l.length + m.length)
    have h4 := ps.mod i
    rw [h1, h2, ← h3, h4]
    have hlt := Nat.mod_lt i l0
    rw [h (k + (i % l.length + m.length)) (by omega), h (k + i % l.length) (by omega)]
    exact pt (i % l.length)
  intro i
  rcases Nat.lt_or_ge i k with h1 | h1
  · exact h i (by omega)
  · have e : i = k + (i - k) := by omega
    rw [e]
    have h2 := pq.mod (i - k)
    have h3 := pt.mod (i - k)
    rw [h2, h3]
    have := Nat.mod_lt (i - k) m0
    exact h _ (by omega)
end Word
end Go.Proofs.Ytblibehfjjgdeaa
/-
  From the contracts of the walks to contracts on plain data: Clone, Concat.
-/
namespace Go.Proofs.Ytblibehfjjgdeaa
open Go.RowKit

abbrev intT : Ty := .int .i64
abbrev intsT : Ty := .sl intT
abbrev rowsT : Ty := .sl intsT
abbrev boolsT : Ty := .sl .bool
theorem RepL.cons {F : Mem} {a : AV} {l : List AV} {vs : List Value} (h : RepL F (a :: l) vs) : ∃ v vs', vs = v :: vs' ∧ RepA ρn F a v ∧ RepL F l vs' := by
  obtain ⟨h1, h2⟩ := h
  cases vs with
  | nil => simp at h1
  | cons v vs' => exact ⟨v, vs', rfl, by simpa using h2 0 a rfl, by simpa using h1, fun j b hj => by simpa using h2 (j + 1) b (by simpa using hj)⟩
theorem RepL.nil {F : Mem} {vs : List Value} (h : RepL F [] vs) : vs = [] := List.eq_nil_of_length_eq_zero (by simpa using h.1)
theorem int_of {F : Mem} {k : IntKind} {v : Value} {n : Int} (h : RepV F (.int k) v n) : v = .int k n := by
  have := h.1; simpa using this
theorem bool_of {F : Mem} {v : Value} {n : Bool} (h : RepV F .bool v n) : v = .bool n := by
  have : [v] = [Value.bool n] := h
  simpa using this
theorem slAt_of {α : Type} {R : Mem → Value → α → Prop} {F : Mem} {t : Ty} (ht : t.sz = 1) (f : t.T → α) (hR : ∀ {us : List Value} {x : t.T}, RepC F t us x → ∃ u, us = [u] ∧ R F u (f x)) {v : Value} {xs : List t.T} (h : RepV F (.sl t) v xs) : SlAt R F v (xs.map f) := by
  obtain ⟨ad, cap, e, h1, h2, h3⟩ := h
  simp only [List.cons.injEq, and_true] at e
  refine ⟨ad, cap, by rw [e]; simp, by simpa using h1, h2, fun j hj => ?_⟩
  obtain ⟨b, off, us, e1, e2, e3⟩ := h3 j (by simpa using hj)
  obtain ⟨u, rfl, hu⟩ := hR e3
  refine ⟨b, off, u, e1, ?_, by simpa using hu⟩
  have := e2 0 u rfl
  rw [ht] at this
  simpa using this
theorem ints_of {F : Mem} {v : Value} {xs : List Int} (h : RepV F intsT v xs) : Ints F v xs := by
  have := slAt_of (R := IntR) (t := intT) rfl id (fun {us x} k => ⟨_, k.1, rfl⟩) h
  simpa using this
theorem bools_of {F : Mem} {v : Value} {xs : List Bool} (h : RepV F boolsT v xs) : Bools F v xs := by
  have := slAt_of (R := BoolR) (t := .bool) rfl id (fun {us x} k => ⟨_, k, rfl⟩) h
  simpa using this
theorem rows_of {F : Mem} {v : Value} {xs : List (List Int)} (h : RepV F rowsT v xs) : Rows2 F v xs := by
  have := slAt_of (R := Ints) (t := intsT) rfl id (fun {us x} k => by
    obtain ⟨ad, cap, e, r⟩ := k
    exact ⟨_, e, ints_of ⟨ad, cap, rfl, r⟩⟩) h
  simpa using this
theorem of_ints {F : Mem} {v : Value} {xs : List Int} (h : Ints F v xs) (hin : ∀ x ∈ xs, inK .i64 x) : RepC F intsT [v] xs := by
  obtain ⟨a, cap, rfl, h1, h2, h3⟩ := h
  refine ⟨a, cap, rfl, h1, h2, fun i hi => ?_⟩
  obtain ⟨b, off, u, e1, e2, e3⟩ := h3 i hi
  refine ⟨b, off, [u], e1, fun j x hj => ?_, ?_⟩
  · cases j with
    | zero => simp at hj; subst hj; simpa [Ty.sz] using e2
    | succ j => simp at hj
  · have : u = .int .i64 xs[i] := e3
    exact ⟨by rw [this]; rfl, hin _ (List.getElem_mem hi)⟩
/-- a contract that hands on no address -/
theorem callP_ret {P : Program} {T : Tab} {f : FuncId} {args : List AV} {rt : Ty} {r : rt.T} {v : Value} (hen : Enters P f) (hv : ∀ F, RepV F rt v r)
    (h : ∀ (F : Mem) (w : World) (vs : List Value), Sub F w.cell? → RepL F args vs → Calls P f vs.toArray w (Ret w v)) : CallP P T f args rt r := by
  refine ⟨hen, fun F w vs _ hs hr => (h F w vs hs hr).mono ?_⟩
  rintro e w' ⟨rfl, hb⟩
  exact ⟨v, F, rfl, hb, Sub.refl _, hs.trans (bsub hb), fun a u h1 h2 => (by rw [h1] at h2; simp at h2), hv F⟩
/-- a contract whose result lies in new memory -/
theorem callP_new {P : Program} {T : Tab} {f : FuncId} {args : List AV} {rt : Ty} {r : rt.T} (hen : Enters P f)
    (h : ∀ (F : Mem) (w : World) (vs : List Value), Sub F w.cell? → RepL F args vs → Calls P f vs.toArray w (RetR w fun W u => RepV (newM w.heap.size W) rt u r)) : CallP P T f args rt r := by
  refine ⟨hen, fun F w vs _ hs hr => (h F w vs hs hr).mono ?_⟩
  rintro e w' ⟨v, rfl, hv, hb⟩
  refine ⟨v, fun a => if w.heap.size ≤ a.block then w'.cell? a else F a, rfl, hb, ?_, ?_, ?_, hv.mono ?_⟩
  · intro a u hu
    by_cases hk : w.heap.size ≤ a.block
    · simp only [hk, if_true]; exact bsub hb _ _ (hs _ _ hu)
    · simp only [hk, if_false]; exact hu
  · intro a u hu
    by_cases hk : w.heap.size ≤ a.block
    · simp only [hk, if_true] at hu; exact hu
    · simp only [hk, if_false] at hu; exact bsub hb _ _ (hs _ _ hu)
  · intro a u h1 h2
    by_cases hk : w.heap.size ≤ a.block
    · exact hk
    · simp only [hk, if_false] at h1; rw [h1] at h2; simp at h2
  · intro a u hu
    simp only [newM] at hu
    split at hu
    · rename_i hk; simp only [hk, if_true]; exact hu
    · simp at hu
theorem cp_Clone (xs : List Int) (hb : xs.length * 8 ≤ 140737488355328) (hin : ∀ x ∈ xs, inK .i64 x) : CallP Try.prog tT 52 [.d intsT xs] intsT xs := by
  refine callP_new ⟨fun _ _ => by kernel_rfl⟩ fun F w vs hs hr => ?_
  obtain ⟨v, vs', rfl, h1, h2⟩ := hr.cons
  have := h2.nil
  subst this
  refine (slices_Clone w v xs ((ints_of h1).mono hs) hb).mono ?_
  rintro e w' ⟨u, rfl, hu, hbl⟩
  exact ⟨u, rfl, of_ints (own_intsN hu (Nat.le_refl _)) hin, hbl⟩
theorem cp_Concat (l : List (List Int)) (hb : sumLen l * 8 ≤ 140737488355328) (hin : ∀ x ∈ l.flatten, inK .i64 x) : CallP Try.prog tT 43 [.d rowsT l] intsT l.flatten := by
  refine callP_new ⟨fun _ _ => by kernel_rfl⟩ fun F w vs hs hr => ?_
  obtain ⟨v, vs', rfl, h1, h2⟩ := hr.cons
  have := h2.nil
  subst this
  refine (slices_Concat w v l ((rows_of h1).mono hs) hb).mono ?_
  rintro e w' ⟨u, rfl, hu, hbl⟩
  exact ⟨u, rfl, of_ints (own_intsN hu (Nat.le_refl _)) hin, hbl⟩
end Go.Proofs.Ytblibehfjjgdeaa
/-
  Lassos: letters, the form, equal lists.
-/
namespace Go.Proofs.Ytblibehfjjgdeaa
open Go.RowKit

abbrev lassoT : Ty := .st (.pair intsT (.pair intsT .unit))
theorem inK64 {n : Int} (h1 : -9223372036854775808 ≤ n) (h2 : n ≤ 9223372036854775807) : inK .i64 n := ⟨h1, h2⟩
def letterD (n : Int) : Bool := decide (0 ≤ n) && decide (n < 64)
theorem cp_letter (n : Int) : CallP Try.prog tT 46 [.d intT n] .bool (letterD n) := by
  refine of46 n _ fun R hR _ => ⟨fun h => h, fun h => h, (hR _).2 ?_⟩
  unfold letterD selB
  cases decide (0 ≤ n) <;> rfl
theorem cp_Letter (n : Int) : CallP Try.prog tT 48 [.d intT n] .bool (letterD n) := by
  refine of48 n _ fun R hR _ => ⟨fun h => h, fun h => h, (hR _).2 ?_⟩
  unfold letterD selB
  cases decide (0 ≤ n) <;> rfl
theorem cp_bad1 (n : Int) : CallP Try.prog tT 45 [.d intT n] .bool (!letterD n) :=
  of45 n _ fun R hR _ => ⟨letterD n, cp_letter n, (hR _).2 rfl⟩
theorem cp_bad2 (n : Int) : CallP Try.prog tT 50 [.d intT n] .bool (!letterD n) :=
  of50 n _ fun R hR _ => ⟨letterD n, cp_letter n, (hR _).2 rfl⟩
/-- the first number that is no letter, or -1 -/
def badIdx (s : List Int) : Int := match s.findIdx? (fun n => !letterD n) with | some j => (j : Int) | none => -1
theorem badIdx_none {s : List Int} (h : ∀ j : Nat, j < s.length → letterD (s.getD j 0) = true) : badIdx s = -1 := by
  unfold badIdx
  have : s.findIdx? (fun n => !letterD n) = none := by
    rw [List.findIdx?_eq_none_iff]
    intro x hx
    obtain ⟨j, hj, rfl⟩ := List.mem_iff_getElem.1 hx
    have := h j hj
    simp only [List.getD_eq_getElem?_getD, List.getElem?_eq_getElem hj, Option.getD_some] at this
    simp [this]
  rw [this]
theorem badIdx_some {s : List Int} {i : Nat} (hi : i < s.length) (h0 : ∀ j : Nat, j < i → letterD (s.getD j 0) = true) (h : letterD (s.getD i 0) = false) : badIdx s = i := by
  unfold badIdx
  have : s.findIdx? (fun n => !letterD n) = some i := by
    rw [List.findIdx?_eq_some_iff_getElem]
    refine ⟨hi, ?_, fun j hj => ?_⟩
    · simp only [List.getD_eq_getElem?_getD, List.getElem?_eq_getElem hi, Option.getD_some] at h
      simp [h]
    · have := h0 j hj
      simp only [List.getD_eq_getElem?_getD, List.getElem?_eq_getElem (Nat.lt_trans hj hi), Option.getD_some] at this
      simp [this]
  rw [this]
theorem badIdx_all (s : List Int) : decide (0 ≤ badIdx s) = !s.all letterD := by
  cases h : s.all letterD with
  | true =>
    rw [badIdx_none fun j hj => ?_]
    · rfl
    · rw [List.all_eq_true] at h
      simp only [List.getD_eq_getElem?_getD, List.getElem?_eq_getElem hj, Option.getD_some]
      exact h _ (List.getElem_mem hj)
  | false =>
    unfold badIdx
    cases hf : s.findIdx? (fun n => !letterD n) with
    | some j => simp
    | none =>
      exfalso
      rw [List.findIdx?_eq_none_iff] at hf
      rw [← Bool.not_eq_true, List.all_eq_true] at h
      exact h fun x hx => by simpa using hf x hx
theorem cp_IndexFunc1 (s : List Int) : CallP Try.prog tT 56 [.d intsT s, .fn 45 []] intT (badIdx s) := by
  refine of56a s _ fun R hR wf => ⟨fun x => ∃ i : Nat, x.1 = i ∧ i ≤ s.length ∧ ∀ j : Nat, j < i → letterD (s.getD j 0) = true, fun x => s.length - x.1.toNat, ⟨0, rfl, Nat.zero_le _, fun j hj => by omega⟩, ?_⟩
  have hlen : s.length ≤ maxLen := wf.1
  simp only [maxLen] at hlen
  rintro ⟨iz, u⟩ _ ⟨i, e, hi, hall⟩
  simp only at e
  subst e
  simp only [Int.toNat_natCast]
  refine ⟨fun hlt => ?_, fun hlt => ?_⟩
  · have hlt : (i : Int) < s.length := of_decide_eq_true hlt
    refine ⟨⟨by omega, hlt⟩, !letterD (s.getD i 0), cp_bad1 _, fun hb => ?_, fun hb => ?_⟩
    · exact (hR _).2 (badIdx_some (by omega) hall (by simpa using hb)).symm
    · have hb : letterD (s.getD i 0) = true := by simpa using hb
      refine ⟨inK64 (by omega) (by omega), ⟨i + 1, by simp, by omega, fun j hj => ?_⟩, by omega⟩
      rcases Nat.lt_or_ge j i with h1 | h1
      · exact hall j h1
      · have : j = i := by omega
        rw [this]; exact hb
  · have hlt : ¬ (i : Int) < s.length := of_decide_eq_false hlt
    exact (hR _).2 (badIdx_none fun j hj => hall j (by omega)).symm
theorem cp_IndexFunc2 (s : List Int) : CallP Try.prog tT 56 [.d intsT s, .fn 50 []] intT (badIdx s) := by
  refine of56b s _ fun R hR wf => ⟨fun x => ∃ i : Nat, x.1 = i ∧ i ≤ s.length ∧ ∀ j : Nat, j < i → letterD (s.getD j 0) = true, fun x => s.length - x.1.toNat, ⟨0, rfl, Nat.zero_le _, fun j hj => by omega⟩, ?_⟩
  have hlen : s.length ≤ maxLen := wf.1
  simp only [maxLen] at hlen
  rintro ⟨iz, u⟩ _ ⟨i, e, hi, hall⟩
  simp only at e
  subst e
  simp only [Int.toNat_natCast]
  refine ⟨fun hlt => ?_, fun hlt => ?_⟩
  · have hlt : (i : Int) < s.length := of_decide_eq_true hlt
    refine ⟨⟨by omega, hlt⟩, !letterD (s.getD i 0), cp_bad2 _, fun hb => ?_, fun hb => ?_⟩
    · exact (hR _).2 (badIdx_some (by omega) hall (by simpa using hb)).symm
    · have hb : letterD (s.getD i 0) = true := by simpa using hb
      refine ⟨inK64 (by omega) (by omega), ⟨i + 1, by simp, by omega, fun j hj => ?_⟩, by omega⟩
      rcases Nat.lt_or_ge j i with h1 | h1
      · exact hall j h1
      · have : j = i := by omega
        rw [this]; exact hb
  · have hlt : ¬ (i : Int) < s.length := of_decide_eq_false hlt
    exact (hR _).2 (badIdx_none fun j hj => hall j (by omega)).symm
theorem cp_Contains1 (s : List Int) : CallP Try.prog tT 44 [.d intsT s, .fn 45 []] .bool (!s.all letterD) :=
  of44a s _ fun R hR _ => ⟨badIdx s, cp_IndexFunc1 s, (hR _).2 (badIdx_all s)⟩
theorem cp_Contains2 (s : List Int) : CallP Try.prog tT 44 [.d intsT s, .fn 50 []] .bool (!s.all letterD) :=
  of44b s _ fun R hR _ => ⟨badIdx s, cp_IndexFunc2 s, (hR _).2 (badIdx_all s)⟩
/-- the form of a lasso -/
def formedD (w : lassoT.T) : Bool := decide (w.1.length ≤ 60) && decide (0 < w.2.1.length) && decide (w.2.1.length ≤ 40) && w.1.all letterD && w.2.1.all letterD
theorem cp_formed (w : lassoT.T) : CallP Try.prog tT 34 [.d lassoT w] .bool (formedD w) := by
  refine of34 w _ fun R hR wf => ?_
  refine ⟨fun h => h, fun h => h, fun h => h, fun h => by rw [h]; rfl, fun h => h, fun h => h, fun h => h, fun h => by rw [h]; rfl, fun h => ?_, fun h => ?_⟩
  · refine (hR _).2 ?_
    unfold formedD
    by_cases h1 : w.1.length ≤ 60
    · by_cases h2 : 0 < w.2.1.length
      · by_cases h3 : w.2.1.length ≤ 40
        · exfalso
          have e1 : decide ((60 : Int) < ((w.1.length : Nat) : Int)) = false := decide_eq_false (by omega)
          have e2 : decide (((w.2.1.length : Nat) : Int) = 0) = false := decide_eq_false (by omega)
          have e3 : decide ((40 : Int) < ((w.2.1.length : Nat) : Int)) = false := decide_eq_false (by omega)
          rw [e1, e2, e3] at h
          simp [selB] at h
        · simp [h3]
      · simp [h2]
    · simp [h1]
  · refine ⟨!w.1.all letterD, cp_Contains2 _, fun h => h, !w.2.1.all letterD, fun h => ⟨⟨h, h⟩, cp_Contains2 _⟩, fun h => h, fun h => h, (hR _).2 ?_⟩
    unfold formedD
    have e1 : w.1.length ≤ 60 := by
      rcases Nat.lt_or_ge 60 w.1.length with h1 | h1
      · have e : decide ((60 : Int) < ((w.1.length : Nat) : Int)) = true := decide_eq_true (by omega)
        rw [e] at h
        simp [selB] at h
      · exact h1
    have d1 : decide ((60 : Int) < ((w.1.length : Nat) : Int)) = false := decide_eq_false (by omega)
    rw [d1] at h
    simp only [selB, cond_false] at h
    have e2 : 0 < w.2.1.length := by
      rcases Nat.eq_zero_or_pos w.2.1.length with h1 | h1
      · have e : decide (((w.2.1.length : Nat) : Int) = 0) = true := decide_eq_true (by omega)
        rw [e] at h
        simp at h
      · exact h1
    have d2 : decide (((w.2.1.length : Nat) : Int) = 0) = false := decide_eq_false (by omega)
    rw [d2] at h
    simp only [cond_false] at h
    have e3 : w.2.1.length ≤ 40 := by have := of_decide_eq_false h; omega
    simp only [e1, e2, e3, decide_true, Bool.true_and, selB]
    cases w.1.all letterD <;> cases w.2.1.all letterD <;> rfl
end Go.Proofs.Ytblibehfjjgdeaa
/-
  Lassos: the reference's form, equal lists, letters at positions.
-/
namespace Go.Proofs.Ytblibehfjjgdeaa
open Go.RowKit

theorem getD_at' {s : List Int} {i : Nat} (h : i < s.length) : s.getD i 0 = s[i] := by simp [List.getD_eq_getElem?_getD, h]
theorem all_at {s : List Int} {p : Int → Bool} (h : ∀ j : Nat, j < s.length → p (s.getD j 0) = true) : s.all p = true := by
  rw [List.all_eq_true]
  intro x hx
  obtain ⟨j, hj, rfl⟩ := List.mem_iff_getElem.1 hx
  rw [← getD_at' hj]
  exact h j hj
theorem not_all_at {s : List Int} {p : Int → Bool} {j : Nat} (hj : j < s.length) (h : p (s.getD j 0) = false) : s.all p = false := by
  rw [← Bool.not_eq_true, List.all_eq_true]
  intro hc
  have := hc s[j] (List.getElem_mem hj)
  rw [← getD_at' hj, h] at this
  simp at this
theorem cp_Formed (w : lassoT.T) : CallP Try.prog tT 30 [.d lassoT w] .bool (formedD w) := by
  refine of30 w _ fun R hR wf => ?_
  have hl1 : w.1.length ≤ maxLen := wf.1.1
  have hl2 : w.2.1.length ≤ maxLen := wf.2.1.1
  simp only [maxLen] at hl1 hl2
  refine ⟨fun h => h, fun h => h, fun h => h, fun h => by rw [h]; rfl, fun h => h, fun h => h, fun h => h, fun h => by rw [h]; rfl, fun h => ?_, fun h => ?_⟩
  · refine (hR _).2 ?_
    unfold formedD
    by_cases h1 : w.1.length ≤ 60
    · by_cases h2 : 0 < w.2.1.length
      · by_cases h3 : w.2.1.length ≤ 40
        · exfalso
          have e1 : decide ((60 : Int) < ((w.1.length : Nat) : Int)) = false := decide_eq_false (by omega)
          have e2 : decide (((w.2.1.length : Nat) : Int) < 1) = false := decide_eq_false (by omega)
          have e3 : decide ((40 : Int) < ((w.2.1.length : Nat) : Int)) = false := decide_eq_false (by omega)
          rw [e1, e2, e3] at h
          simp [selB] at h
        · simp [h3]
      · simp [h2]
    · simp [h1]
  · have e1 : w.1.length ≤ 60 := by
      rcases Nat.lt_or_ge 60 w.1.length with h1 | h1
      · have e : decide ((60 : Int) < ((w.1.length : Nat) : Int)) = true := decide_eq_true (by omega)
        rw [e] at h
        simp [selB] at h
      · exact h1
    have d1 : decide ((60 : Int) < ((w.1.length : Nat) : Int)) = false := decide_eq_false (by omega)
    rw [d1] at h
    simp only [selB, cond_false] at h
    have e2 : 0 < w.2.1.length := by
      rcases Nat.eq_zero_or_pos w.2.1.length with h1 | h1
      · have e : decide (((w.2.1.length : Nat) : Int) < 1) = true := decide_eq_true (by omega)
        rw [e] at h
        simp at h
      · exact h1
    have d2 : decide (((w.2.1.length : Nat) : Int) < 1) = false := decide_eq_false (by omega)
    rw [d2] at h
    simp only [cond_false] at h
    have e3 : w.2.1.length ≤ 40 := by have := of_decide_eq_false h; omega
    have hform : formedD w = (w.1.all letterD && w.2.1.all letterD) := by simp [formedD, e1, e2, e3]
    refine ⟨fun x => ∃ i : Nat, x.1 = i ∧ i ≤ w.1.length ∧ ∀ j : Nat, j < i → letterD (w.1.getD j 0) = true, fun x => w.1.length - x.1.toNat, ⟨0, rfl, Nat.zero_le _, fun j hj => by omega⟩, ?_⟩
    rintro ⟨iz, u⟩ _ ⟨i, e, hi, hall⟩
    simp only at e
    subst e
    simp only [Int.toNat_natCast]
    refine ⟨fun hlt => ?_, fun hlt => ?_⟩
    · have hlt : (i : Int) < w.1.length := of_decide_eq_true hlt
      refine ⟨⟨by omega, hlt⟩, letterD (w.1.getD i 0), cp_Letter _, fun hb => ?_, fun hb => ?_⟩
      · refine (hR _).2 ?_
        rw [hform, not_all_at (j := i) (by omega) (by simpa using hb)]
        rfl
      · have hb : letterD (w.1.getD i 0) = true := by simpa using hb
        refine ⟨inK64 (by omega) (by omega), ⟨i + 1, by simp, by omega, fun j hj => ?_⟩, by omega⟩
        rcases Nat.lt_or_ge j i with h1 | h1
        · exact hall j h1
        · have : j = i := by omega
          rw [this]; exact hb
    · have hlt : ¬ (i : Int) < w.1.length := of_decide_eq_false hlt
      have a1 : w.1.all letterD = true := all_at fun j hj => hall j (by omega)
      refine ⟨fun x => ∃ i : Nat, x.1 = i ∧ i ≤ w.2.1.length ∧ ∀ j : Nat, j < i → letterD (w.2.1.getD j 0) = true, fun x => w.2.1.length - x.1.toNat, ⟨0, rfl, Nat.zero_le _, fun j hj => by omega⟩, ?_⟩
      rintro ⟨kz, u⟩ _ ⟨k, e, hk, hall2⟩
      simp only at e
      subst e
      simp only [Int.toNat_natCast]
      refine ⟨fun hlt => ?_, fun hlt => ?_⟩
      · have hlt : (k : Int) < w.2.1.length := of_decide_eq_true hlt
        refine ⟨⟨by omega, hlt⟩, letterD (w.2.1.getD k 0), cp_Letter _, fun hb => ?_, fun hb => ?_⟩
        · refine (hR _).2 ?_
          rw [hform, not_all_at (s := w.2.1) (j := k) (by omega) (by simpa using hb), Bool.and_false]
        · have hb : letterD (w.2.1.getD k 0) = true := by simpa using hb
          refine ⟨inK64 (by omega) (by omega), ⟨k + 1, by simp, by omega, fun j hj => ?_⟩, by omega⟩
          rcases Nat.lt_or_ge j k with h1 | h1
          · exact hall2 j h1
          · have : j = k := by omega
            rw [this]; exact hb
      · have hlt : ¬ (k : Int) < w.2.1.length := of_decide_eq_false hlt
        refine (hR _).2 ?_
        rw [hform, a1, all_at fun j hj => hall2 j (by omega)]
        rfl
theorem list_eq_at {a b : List Int} (hl : a.length = b.length) (h : ∀ j : Nat, j < a.length → a.getD j 0 = b.getD j 0) : a = b := by
  apply List.ext_getElem hl
  intro i h1 h2
  have := h i h1
  rwa [getD_at' h1, getD_at' h2] at this
theorem eq_goal {a b : List Int} {R : Bool → Prop} (hR : ∀ x, R x ↔ x = decide (a = b)) (hl1 : a.length ≤ maxLen) : ((!(decide (((List.length a : Nat) : Int) = ((List.length b : Nat) : Int)))) = true → R false) ∧ ((!(decide (((List.length a : Nat) : Int) = ((List.length b : Nat) : Int)))) = false →
    ∃ I : (Int × Unit) → Prop, ∃ μ : (Int × Unit) → Nat, I ((0 : Int), ()) ∧ ∀ x : Int × Unit, (WF (Ty.int Go.IntKind.i64) x.1 ∧ True) → I x →
      ((decide (x.1 < ((List.length a : Nat) : Int)) = true → ((0 : Int) ≤ x.1 ∧ x.1 < ((List.length a : Nat) : Int)) ∧ ((0 : Int) ≤ x.1 ∧ x.1 < ((List.length b : Nat) : Int)) ∧
        ((!(decide (List.getD a (Int.toNat x.1) (0 : Int) = List.getD b (Int.toNat x.1) (0 : Int)))) = true → R false) ∧
        ((!(decide (List.getD a (Int.toNat x.1) (0 : Int) = List.getD b (Int.toNat x.1) (0 : Int)))) = false → inK Go.IntKind.i64 (x.1 + 1) ∧ I (x.1 + 1, ()) ∧ μ (x.1 + 1, ()) < μ x)) ∧
      (decide (x.1 < ((List.length a : Nat) : Int)) = false → R true))) := by
  simp only [maxLen] at hl1
  refine ⟨fun h => (hR _).2 ?_, fun h => ?_⟩
  · have : ¬ ((a.length : Nat) : Int) = ((b.length : Nat) : Int) := by simpa using h
    exact (decide_eq_false fun e => this (by rw [e])).symm
  · have hl : a.length = b.length := by
      have : ((a.length : Nat) : Int) = ((b.length : Nat) : Int) := by simpa using h
      omega
    refine ⟨fun x => ∃ i : Nat, x.1 = i ∧ i ≤ a.length ∧ ∀ j : Nat, j < i → a.getD j 0 = b.getD j 0, fun x => a.length - x.1.toNat, ⟨0, rfl, Nat.zero_le _, fun j hj => by omega⟩, ?_⟩
    rintro ⟨iz, u⟩ _ ⟨i, e, hi, hall⟩
    simp only at e
    subst e
    simp only [Int.toNat_natCast]
    refine ⟨fun hlt => ?_, fun hlt => ?_⟩
    · have hlt : (i : Int) < a.length := of_decide_eq_true hlt
      refine ⟨⟨by omega, hlt⟩, ⟨by omega, by omega⟩, fun hb => ?_, fun hb => ?_⟩
      · have : ¬ a.getD i 0 = b.getD i 0 := by simpa using hb
        exact (hR _).2 (decide_eq_false fun e => this (by rw [e])).symm
      · have hb : a.getD i 0 = b.getD i 0 := by simpa using hb
        refine ⟨inK64 (by omega) (by omega), ⟨i + 1, by simp, by omega, fun j hj => ?_⟩, by omega⟩
        rcases Nat.lt_or_ge j i with h1 | h1
        · exact hall j h1
        · have : j = i := by omega
          rw [this]; exact hb
    · have hlt : ¬ (i : Int) < a.length := of_decide_eq_false hlt
      exact (hR _).2 (decide_eq_true (list_eq_at hl fun j hj => hall j (by omega))).symm
theorem cp_Ints (a b : List Int) : CallP Try.prog tT 16 [.d intsT a, .d intsT b] .bool (decide (a = b)) :=
  of16 a b _ fun R hR wf _ => eq_goal hR wf.1
theorem cp_sEqual (a b : List Int) : CallP Try.prog tT 42 [.d intsT a, .d intsT b] .bool (decide (a = b)) :=
  of42 a b _ fun R hR wf _ => eq_goal hR wf.1
theorem cp_Equal (a b : lassoT.T) : CallP Try.prog tT 19 [.d lassoT a, .d lassoT b] .bool (decide (a = b)) := by
  refine of19 a b _ fun R hR _ _ => ⟨decide (a.1 = b.1), cp_Ints _ _, fun h => h, fun h => h, decide (a.2.1 = b.2.1), fun h => ⟨⟨h, h⟩, cp_Ints _ _⟩, fun h => h, (hR _).2 ?_⟩
  obtain ⟨a1, a2, u⟩ := a
  obtain ⟨b1, b2, v⟩ := b
  by_cases h1 : a1 = b1
  · by_cases h2 : a2 = b2
    · subst h1 h2
      rw [decide_eq_true (by rfl)]
      simp [selB]
    · have : ¬ (((a1, a2, u) : List Int × List Int × Unit) = (b1, b2, v)) := by simp [h2]
      rw [decide_eq_false this]
      simp [selB, h1, h2]
  · have : ¬ (((a1, a2, u) : List Int × List Int × Unit) = (b1, b2, v)) := by simp [h1]
    rw [decide_eq_false this]
    simp [selB, h1]
/-- the letter at a position -/
def atD (w : lassoT.T) (i : Int) : Int := if i < 0 ∨ formedD w = false then -1 else Word.wat w.1 w.2.1 i.toNat
theorem formed_parts {w : lassoT.T} (h : formedD w = true) : w.1.length ≤ 60 ∧ 0 < w.2.1.length ∧ w.2.1.length ≤ 40 ∧ w.1.all letterD = true ∧ w.2.1.all letterD = true := by
  simp only [formedD, Bool.and_eq_true, decide_eq_true_eq] at h
  exact ⟨h.1.1.1.1, h.1.1.1.2, h.1.1.2, h.1.2, h.2⟩
theorem wat_int {s l : List Int} {i : Int} (h0 : 0 ≤ i) (h1 : ¬ i < s.length) : Word.wat s l i.toNat = l.getD (Int.toNat ((i - (s.length : Nat)) % (l.length : Nat))) 0 := by
  obtain ⟨n, rfl⟩ := Int.eq_ofNat_of_zero_le h0
  unfold Word.wat
  rw [if_neg (by simp; omega)]
  have e : ((n : Nat) : Int) - (s.length : Nat) = ((n - s.length : Nat) : Int) := by omega
  have e2 : ((n - s.length : Nat) : Int) % (l.length : Nat) = (((n - s.length) % l.length : Nat) : Int) := rfl
  rw [e, e2, Int.toNat_natCast, Int.toNat_natCast]
theorem cp_at (w : lassoT.T) (i : Int) (h0 : 0 ≤ i) (hl : 0 < w.2.1.length) : CallP Try.prog tT 37 [.d lassoT w, .d intT i] intT (Word.wat w.1 w.2.1 i.toNat) := by
  refine of37 w i _ fun R hR _ wi => ⟨fun hlt => ?_, fun hlt => ?_⟩
  · have hlt : i < w.1.length := of_decide_eq_true hlt
    exact ⟨⟨h0, hlt⟩, (hR _).2 (Word.wat_stem (by omega)).symm⟩
  · have hlt : ¬ i < w.1.length := of_decide_eq_false hlt
    have hi : i ≤ 9223372036854775807 := wi.2
    refine ⟨inK64 (by omega) (by omega), ⟨by omega, by omega⟩, ⟨Int.emod_nonneg _ (by omega), Int.emod_lt_of_pos _ (by omega)⟩, (hR _).2 (wat_int h0 hlt).symm⟩
theorem cp_rAt (w : lassoT.T) (i : Int) : CallP Try.prog tT 15 [.d lassoT w, .d intT i] intT (atD w i) := by
  refine of15 w i _ fun R hR _ wi => ⟨formedD w, fun h => ⟨h, cp_Formed w⟩, fun h => h, fun h => by rw [h]; rfl, fun h => (hR _).2 ?_, fun h => ?_⟩
  · unfold atD
    by_cases h1 : i < 0
    · rw [if_pos (.inl h1)]
    · rw [decide_eq_false h1] at h
      simp only [selB, cond_false] at h
      rw [if_pos (.inr (by simpa using h))]
  · have h1 : ¬ i < 0 := fun hc => by rw [decide_eq_true hc] at h; simp [selB] at h
    rw [decide_eq_false h1] at h
    have hf : formedD w = true := by simpa [selB] using h
    refine ⟨_, cp_at w i (by omega) (formed_parts hf).2.1, (hR _).2 ?_⟩
    unfold atD
    rw [if_neg (by simp [hf, h1])]
theorem cp_At (w : lassoT.T) (i : Int) : CallP Try.prog tT 14 [.d lassoT w, .d intT i] intT (atD w i) := by
  refine of14 w i _ fun R hR _ wi => ⟨formedD w, fun h => ⟨h, cp_formed w⟩, fun h => h, fun h => by rw [h]; rfl, fun h => (hR _).2 ?_, fun h => ?_⟩
  · unfold atD
    by_cases h1 : i < 0
    · rw [if_pos (.inl h1)]
    · rw [decide_eq_false h1] at h
      simp only [selB, cond_false] at h
      rw [if_pos (.inr (by simpa using h))]
  · have h1 : ¬ i < 0 := fun hc => by rw [decide_eq_true hc] at h; simp [selB] at h
    rw [decide_eq_false h1] at h
    have hf : formedD w = true := by simpa [selB] using h
    have hl := (formed_parts hf).2.1
    have hi : i ≤ 9223372036854775807 := wi.2
    have hat : atD w i = Word.wat w.1 w.2.1 i.toNat := by unfold atD; rw [if_neg (by simp [hf, h1])]
    refine ⟨fun hlt => ?_, fun hlt => ?_⟩
    · have hlt : i < w.1.length := of_decide_eq_true hlt
      exact ⟨⟨by omega, hlt⟩, (hR _).2 (hat.trans (Word.wat_stem (by omega))).symm⟩
    · have hlt : ¬ i < w.1.length := of_decide_eq_false hlt
      exact ⟨inK64 (by omega) (by omega), ⟨by omega, by omega⟩, ⟨Int.emod_nonneg _ (by omega), Int.emod_lt_of_pos _ (by omega)⟩, (hR _).2 (hat.trans (wat_int (by omega) hlt)).symm⟩
theorem cp_lasso (s l : List Int) : CallP Try.prog tT 33 [.d intsT s, .d intsT l] lassoT (s, l, ()) :=
  of33 s l _ fun R hR _ _ => (hR _).2 rfl
/-- a lasso, if it is formed -/
def keptD (w : lassoT.T) : lassoT.T := if formedD w = true then w else ([], [], ())
theorem cp_kept (w : lassoT.T) : CallP Try.prog tT 47 [.d lassoT w] lassoT (keptD w) :=
  of47 w _ fun R hR _ => ⟨formedD w, cp_formed w, fun h => (hR _).2 (by unfold keptD; rw [if_neg (by simpa using h)]), fun h => (hR _).2 (by unfold keptD; rw [if_pos (by simpa using h)])⟩
theorem cp_rformed (w : lassoT.T) : CallP Try.prog tT 49 [.d lassoT w] lassoT (keptD w) :=
  of49 w _ fun R hR _ => ⟨formedD w, cp_Formed w, fun h => (hR _).2 (by unfold keptD; rw [if_pos h]), fun h => (hR _).2 (by unfold keptD; rw [if_neg (by simp [h])])⟩
end Go.Proofs.Ytblibehfjjgdeaa
/-
  Lassos: the period of a list.
-/
namespace Go.Proofs.Ytblibehfjjgdeaa
open Go.RowKit Word

theorem drop_take_iff {l : List Int} {n : Nat} (hn : n ≤ l.length) : (l.drop n = l.take (l.length - n)) ↔ ∀ i, n ≤ i → i < l.length → l.getD i 0 = l.getD (i - n) 0 := by
  constructor
  · intro h i h1 h2
    have := congrArg (fun s => s.getD (i - n) 0) h
    simp only [List.getD_eq_getElem?_getD, List.getElem?_drop, List.getElem?_take] at this
    rw [if_pos (by omega)] at this
    have e : n + (i - n) = i := by omega
    rw [e] at this
    simpa [List.getD_eq_getElem?_getD] using this
  · intro h
    refine list_eq_at (by simp) fun j hj => ?_
    have hj' : n + j < l.length := by simp at hj; omega
    have := h (n + j) (by omega) hj'
    rw [Nat.add_sub_cancel_left] at this
    simp only [List.getD_eq_getElem?_getD, List.getElem?_drop, List.getElem?_take]
    rw [if_pos (by omega)]
    simpa [List.getD_eq_getElem?_getD] using this
theorem emod_nat (a b : Nat) : ((a : Nat) : Int) % ((b : Nat) : Int) = ((a % b : Nat) : Int) := rfl
/-- the length of the shortest list of which a list is a repetition -/
theorem cp_period (l : List Int) (n : Nat) (hn : 0 < n) (hle : n ≤ l.length) (hR0 : Rep l n) (hmin : ∀ m, 0 < m → m < n → ¬ Rep l m) : CallP Try.prog tT 53 [.d intsT l] intT (n : Int) := by
  refine of53 l _ fun R hR wf => ⟨fun x => ∃ i : Nat, x.1 = i ∧ 0 < i ∧ i ≤ n, fun x => l.length - x.1.toNat, ⟨1, rfl, by omega, hn⟩, ?_⟩
  have hl1 : l.length ≤ maxLen := wf.1
  simp only [maxLen] at hl1
  rintro ⟨iz, u⟩ _ ⟨i, e, h0, hi⟩
  simp only at e
  subst e
  simp only [Int.toNat_natCast]
  refine ⟨fun hlt => ?_, fun hlt => ?_⟩
  · have hlt : (i : Int) < l.length := of_decide_eq_true hlt
    refine ⟨⟨by omega, by omega⟩, fun h => ⟨⟨h, h⟩, by omega, by omega⟩, fun h => h, fun h => ⟨⟨h, h⟩, inK64 (by omega) (by omega)⟩, fun h => ⟨⟨h, h⟩, by omega, by omega⟩, _, fun h => ⟨⟨h, h⟩, cp_sEqual _ _⟩, fun h => h, fun h => ?_, fun h => ?_⟩
    · refine (hR _).2 ?_
      have e1 : Int.toNat (((l.length : Nat) : Int) - (i : Int)) = l.length - i := by omega
      rw [e1] at h
      have : Rep l i := by
        simp only [selB] at h
        cases hd : decide ((((l.length : Nat) : Int) % (i : Int)) = 0) with
        | false => rw [hd] at h; simp at h
        | true =>
          rw [hd] at h
          simp only [cond_true, decide_eq_true_eq] at h hd
          rw [emod_nat] at hd
          exact ⟨by omega, (drop_take_iff (by omega)).1 h⟩
      rcases Nat.lt_or_ge i n with h1 | h1
      · exact absurd this (hmin i h0 h1)
      · have : i = n := by omega
        rw [this]
    · have e1 : Int.toNat (((l.length : Nat) : Int) - (i : Int)) = l.length - i := by omega
      rw [e1] at h
      have hne : i ≠ n := by
        intro e
        subst e
        have d1 : decide ((((l.length : Nat) : Int) % (i : Int)) = 0) = true := by
          rw [emod_nat]
          exact decide_eq_true (by rw [hR0.1]; rfl)
        have d2 : decide (l.drop i = l.take (l.length - i)) = true := decide_eq_true ((drop_take_iff (by omega)).2 hR0.2)
        rw [d1, d2] at h
        simp [selB] at h
      exact ⟨inK64 (by omega) (by omega), ⟨i + 1, by simp, by omega, by omega⟩, by omega⟩
  · have hlt : ¬ (i : Int) < l.length := of_decide_eq_false hlt
    refine (hR _).2 ?_
    have : l.length = n := by omega
    rw [this]
theorem cp_repeats (l : List Int) (n : Nat) (hn : 0 < n) (hn2 : n ≤ l.length) (r : Bool) (hr : r = true ↔ Rep l n) : CallP Try.prog tT 54 [.d intsT l, .d intT (n : Int)] .bool r := by
  refine of54 l n _ fun R hR wf _ => ⟨⟨by omega, by omega⟩, fun h => (hR _).2 ?_, fun h => ?_⟩
  · rw [emod_nat] at h
    have : ¬ l.length % n = 0 := by
      intro e
      rw [e] at h
      simp at h
    cases r with
    | false => rfl
    | true => exact absurd (hr.1 rfl).1 this
  · rw [emod_nat] at h
    have hd : l.length % n = 0 := by
      have h' : (((l.length % n : Nat) : Int)) = 0 := by simpa using h
      omega
    have hl1 : l.length ≤ maxLen := wf.1
    simp only [maxLen] at hl1
    refine ⟨fun x => ∃ i : Nat, x.1 = i ∧ n ≤ i ∧ i ≤ l.length ∧ ∀ j, n ≤ j → j < i → l.getD j 0 = l.getD (j - n) 0, fun x => l.length - x.1.toNat, ⟨n, rfl, Nat.le_refl _, hn2, fun j h1 h2 => by omega⟩, ?_⟩
    rintro ⟨iz, u⟩ _ ⟨i, e, h0, hi, hall⟩
    simp only at e
    subst e
    have e1 : Int.toNat ((i : Int) - (n : Int)) = i - n := by omega
    rw [e1]
    simp only [Int.toNat_natCast]
    refine ⟨fun hlt => ?_, fun hlt => ?_⟩
    · have hlt : (i : Int) < l.length := of_decide_eq_true hlt
      refine ⟨⟨by omega, hlt⟩, inK64 (by omega) (by omega), ⟨by omega, by omega⟩, fun hb => ?_, fun hb => ?_⟩
      · have hb : ¬ l.getD i 0 = l.getD (i - n) 0 := by simpa using hb
        refine (hR _).2 ?_
        cases r with
        | false => rfl
        | true => exact absurd ((hr.1 rfl).2 i h0 (by omega)) hb
      · have hb : l.getD i 0 = l.getD (i - n) 0 := by simpa using hb
        refine ⟨inK64 (by omega) (by omega), ⟨i + 1, by simp, by omega, by omega, fun j h1 h2 => ?_⟩, by omega⟩
        rcases Nat.lt_or_ge j i with h3 | h3
        · exact hall j h1 h3
        · have : j = i := by omega
          rw [this]; exact hb
    · have hlt : ¬ (i : Int) < l.length := of_decide_eq_false hlt
      refine (hR _).2 ?_
      exact (hr.2 ⟨hd, fun j h1 h2 => hall j h1 (by omega)⟩).symm
/-- there is a shortest list -/
theorem least_rep {l : List Int} (hl : l ≠ []) : ∃ n, 0 < n ∧ n ≤ l.length ∧ Rep l n ∧ ∀ m, 0 < m → m < n → ¬ Rep l m := by
  have l0 := List.length_pos_iff.2 hl
  have key : ∀ k, (∀ m, 0 < m → m < k → ¬ Rep l m) ∨ ∃ n, 0 < n ∧ n < k ∧ Rep l n ∧ ∀ m, 0 < m → m < n → ¬ Rep l m := by
    intro k
    induction k with
    | zero => exact .inl fun m _ h => absurd h (Nat.not_lt_zero _)
    | succ k ih =>
      rcases ih with ih | ⟨n, h1, h2, h3⟩
      · by_cases hk : 0 < k ∧ Rep l k
        · exact .inr ⟨k, hk.1, Nat.lt_succ_self _, hk.2, ih⟩
        · refine .inl fun m h1 h2 hm => ?_
          rcases Nat.lt_or_ge m k with h3 | h3
          · exact ih m h1 h3 hm
          · have : m = k := by omega
            subst this
            exact hk ⟨h1, hm⟩
      · exact .inr ⟨n, h1, by omega, h3⟩
  rcases key (l.length + 1) with h | ⟨n, h1, h2, h3, h4⟩
  · exact absurd ⟨by simp, fun i h1 h2 => by omega⟩ (h l.length l0 (Nat.lt_succ_self _))
  · exact ⟨n, h1, by omega, h3, h4⟩
end Go.Proofs.Ytblibehfjjgdeaa
/-
  Lassos: the normal lasso.
-/
namespace Go.Proofs.Ytblibehfjjgdeaa
open Go.RowKit Word

namespace Word
theorem rep_take {l : List Int} {n : Nat} (hn : 0 < n) (hle : n ≤ l.length) (hR : Rep l n) (i : Nat) : rep (l.take n) i = rep l i := by
  have hlen : (l.take n).length = n := by simp; omega
  have h1 := (rep_of_Rep hn hR).mod i
  rw [h1, rep_lt (l := l) (by have := Nat.mod_lt i hn; omega)]
  have h2 := (rep_per (l := l.take n)).mod i
  rw [hlen] at h2
  rw [h2, rep_lt (by rw [hlen]; exact Nat.mod_lt i hn)]
  have := Nat.mod_lt i hn
  simp [List.getD_eq_getElem?_getD, List.getElem?_take, this]
/-- what has come to a loop's end is the normal lasso -/
theorem nf_end {s l t : List Int} {n k e : Nat} (hn : 0 < n) (hle : n ≤ l.length) (hR : Rep l n) (hmin : ∀ m, 0 < m → m < n → ¬ Rep l m) (hk : k ≤ s.length) (hinv : ∀ j, k ≤ j → wat s l j = rep (l.take n) (j - k + e))
    (hlast : k = 0 ∨ s.getD (k - 1) 0 ≠ rep (l.take n) (n - 1 + e)) (ht : t.length = n) (htv : ∀ i, i < n → t.getD i 0 = rep (l.take n) (i + e)) : Nf (s.take k) t ∧ ∀ i, wat (s.take k) t i = wat s l i := by
  have hlen : (l.take n).length = n := by simp; omega
  have hsk : (s.take k).length = k := by simp; omega
  have hp : Per (rep (l.take n)) n := by have := rep_per (l := l.take n); rwa [hlen] at this
  have hrt : ∀ i, rep t i = rep (l.take n) (i + e) := fun i => by
    have h1 := (rep_per (l := t)).mod i
    rw [ht] at h1
    rw [h1, rep_lt (by rw [ht]; exact Nat.mod_lt i hn), htv _ (Nat.mod_lt i hn), hp.mod (i % n + e), hp.mod (i + e), Nat.mod_add_mod]
  refine ⟨⟨fun h0 => by rw [h0] at ht; simp at ht; omega, fun m h0 hlt hm => ?_, ?_⟩, fun i => ?_⟩
  · rw [ht] at hlt
    refine hmin m h0 hlt (Rep_of_rep ?_ fun i => ?_)
    · have d1 : m ∣ n := by have := hm.1; rw [ht] at this; exact Nat.dvd_of_mod_eq_zero this
      have d2 : n ∣ l.length := Nat.dvd_of_mod_eq_zero hR.1
      exact Nat.mod_eq_zero_of_dvd (Nat.dvd_trans d1 d2)
    · have ht' := rep_of_Rep h0 hm
      have h1 := ht' (i + (n * e - e))
      rw [hrt, hrt] at h1
      have hne : e ≤ n * e := Nat.le_mul_of_pos_left e hn
      have e1 : i + (n * e - e) + e = i + n * e := by omega
      have e2 : i + (n * e - e) + m + e = (i + m) + n * e := by omega
      rw [e1, e2, hp.mul e, hp.mul e, rep_take hn hle hR, rep_take hn hle hR] at h1
      exact h1
  · rcases Nat.eq_zero_or_pos k with h0 | h0
    · left; subst h0; rfl
    · right
      rcases hlast with h1 | h1
      · omega
      · rw [hsk, ht, htv (n - 1) (by omega)]
        have : (s.take k).getD (k - 1) 0 = s.getD (k - 1) 0 := by
          have : k - 1 < k := by omega
          simp [List.getD_eq_getElem?_getD, List.getElem?_take, this]
        rw [this]
        exact h1
  · rcases Nat.lt_or_ge i k with h1 | h1
    · rw [wat_stem (by rw [hsk]; exact h1), wat_stem (by omega)]
      simp [List.getD_eq_getElem?_getD, List.getElem?_take, h1]
    · have e1 : i = (s.take k).length + (i - k) := by rw [hsk]; omega
      rw [hinv i h1, ← hrt]
      conv => lhs; rw [e1]
      rw [wat_loop]
/-- where a loop begins -/
theorem nf_start {s l : List Int} {n : Nat} (hn : 0 < n) (hle : n ≤ l.length) (hR : Rep l n) (e : Nat) (he : e % n = 0) : ∀ j, s.length ≤ j → wat s l j = rep (l.take n) (j - s.length + e) := by
  intro j hj
  have hlen : (l.take n).length = n := by simp; omega
  have hp : Per (rep (l.take n)) n := by have := rep_per (l := l.take n); rwa [hlen] at this
  have e1 : j = s.length + (j - s.length) := by omega
  conv => lhs; rw [e1]
  rw [wat_loop, ← rep_take hn hle hR, hp.mod (j - s.length + e), hp.mod (j - s.length), Nat.add_mod, he, Nat.add_zero, Nat.mod_mod]
/-- one turn of the loop -/
theorem nf_step {s l : List Int} {n k e e' : Nat} (hle : n ≤ l.length) (h0 : 0 < k) (hk : k ≤ s.length) (hinv : ∀ j, k ≤ j → wat s l j = rep (l.take n) (j - k + e)) (he : (e' + 1) % n = e % n) (heq : s.getD (k - 1) 0 = rep (l.take n) e') : ∀ j, k - 1 ≤ j → wat s l j = rep (l.take n) (j - (k - 1) + e') := by
  intro j hj
  have hlen : (l.take n).length = n := by simp; omega
  have hp : Per (rep (l.take n)) n := by have := rep_per (l := l.take n); rwa [hlen] at this
  rcases Nat.lt_or_ge j k with h1 | h1
  · have : j = k - 1 := by omega
    subst this
    rw [wat_stem (by omega), Nat.sub_self, Nat.zero_add]
    exact heq
  · rw [hinv j h1, hp.mod (j - k + e), hp.mod (j - (k - 1) + e')]
    have e1 : j - (k - 1) + e' = (j - k) + (e' + 1) := by omega
    rw [e1, Nat.add_mod (j - k) (e' + 1), he, ← Nat.add_mod]
end Word
/-- the normal lasso of a word -/
noncomputable def nfD (w : lassoT.T) : lassoT.T :=
  open Classical in if h : ∃ p : lassoT.T, Nf p.1 p.2.1 ∧ ∀ i, wat p.1 p.2.1 i = wat w.1 w.2.1 i then h.choose else ([], [], ())
theorem nfD_eq {w p : lassoT.T} (h1 : Nf p.1 p.2.1) (h2 : ∀ i, wat p.1 p.2.1 i = wat w.1 w.2.1 i) : nfD w = p := by
  have hex : ∃ p : lassoT.T, Nf p.1 p.2.1 ∧ ∀ i, wat p.1 p.2.1 i = wat w.1 w.2.1 i := ⟨p, h1, h2⟩
  unfold nfD
  rw [dif_pos hex]
  obtain ⟨k1, k2⟩ := hex.choose_spec
  obtain ⟨e1, e2⟩ := k1.eq h1 fun i => (k2 i).trans (h2 i).symm
  generalize hex.choose = q at e1 e2
  obtain ⟨a, b, u⟩ := q
  obtain ⟨c, d, v⟩ := p
  simp only at e1 e2
  rw [e1, e2]
end Go.Proofs.Ytblibehfjjgdeaa
/-
  Lassos: shortest returns the normal lasso.
-/
namespace Go.Proofs.Ytblibehfjjgdeaa
open Go.RowKit Word

theorem all_in {l : List Int} (h : WF intsT l) : ∀ x ∈ l, inK .i64 x := h.2
theorem turn_eq (L : List Int) (e : Nat) (he : e ≤ L.length) :
    (List.take (Int.toNat ((min (List.length (List.drop e L)) (List.length (List.replicate L.length (0 : Int))) : Nat) : Int)) ((List.take 0 (List.replicate L.length (0 : Int)) ++ List.take (List.length (List.replicate L.length (0 : Int))) (List.drop e L)) ++ List.drop (0 + List.length (List.take (List.length (List.replicate L.length (0 : Int))) (List.drop e L))) (List.replicate L.length (0 : Int))) ++
      List.take (List.length ((List.take 0 (List.replicate L.length (0 : Int)) ++ List.take (List.length (List.replicate L.length (0 : Int))) (List.drop e L)) ++ List.drop (0 + List.length (List.take (List.length (List.replicate L.length (0 : Int))) (List.drop e L))) (List.replicate L.length (0 : Int))) - Int.toNat ((min (List.length (List.drop e L)) (List.length (List.replicate L.length (0 : Int))) : Nat) : Int)) (List.take e L)) ++
      List.drop (Int.toNat ((min (List.length (List.drop e L)) (List.length (List.replicate L.length (0 : Int))) : Nat) : Int) + List.length (List.take (List.length ((List.take 0 (List.replicate L.length (0 : Int)) ++ List.take (List.length (List.replicate L.length (0 : Int))) (List.drop e L)) ++ List.drop (0 + List.length (List.take (List.length (List.replicate L.length (0 : Int))) (List.drop e L))) (List.replicate L.length (0 : Int))) - Int.toNat ((min (List.length (List.drop e L)) (List.length (List.replicate L.length (0 : Int))) : Nat) : Int)) (List.take e L))) ((List.take 0 (List.replicate L.length (0 : Int)) ++ List.take (List.length (List.replicate L.length (0 : Int))) (List.drop e L)) ++ List.drop (0 + List.length (List.take (List.length (List.replicate L.length (0 : Int))) (List.drop e L))) (List.replicate L.length (0 : Int)))
    = List.drop e L ++ List.take e L := by
  have h1 : List.take (List.length (List.replicate L.length (0 : Int))) (List.drop e L) = List.drop e L := List.take_of_length_le (by simp)
  have h2 : Int.toNat ((min (List.length (List.drop e L)) (List.length (List.replicate L.length (0 : Int))) : Nat) : Int) = L.length - e := by simp
  rw [h1, h2]
  have hA : (List.take 0 (List.replicate L.length (0 : Int)) ++ List.drop e L) ++ List.drop (0 + (List.drop e L).length) (List.replicate L.length (0 : Int)) = List.drop e L ++ List.drop (L.length - e) (List.replicate L.length (0 : Int)) := by simp
  rw [hA]
  have hAl : (List.drop e L ++ List.drop (L.length - e) (List.replicate L.length (0 : Int))).length = L.length := by
    rw [List.length_append, List.length_drop, List.length_drop, List.length_replicate]
    omega
  rw [hAl]
  have h3 : List.take (L.length - e) (List.drop e L ++ List.drop (L.length - e) (List.replicate L.length (0 : Int))) = List.drop e L := by
    rw [List.take_append_of_le_length (by simp)]
    exact List.take_of_length_le (by simp)
  have h4 : List.take (L.length - (L.length - e)) (List.take e L) = List.take e L := List.take_of_length_le (by simp; omega)
  have h5 : List.drop (L.length - e + (List.take e L).length) (List.drop e L ++ List.drop (L.length - e) (List.replicate L.length (0 : Int))) = [] := List.drop_eq_nil_of_le (by
    rw [hAl, List.length_take]
    omega)
  rw [h3, h4, h5, List.append_nil]
theorem turn_at {L : List Int} {e i : Nat} (he : e ≤ L.length) (hi : i < L.length) : (List.drop e L ++ List.take e L).getD i 0 = rep L (i + e) := by
  unfold rep
  simp only [List.getD_eq_getElem?_getD]
  rcases Nat.lt_or_ge i (L.length - e) with h1 | h1
  · rw [List.getElem?_append_left (by simp; omega), List.getElem?_drop, Nat.mod_eq_of_lt (by omega), Nat.add_comm]
  · rw [List.getElem?_append_right (by simp; omega), List.getElem?_take, List.length_drop, if_pos (by omega), Nat.mod_eq_sub_mod (by omega), Nat.mod_eq_of_lt (by omega)]
    congr 2
    omega
theorem cp_shortest (w : lassoT.T) (hl : w.2.1 ≠ []) (hb : w.2.1.length ≤ 100000) (hb1 : w.1.length ≤ 100000) : CallP Try.prog tT 40 [.d lassoT w] lassoT (nfD w) := by
  refine of40 w _ fun R hR wf => ?_
  obtain ⟨n, hn, hle, hRn, hmin⟩ := least_rep hl
  have wf1 : ∀ x ∈ w.1, inK .i64 x := wf.1.2
  have wf2 : ∀ x ∈ w.2.1, inK .i64 x := wf.2.1.2
  refine ⟨(n : Int), cp_period _ n hn hle hRn hmin, ⟨by omega, by omega⟩, w.2.1.take n, ?_, ?_⟩
  · rw [Int.toNat_natCast]
    exact cp_Clone _ (by simp; omega) fun x hx => wf2 x (List.mem_of_mem_take hx)
  have hlen : (w.2.1.take n).length = n := by simp; omega
  refine ⟨fun x => ∃ k e : Nat, x.1 = k ∧ x.2.1 = e ∧ k ≤ w.1.length ∧ e ≤ n ∧ ∀ j, k ≤ j → wat w.1 w.2.1 j = rep (w.2.1.take n) (j - k + e), fun x => x.1.toNat, ⟨w.1.length, n, rfl, by rw [hlen], Nat.le_refl _, Nat.le_refl _, nf_start hn hle hRn n (Nat.mod_self n)⟩, ?_⟩
  rintro ⟨kz, ez, u⟩ _ ⟨k, e, h1, h2, hk, he, hinv⟩
  simp only at h1 h2
  subst h1 h2
  rw [hlen]
  simp only [Int.toNat_natCast]
  generalize hL : w.2.1.take n = L at hlen hinv
  have hpos : ∀ {q : Prop}, (decide ((0 : Int) < (k : Int)) = true → q) ↔ (0 < k → q) := fun {q} => ⟨fun h h' => h (decide_eq_true (by omega)), fun h h' => h (by have := of_decide_eq_true h'; omega)⟩
  have ep : (0 : Nat) < n := hn
  have e1 : ∀ _ : 0 < k, ((e : Int) - 1 + (n : Int)) = ((e + n - 1 : Nat) : Int) := fun _ => by omega
  have e2 : ((e : Int) - 1 + (n : Int)) % (n : Int) = (((e + n - 1) % n : Nat) : Int) := by
    have : ((e : Int) - 1 + (n : Int)) = ((e + n - 1 : Nat) : Int) := by omega
    rw [this, emod_nat]
  have hmod := Nat.mod_lt (e + n - 1) hn
  rw [e2]
  refine ⟨fun h => h, fun h => ⟨h, inK64 (by omega) (by omega)⟩, fun h => ⟨⟨h, h⟩, by have := of_decide_eq_true h; omega, by omega⟩, fun h => h, fun h => ⟨h, inK64 (by omega) (by omega)⟩, fun h => h, fun h => ⟨⟨h, h⟩, inK64 (by omega) (by omega)⟩, fun h => h, fun h => ⟨⟨h, h⟩, by omega, by omega⟩, fun h => ⟨⟨h, h⟩, by omega, by omega⟩, fun h => h, fun h => ⟨h, h⟩, fun h => h, fun h => ?_, fun h => ?_⟩
  · have hk0 : 0 < k := by
      rcases Nat.eq_zero_or_pos k with h0 | h0
      · subst h0; simp [selB] at h
      · exact h0
    rw [decide_eq_true (by omega : (0 : Int) < (k : Int))] at h
    have ek : Int.toNat ((k : Int) - 1) = k - 1 := by omega
    rw [ek, Int.toNat_natCast] at h
    have heq : w.1.getD (k - 1) 0 = L.getD ((e + n - 1) % n) 0 := by simpa [selB] using h
    refine ⟨inK64 (by omega) (by omega), inK64 (by omega) (by omega), inK64 (by omega) (by omega), ⟨by omega, by omega⟩, ⟨k - 1, (e + n - 1) % n, by omega, rfl, by omega, by omega, ?_⟩, by omega⟩
    rw [← hL]
    rw [← hL] at hinv heq hlen
    refine nf_step hle hk0 hk hinv ?_ ?_
    · rw [Nat.mod_add_mod]
      have : e + n - 1 + 1 = e + n := by omega
      rw [this, Nat.add_mod_right]
    · rw [heq, rep_lt (by rw [hlen]; exact hmod)]
  · have hlast : k = 0 ∨ w.1.getD (k - 1) 0 ≠ rep (w.2.1.take n) (n - 1 + e) := by
      rcases Nat.eq_zero_or_pos k with h0 | h0
      · exact .inl h0
      · right
        rw [decide_eq_true (by omega : (0 : Int) < (k : Int))] at h
        have ek : Int.toNat ((k : Int) - 1) = k - 1 := by omega
        rw [ek, Int.toNat_natCast] at h
        have hne : ¬ w.1.getD (k - 1) 0 = L.getD ((e + n - 1) % n) 0 := by simpa [selB] using h
        rw [hL]
        have : rep L (n - 1 + e) = L.getD ((e + n - 1) % n) 0 := by
          unfold rep
          rw [hlen]
          congr 2
          omega
        rw [this]
        exact hne
    have heL : e ≤ L.length := by rw [hlen]; exact he
    refine ⟨⟨by omega, by omega, by omega⟩, ⟨by omega, by omega⟩, ⟨by omega, ?_⟩, ⟨by omega, by omega⟩, ⟨by omega, by omega⟩, w.1.take k, cp_Clone _ (by simp; omega) (fun x hx => wf1 x (List.mem_of_mem_take hx)), ?_⟩
    · simp [hlen]
    · have ht := turn_eq L e heL
      rw [hlen] at ht
      simp only [Int.toNat_natCast] at ht
      rw [ht]
      have hnf := nf_end (s := w.1) (l := w.2.1) (t := List.drop e L ++ List.take e L) hn hle hRn hmin hk (by rw [hL]; exact hinv) hlast (by simp [hlen]; omega) (fun i hi => by rw [hL]; exact turn_at heL (by rw [hlen]; exact hi))
      exact (hR _).2 (nfD_eq (p := (w.1.take k, List.drop e L ++ List.take e L, ())) hnf.1 hnf.2).symm
end Go.Proofs.Ytblibehfjjgdeaa
/-
  Lassos: the reference's Shortest returns the normal lasso.
-/
namespace Go.Proofs.Ytblibehfjjgdeaa
open Go.RowKit Word

theorem cp_Shortest (w : lassoT.T) (hl : w.2.1 ≠ []) (hb : w.2.1.length ≤ 100000) (hb1 : w.1.length ≤ 100000) : CallP Try.prog tT 41 [.d lassoT w] lassoT (nfD w) := by
  refine of41 w _ fun R hR wf => ?_
  obtain ⟨n, hn, hle, hRn, hmin⟩ := least_rep hl
  refine ⟨fun x => ∃ i : Nat, x.1 = i ∧ 0 < i ∧ i ≤ n, fun x => w.2.1.length - x.1.toNat, ⟨1, rfl, by omega, hn⟩, ?_⟩
  rintro ⟨iz, u⟩ _ ⟨i, e0, h0, hi⟩
  simp only at e0
  subst e0
  obtain ⟨r, hr⟩ : ∃ r : Bool, r = true ↔ Rep w.2.1 i := by
    by_cases h : Rep w.2.1 i
    · exact ⟨true, by simp [h]⟩
    · exact ⟨false, by simp [h]⟩
  simp only [Int.toNat_natCast]
  refine ⟨r, cp_repeats _ i h0 (by omega) r hr, fun h => ?_, fun h => ?_⟩
  · have hne : i ≠ n := by
      intro e
      subst e
      rw [hr.2 hRn] at h
      simp at h
    exact ⟨inK64 (by omega) (by omega), ⟨i + 1, by simp, by omega, by omega⟩, by omega⟩
  · have hrt : r = true := by simpa using h
    have hin : i = n := by
      rcases Nat.lt_or_ge i n with h1 | h1
      · exact absurd (hr.1 hrt) (hmin i h0 h1)
      · omega
    subst hin
    have hlen : (w.2.1.take i).length = i := by simp; omega
    have hp : Per (rep (w.2.1.take i)) i := by have := rep_per (l := w.2.1.take i); rwa [hlen] at this
    refine ⟨⟨by omega, by omega⟩, by rw [hlen, List.length_nil]; omega, by rw [List.length_nil]; omega,
      fun x => ∃ k e : Nat, x.2.1 = w.1.take k ∧ k ≤ w.1.length ∧ x.1.length = i ∧ (∀ j, j < i → x.1.getD j 0 = rep (w.2.1.take i) (j + e)) ∧ ∀ j, k ≤ j → wat w.1 w.2.1 j = rep (w.2.1.take i) (j - k + e), fun x => x.2.1.length,
      ⟨w.1.length, 0, by simp, Nat.le_refl _, by rw [List.nil_append, hlen], fun j hj => by rw [List.nil_append, Nat.add_zero, rep_lt (by rw [hlen]; exact hj)], nf_start hn hle hRn 0 (Nat.zero_mod i)⟩, ?_⟩
    rintro ⟨L, S, u⟩ _ ⟨k, e, h1, hk, h2, h3, hinv⟩
    simp only at h1 h2 h3
    have hS : S.length = k := by rw [h1]; simp; omega
    rw [hS, h2]
    have eL : Int.toNat ((i : Int) - 1) = i - 1 := by omega
    have eS : Int.toNat ((k : Int) - 1) = k - 1 := by omega
    rw [eL, eS]
    have hSk : ∀ _ : 0 < k, S.getD (k - 1) 0 = w.1.getD (k - 1) 0 := fun h0 => by
      rw [h1]
      have : k - 1 < k := by omega
      simp [List.getD_eq_getElem?_getD, List.getElem?_take, this]
    have hL1 : L.getD (i - 1) 0 = rep (w.2.1.take i) (i - 1 + e) := h3 (i - 1) (by omega)
    refine ⟨fun h => h, fun h => ⟨h, inK64 (by omega) (by omega)⟩, fun h => ⟨⟨h, h⟩, by have := of_decide_eq_true h; omega, by omega⟩, fun h => h, fun h => ⟨h, inK64 (by omega) (by omega)⟩, fun h => ⟨⟨h, h⟩, by omega, by omega⟩, fun h => h, fun h => ⟨h, h⟩, fun h => h, fun h => ?_, fun h => ?_⟩
    · have hk0 : 0 < k := by
        rcases Nat.eq_zero_or_pos k with h0 | h0
        · subst h0; simp [selB] at h
        · exact h0
      rw [decide_eq_true (by omega : (0 : Int) < (k : Int))] at h
      have heq : S.getD (k - 1) 0 = L.getD (i - 1) 0 := by simpa [selB] using h
      rw [hSk hk0, hL1] at heq
      have hl' : ([L.getD (i - 1) 0] ++ L.take (i - 1)).length = i := by simp; omega
      refine ⟨inK64 (by omega) (by omega), ⟨by omega, by omega⟩, inK64 (by omega) (by omega), ⟨by omega, by omega⟩, inK64 (by omega) (by omega), ⟨by omega, by omega⟩, ?_, ⟨k - 1, e + i - 1, ?_, by omega, hl', fun j hj => ?_, ?_⟩, ?_⟩
      · have : ([L.getD (i - 1) 0] : List Int).length + (L.take (i - 1)).length = i := by rw [← List.length_append]; exact hl'
        rw [this]; omega
      · show S.take (k - 1) = w.1.take (k - 1)
        rw [h1, List.take_take]
        congr 1
        omega
      · show ([L.getD (i - 1) 0] ++ L.take (i - 1)).getD j 0 = _
        cases j with
        | zero =>
          have : i - 1 + e = 0 + (e + i - 1) := by omega
          rw [← this, ← hL1]
          rfl
        | succ j =>
          have e5 : ([L.getD (i - 1) 0] ++ L.take (i - 1)).getD (j + 1) 0 = L.getD j 0 := by
            have : j < i - 1 := by omega
            simp [List.getD_eq_getElem?_getD, List.getElem?_take, this]
          rw [e5, h3 j (by omega)]
          have : j + 1 + (e + i - 1) = (j + e) + i := by omega
          rw [this, hp]
      · refine nf_step hle hk0 hk hinv ?_ ?_
        · have : e + i - 1 + 1 = e + i := by omega
          rw [this, Nat.add_mod_right]
        · rw [heq]
          congr 1
          omega
      · show (S.take (k - 1)).length < S.length
        simp; omega
    · have hlast : k = 0 ∨ w.1.getD (k - 1) 0 ≠ rep (w.2.1.take i) (i - 1 + e) := by
        rcases Nat.eq_zero_or_pos k with h0 | h0
        · exact .inl h0
        · right
          rw [decide_eq_true (by omega : (0 : Int) < (k : Int))] at h
          have hne : ¬ S.getD (k - 1) 0 = L.getD (i - 1) 0 := by simpa [selB] using h
          rwa [hSk h0, hL1] at hne
      have hnf := nf_end (s := w.1) (l := w.2.1) (t := L) hn hle hRn hmin hk hinv hlast h2 h3
      rw [h1]
      exact (hR _).2 (nfD_eq (p := (w.1.take k, L, ())) hnf.1 hnf.2).symm
end Go.Proofs.Ytblibehfjjgdeaa
