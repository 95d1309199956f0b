/-
  Signals: letters as numbers of mixed radix.
-/
import Derived.Test.YtlkgkjpnphdhdaaDoorNd
import Derived.Test.YtlkgkjpnphdhdaaDoorNf
import Derived.Test.YtlkgkjpnphdhdaaDoorVcs
import Derived.Test.YtlkgkjpnphdhdaaDoorShelf
namespace Go.Proofs.YtlkgkjpnphdhdaaDoor
open Go.RowKit
abbrev sigT : Ty := .st (.pair .str (.pair .bool (.pair (.int .i64) .unit)))
abbrev sigsT : Ty := .sl sigT
abbrev intT : Ty := .int .i64
abbrev intsT : Ty := .sl (.int .i64)
abbrev strsT : Ty := .sl .str
theorem inK64 {n : Int} (h1 : -9223372036854775808 ≤ n) (h2 : n ≤ 9223372036854775807) : inK .i64 n := ⟨h1, h2⟩
theorem CallP.to_ {P : Program} {T : Tab} {f : FuncId} {xs : List AV} {rt : Ty} {r r' : rt.T} (h : CallP P T f xs rt r) (e : r = r') : CallP P T f xs rt r' := e ▸ h
theorem tb_f : (true == false) = false := rfl
theorem ft_f : (false == true) = false := rfl
namespace Sg
abbrev Sig := List UInt8 × Bool × Int × Unit
abbrev s0 : Sig := ([], false, 0, ())
theorem drop_at {α : Type} {l : List α} {i : Nat} (d : α) (h : i < l.length) : l.drop i = l.getD i d :: l.drop (i + 1) := by
  rw [List.drop_eq_getElem_cons h]
  simp [List.getD_eq_getElem?_getD, h]
theorem getD_drop {α : Type} {l : List α} {i k : Nat} (d : α) : (l.drop k).getD i d = l.getD (k + i) d := by simp [List.getD_eq_getElem?_getD]
theorem getD_mem {α : Type} {l : List α} {i : Nat} (d : α) (h : i < l.length) : l.getD i d ∈ l := by
  have : l.getD i d = l[i] := by simp [List.getD_eq_getElem?_getD, h]
  rw [this]; exact List.getElem_mem h
/-- the index of the first element with a property, or -1 -/
def idxD {α : Type} (p : α → Bool) : List α → Int
  | [] => -1
  | x :: l => if p x = true then 0 else (if idxD p l < 0 then -1 else idxD p l + 1)
theorem idxD_none {α : Type} {p : α → Bool} (d : α) : ∀ {l : List α}, (∀ j, j < l.length → p (l.getD j d) = false) → idxD p l = -1
  | [], _ => rfl
  | x :: l, h => by
    have h0 : p x = false := h 0 (by simp)
    have ih := idxD_none (p := p) d (l := l) fun j hj => h (j + 1) (by simp; omega)
    simp only [idxD, h0, Bool.false_eq_true, if_false, ih]
    decide
theorem idxD_some {α : Type} {p : α → Bool} (d : α) : ∀ {l : List α} {i : Nat}, i < l.length → (∀ j, j < i → p (l.getD j d) = false) → p (l.getD i d) = true → idxD p l = (i : Int)
  | [], _, h, _, _ => by simp at h
  | x :: l, 0, _, _, h => by
    have h : p x = true := h
    simp [idxD, h]
  | x :: l, i + 1, h0, h1, h2 => by
    have hx : p x = false := h1 0 (by omega)
    have ih := idxD_some (p := p) d (l := l) (i := i) (by simpa using h0) (fun j hj => h1 (j + 1) (by omega)) h2
    simp only [idxD, hx, Bool.false_eq_true, if_false, ih]
    rw [if_neg (by omega)]
    omega
theorem idxD_iff {α : Type} {p : α → Bool} (d : α) : ∀ {l : List α}, (idxD p l = -1 ∧ ∀ j, j < l.length → p (l.getD j d) = false) ∨ ∃ i : Nat, i < l.length ∧ idxD p l = (i : Int) ∧ p (l.getD i d) = true ∧ ∀ j, j < i → p (l.getD j d) = false
  | [] => .inl ⟨rfl, fun j h => by simp at h⟩
  | x :: l => by
    cases hx : p x with
    | true => exact .inr ⟨0, by simp, by simp [idxD, hx], hx, fun j h => absurd h (Nat.not_lt_zero j)⟩
    | false =>
      rcases idxD_iff (p := p) d (l := l) with ⟨h1, h2⟩ | ⟨i, h1, h2, h3, h4⟩
      · refine .inl ⟨by simp only [idxD, hx, Bool.false_eq_true, if_false, h1]; decide, fun j h => ?_⟩
        cases j with
        | zero => exact hx
        | succ j => exact h2 j (by simpa using h)
      · refine .inr ⟨i + 1, by simpa using h1, ?_, h3, fun j h => ?_⟩
        · simp only [idxD, hx, Bool.false_eq_true, if_false, h2]
          rw [if_neg (by omega)]; omega
        · cases j with
          | zero => exact hx
          | succ j => exact h4 j (by omega)
def sz (x : Sig) : Int := x.2.2.1
def inp (x : Sig) : Bool := x.2.1
/-- sizes within the limits -/
def Pos (l : List Sig) : Prop := ∀ x ∈ l, 2 ≤ sz x ∧ sz x ≤ 4
theorem Pos.tail {x : Sig} {l : List Sig} (h : Pos (x :: l)) : Pos l := fun y hy => h y (List.mem_cons_of_mem x hy)
theorem Pos.head {x : Sig} {l : List Sig} (h : Pos (x :: l)) : 2 ≤ sz x ∧ sz x ≤ 4 := h x (by simp)
theorem Pos.drop {l : List Sig} (h : Pos l) (k : Nat) : Pos (l.drop k) := fun y hy => h y (List.mem_of_mem_drop hy)
/-- the product of the sizes of some signals -/
def prodS (f : Sig → Bool) : List Sig → Int
  | [] => 1
  | x :: l => if f x = true then sz x * prodS f l else prodS f l
theorem two_to_four {n : Int} (h : 2 ≤ n ∧ n ≤ 4) : n = 2 ∨ n = 3 ∨ n = 4 := by omega
theorem prodS_pos {f : Sig → Bool} : ∀ {l : List Sig}, Pos l → 1 ≤ prodS f l
  | [], _ => Int.le_refl _
  | x :: l, h => by
    have ih := prodS_pos (f := f) h.tail
    simp only [prodS]
    split
    · rcases two_to_four h.head with e | e | e <;> rw [e] <;> omega
    · exact ih
/-- what a number below a product and a digit make -/
theorem mul_small {w d : Int} (hw : 0 ≤ w) (hw1 : w ≤ 4096) (hd : 0 ≤ d) (hd1 : d ≤ 4) : 0 ≤ w * d ∧ w * d ≤ 16384 := by
  have : d = 0 ∨ d = 1 ∨ d = 2 ∨ d = 3 ∨ d = 4 := by omega
  rcases this with e | e | e | e | e <;> rw [e] <;> omega
theorem digit_step {n w d s : Int} (h0 : 0 ≤ n) (h1 : n < w) (hd : 0 ≤ d) (hs : d < s) (hs2 : 2 ≤ s ∧ s ≤ 4) : 0 ≤ n + w * d ∧ n + w * d < w * s := by
  have : d = 0 ∨ d = 1 ∨ d = 2 ∨ d = 3 := by omega
  rcases this with e | e | e | e <;> rcases two_to_four hs2 with f | f | f <;> rw [e, f] <;> rw [e, f] at hs <;> first | omega | (exfalso; omega)
theorem mul_le_prod {w p q : Int} (h : w * p = q) (hw : 1 ≤ w) (hp : 1 ≤ p) : w ≤ q := by
  rw [← h]
  have := Int.mul_le_mul_of_nonneg_left hp (show 0 ≤ w by omega)
  rw [Int.mul_one] at this
  exact this
theorem mul_pos1 {w s : Int} (hw : 1 ≤ w) (hs : 2 ≤ s ∧ s ≤ 4) : 1 ≤ w * s ∧ w * s ≤ 4 * w := by
  rcases two_to_four hs with f | f | f <;> rw [f] <;> omega
/-- the digits of a letter -/
def digs : List Sig → Int → List Int
  | [], _ => []
  | x :: l, a => a % sz x :: digs l (a / sz x)
theorem digs_len : ∀ (l : List Sig) (a : Int), (digs l a).length = l.length
  | [], _ => rfl
  | x :: l, a => by simp [digs, digs_len l]
def und : List Sig → List Int → Int
  | x :: l, v :: vs => v + sz x * und l vs
  | _, _ => 0
/-- digits in range -/
def InR : List Sig → List Int → Prop
  | [], [] => True
  | x :: l, v :: vs => 0 ≤ v ∧ v < sz x ∧ InR l vs
  | _, _ => False
theorem InR.len : ∀ {l : List Sig} {vs : List Int}, InR l vs → vs.length = l.length
  | [], [], _ => rfl
  | x :: l, v :: vs, h => by simp [InR.len h.2.2]
  | [], _ :: _, h => h.elim
  | _ :: _, [], h => h.elim
theorem InR.at : ∀ {l : List Sig} {vs : List Int}, InR l vs → ∀ i, i < l.length → 0 ≤ vs.getD i 0 ∧ vs.getD i 0 < sz (l.getD i s0)
  | [], [], _, i, h => by simp at h
  | x :: l, v :: vs, h, 0, _ => ⟨h.1, h.2.1⟩
  | x :: l, v :: vs, h, i + 1, hi => by
    have := InR.at h.2.2 i (by simpa using hi)
    simpa using this
  | [], _ :: _, h, _, _ => h.elim
  | _ :: _, [], h, _, _ => h.elim
theorem InR_of : ∀ {l : List Sig} {vs : List Int}, vs.length = l.length → (∀ i, i < l.length → 0 ≤ vs.getD i 0 ∧ vs.getD i 0 < sz (l.getD i s0)) → InR l vs
  | [], [], _, _ => trivial
  | x :: l, v :: vs, h, h1 => by
    have h0 := h1 0 (by simp)
    refine ⟨h0.1, h0.2, InR_of (by simpa using h) fun i hi => ?_⟩
    have := h1 (i + 1) (by simpa using hi)
    simpa using this
  | [], _ :: _, h, _ => by simp at h
  | _ :: _, [], h, _ => by simp at h
theorem digs_in : ∀ {l : List Sig} {a : Int}, Pos l → InR l (digs l a)
  | [], _, _ => trivial
  | x :: l, a, h => by
    have hx := h.head
    exact ⟨Int.emod_nonneg _ (by omega), Int.emod_lt_of_pos _ (by omega), digs_in h.tail⟩
theorem und_range : ∀ {l : List Sig} {vs : List Int}, Pos l → InR l vs → 0 ≤ und l vs ∧ und l vs < prodS (fun _ => true) l
  | [], [], _, _ => by simp [und, prodS]
  | x :: l, v :: vs, h, hr => by
    obtain ⟨h1, h2⟩ := und_range h.tail hr.2.2
    have v1 := hr.1; have v2 := hr.2.1
    simp only [und, prodS, if_true]
    rcases two_to_four h.head with e | e | e <;> rw [e] at v2 ⊢ <;> omega
  | [], _ :: _, _, h => h.elim
  | _ :: _, [], _, h => h.elim
theorem und_digs : ∀ {l : List Sig} {a : Int}, Pos l → 0 ≤ a → a < prodS (fun _ => true) l → und l (digs l a) = a
  | [], a, _, h0, h1 => by simp [prodS] at h1; simp [und]; omega
  | x :: l, a, h, h0, h1 => by
    have hx := h.head
    simp only [prodS, if_true] at h1
    have ih := und_digs (l := l) (a := a / sz x) h.tail (by rcases two_to_four hx with e | e | e <;> rw [e] <;> omega) (by rcases two_to_four hx with e | e | e <;> rw [e] at h1 ⊢ <;> omega)
    simp only [digs, und, ih]
    exact Int.emod_add_mul_ediv a (sz x)
theorem digs_und : ∀ {l : List Sig} {vs : List Int}, Pos l → InR l vs → digs l (und l vs) = vs
  | [], [], _, _ => rfl
  | x :: l, v :: vs, h, hr => by
    have hx := h.head
    have ih := digs_und h.tail hr.2.2
    have h1 := hr.1; have h2 := hr.2.1
    simp only [und, digs]
    have e1 : (v + sz x * und l vs) % sz x = v := by
      rw [Int.add_mul_emod_self_left]; exact Int.emod_eq_of_lt h1 h2
    have e2 : (v + sz x * und l vs) / sz x = und l vs := by
      rw [Int.add_mul_ediv_left _ _ (by omega), Int.ediv_eq_zero_of_lt h1 h2, Int.zero_add]
    rw [e1, e2, ih]
  | [], _ :: _, _, h => h.elim
  | _ :: _, [], _, h => h.elim
theorem digs_inj {l : List Sig} {a b : Int} (h : Pos l) (ha : 0 ≤ a ∧ a < prodS (fun _ => true) l) (hb : 0 ≤ b ∧ b < prodS (fun _ => true) l) (e : digs l a = digs l b) : a = b := by
  rw [← und_digs h ha.1 ha.2, e, und_digs h hb.1 hb.2]
/-- the number of the digits of one side -/
def halfU (b : Bool) : List Sig → List Int → Int
  | x :: l, v :: vs => if (inp x == b) = true then v + sz x * halfU b l vs else halfU b l vs
  | _, _ => 0
theorem half_range {b : Bool} : ∀ {l : List Sig} {vs : List Int}, Pos l → InR l vs → 0 ≤ halfU b l vs ∧ halfU b l vs < prodS (fun x => inp x == b) l
  | [], [], _, _ => by simp [halfU, prodS]
  | x :: l, v :: vs, h, hr => by
    obtain ⟨h1, h2⟩ := half_range (b := b) h.tail hr.2.2
    have v1 := hr.1; have v2 := hr.2.1
    simp only [halfU, prodS]
    split
    · rcases two_to_four h.head with e | e | e <;> rw [e] at v2 ⊢ <;> omega
    · exact ⟨h1, h2⟩
  | [], _ :: _, _, h => h.elim
  | _ :: _, [], _, h => h.elim
def joinU : List Sig → Int → Int → Int
  | [], _, _ => 0
  | x :: l, i, o => if inp x = true then i % sz x + sz x * joinU l (i / sz x) o else o % sz x + sz x * joinU l i (o / sz x)
def joinV : List Sig → Int → Int → List Int
  | [], _, _ => []
  | x :: l, i, o => if inp x = true then i % sz x :: joinV l (i / sz x) o else o % sz x :: joinV l i (o / sz x)
theorem join_und : ∀ (l : List Sig) (i o : Int), joinU l i o = und l (joinV l i o)
  | [], _, _ => rfl
  | x :: l, i, o => by
    simp only [joinU, joinV]
    split
    · simp only [und, join_und l]
    · simp only [und, join_und l]
theorem joinV_in : ∀ {l : List Sig} {i o : Int}, Pos l → InR l (joinV l i o)
  | [], _, _, _ => trivial
  | x :: l, i, o, h => by
    have hx := h.head
    simp only [joinV]
    split
    · exact ⟨Int.emod_nonneg _ (by omega), Int.emod_lt_of_pos _ (by omega), joinV_in h.tail⟩
    · exact ⟨Int.emod_nonneg _ (by omega), Int.emod_lt_of_pos _ (by omega), joinV_in h.tail⟩
theorem join_in : ∀ {l : List Sig} {i o : Int}, Pos l → 0 ≤ i → i < prodS (fun x => inp x == true) l → halfU true l (joinV l i o) = i
  | [], i, o, _, h0, h1 => by simp [prodS] at h1; simp [halfU]; omega
  | x :: l, i, o, h, h0, h1 => by
    have hx := h.head
    simp only [prodS] at h1
    cases hi : inp x with
    | true =>
      simp only [hi, beq_self_eq_true, if_true] at h1
      simp only [joinV, hi, if_true, halfU, beq_self_eq_true]
      rw [join_in (l := l) (i := i / sz x) (o := o) h.tail (by rcases two_to_four hx with e | e | e <;> rw [e] <;> omega) (by rcases two_to_four hx with e | e | e <;> rw [e] at h1 ⊢ <;> omega)]
      exact Int.emod_add_mul_ediv i (sz x)
    | false =>
      simp only [hi, ft_f, Bool.false_eq_true, if_false] at h1
      simp only [joinV, hi, Bool.false_eq_true, if_false, halfU, ft_f]
      exact join_in h.tail h0 h1
theorem join_out : ∀ {l : List Sig} {i o : Int}, Pos l → 0 ≤ o → o < prodS (fun x => inp x == false) l → halfU false l (joinV l i o) = o
  | [], i, o, _, h0, h1 => by simp [prodS] at h1; simp [halfU]; omega
  | x :: l, i, o, h, h0, h1 => by
    have hx := h.head
    simp only [prodS] at h1
    cases hi : inp x with
    | false =>
      simp only [hi, beq_self_eq_true, if_true] at h1
      simp only [joinV, hi, Bool.false_eq_true, if_false, halfU, beq_self_eq_true, if_true]
      rw [join_out (l := l) (i := i) (o := o / sz x) h.tail (by rcases two_to_four hx with e | e | e <;> rw [e] <;> omega) (by rcases two_to_four hx with e | e | e <;> rw [e] at h1 ⊢ <;> omega)]
      exact Int.emod_add_mul_ediv o (sz x)
    | true =>
      simp only [hi, tb_f, Bool.false_eq_true, if_false] at h1
      simp only [joinV, hi, if_true, halfU, tb_f, Bool.false_eq_true, if_false]
      exact join_out h.tail h0 h1
theorem join_half : ∀ {l : List Sig} {vs : List Int}, Pos l → InR l vs → joinV l (halfU true l vs) (halfU false l vs) = vs
  | [], [], _, _ => rfl
  | x :: l, v :: vs, h, hr => by
    have hx := h.head
    have h1 := hr.1; have h2 := hr.2.1
    have ih := join_half h.tail hr.2.2
    have e1 : ∀ u : Int, (v + sz x * u) % sz x = v := fun u => by rw [Int.add_mul_emod_self_left]; exact Int.emod_eq_of_lt h1 h2
    have e2 : ∀ u : Int, (v + sz x * u) / sz x = u := fun u => by rw [Int.add_mul_ediv_left _ _ (by omega), Int.ediv_eq_zero_of_lt h1 h2, Int.zero_add]
    cases hi : inp x with
    | true => simp only [joinV, halfU, hi, beq_self_eq_true, if_true, tb_f, Bool.false_eq_true, if_false, e1, e2, ih]
    | false => simp only [joinV, halfU, hi, beq_self_eq_true, if_true, ft_f, Bool.false_eq_true, if_false, e1, e2, ih]
  | [], _ :: _, _, h => h.elim
  | _ :: _, [], _, h => h.elim
theorem prod_split : ∀ (l : List Sig), prodS (fun x => inp x == true) l * prodS (fun x => inp x == false) l = prodS (fun _ => true) l
  | [] => rfl
  | x :: l => by
    have ih := prod_split l
    simp only [prodS]
    rcases (by cases inp x <;> simp : inp x = true ∨ inp x = false) with hi | hi
    · simp only [hi, beq_self_eq_true, if_true, tb_f, Bool.false_eq_true, if_false, Int.mul_assoc, ih]
    · simp only [hi, beq_self_eq_true, if_true, ft_f, Bool.false_eq_true, if_false]
      rw [← ih, ← Int.mul_assoc, Int.mul_comm _ (sz x), Int.mul_assoc]
/-- equal halves: equal digits on the side -/
theorem half_eq {b : Bool} : ∀ {l : List Sig} {vs us : List Int}, Pos l → InR l vs → InR l us → (halfU b l vs = halfU b l us ↔ ∀ i, i < l.length → (inp (l.getD i s0) == b) = true → vs.getD i 0 = us.getD i 0)
  | [], [], [], _, _, _ => by simp [halfU]
  | x :: l, v :: vs, u :: us, h, hv, hu => by
    have ih := half_eq (b := b) h.tail hv.2.2 hu.2.2
    have v1 := hv.1; have v2 := hv.2.1; have u1 := hu.1; have u2 := hu.2.1
    have hx := h.head
    simp only [halfU]
    cases hi : (inp x == b) with
    | true =>
      simp only [if_true]
      constructor
      · intro e i hil hib
        have e0 : v = u ∧ halfU b l vs = halfU b l us := by
          have a1 : (v + sz x * halfU b l vs) % sz x = v := by rw [Int.add_mul_emod_self_left]; exact Int.emod_eq_of_lt v1 v2
          have a2 : (u + sz x * halfU b l us) % sz x = u := by rw [Int.add_mul_emod_self_left]; exact Int.emod_eq_of_lt u1 u2
          have b1 : (v + sz x * halfU b l vs) / sz x = halfU b l vs := by rw [Int.add_mul_ediv_left _ _ (by omega), Int.ediv_eq_zero_of_lt v1 v2, Int.zero_add]
          have b2 : (u + sz x * halfU b l us) / sz x = halfU b l us := by rw [Int.add_mul_ediv_left _ _ (by omega), Int.ediv_eq_zero_of_lt u1 u2, Int.zero_add]
          rw [e] at a1 b1
          exact ⟨a1.symm.trans a2, b1.symm.trans b2⟩
        cases i with
        | zero => exact e0.1
        | succ i => exact ih.1 e0.2 i (by simpa using hil) hib
      · intro hall
        have e0 : v = u := hall 0 (by simp) hi
        have e1 := ih.2 fun i hil hib => hall (i + 1) (by simpa using hil) hib
        rw [e0, e1]
    | false =>
      simp only [Bool.false_eq_true, if_false]
      rw [ih]
      constructor
      · intro hall i hil hib
        cases i with
        | zero =>
          have hib : (inp x == b) = true := hib
          rw [hi] at hib; simp at hib
        | succ i => exact hall i (by simpa using hil) hib
      · intro hall i hil hib
        exact hall (i + 1) (by simpa using hil) hib
  | [], _ :: _, _, _, h, _ => h.elim
  | _ :: _, [], _, _, h, _ => h.elim
  | [], [], _ :: _, _, _, h => h.elim
  | _ :: _, _ :: _, [], _, _, h => h.elim
end Sg
end Go.Proofs.YtlkgkjpnphdhdaaDoor
/-
  Signals: the names.
-/
namespace Go.Proofs.YtlkgkjpnphdhdaaDoor
open Go.RowKit Sg

def kwText : List UInt8 := [105, 110, 112, 117, 116, 32, 111, 117, 116, 112, 117, 116, 32, 112, 97, 114, 116, 32, 97, 115, 115, 117, 109, 101, 32, 103, 117, 97, 114, 97, 110, 116, 101, 101, 32, 116, 114, 117, 101, 32, 102, 97, 108, 115, 101, 32, 97, 100, 100, 32, 100, 114, 111, 112, 32, 114, 101, 112, 108, 97, 99, 101]
def kwL : List (List UInt8) := [[105, 110, 112, 117, 116], [111, 117, 116, 112, 117, 116], [112, 97, 114, 116], [97, 115, 115, 117, 109, 101], [103, 117, 97, 114, 97, 110, 116, 101, 101], [116, 114, 117, 101], [102, 97, 108, 115, 101], [97, 100, 100], [100, 114, 111, 112], [114, 101, 112, 108, 97, 99, 101]]
theorem kw_fields : Lib.fields kwText = kwL := by decide
theorem glob_cells {F : Mem} (hg : GlobOk tT F) (c : Nat) (hc : c < 256) : F ⟨0, c, none⟩ = some (.int .u8 (if Lib.isSp (UInt8.ofNat c) then 1 else 0)) := by
  obtain ⟨b, off, us, e1, e2, e3⟩ := hg 0 ⟨.arr 256 (.int .u8), Lib.asciiSpaceTab⟩ (by rfl)
  simp only [Value.pointer.injEq, Option.some.injEq, Addr.mk.injEq, and_true] at e1
  obtain ⟨rfl, rfl⟩ := e1
  obtain ⟨h1, h2, _, h4⟩ := e3
  have hl : c < List.length Lib.asciiSpaceTab := by rw [Lib.asciiSpaceTab_length]; exact hc
  have h5 : (us.drop (c * 1)).take 1 = [.int .u8 ((Lib.asciiSpaceTab).get ⟨c, hl⟩)] := (h4 c hl).1
  have h6 : us[c]? = some (.int .u8 ((Lib.asciiSpaceTab).get ⟨c, hl⟩)) := by
    have : ((us.drop (c * 1)).take 1)[0]? = us[c]? := by simp
    rw [← this, h5]; rfl
  have h7 := e2 c _ h6
  rw [Nat.zero_add] at h7
  rw [h7]
  have h8 := Lib.asciiSpaceTab_at c hc
  have h9 : Lib.asciiSpaceTab.get ⟨c, hl⟩ = Lib.asciiSpaceTab.getD c 0 := by simp [List.getD_eq_getElem?_getD, hl]
  rw [h9, h8]
theorem cp_Fields : CallP Tryd.prog tT 37 [.d .str kwText] strsT kwL := by
  refine callP_newG ⟨fun _ _ => by kernel_rfl⟩ fun F w vs hg hs hr => ?_
  obtain ⟨v, rfl, hv⟩ := hr.one
  obtain ⟨e, _⟩ := hv
  have e : v = .string ⟨kwText.toArray⟩ := by simpa using e
  subst e
  have hc := Any.strings_Fields_core shelf157 (by kernel_rfl) ⟨kwText.toArray⟩ w (by decide) (by
    intro j b hb
    have : b ∈ kwText := List.mem_of_getElem? hb
    have hall : ∀ b ∈ kwText, b.toNat < 128 := by decide
    exact hall b this) fun c hc => hs _ _ (glob_cells hg c hc)
  refine hc.mono ?_
  rintro e w' ⟨rfl, rfl⟩
  have ek : Lib.fields (ByteArray.mk kwText.toArray).data.toList = kwL := kw_fields
  rw [ek]
  refine ⟨_, rfl, ?_, Below.alloc (Below.refl _ _) (Nat.le_refl _) _⟩
  refine ⟨some ⟨w.heap.size, 0, none⟩, kwL.length, rfl, Nat.le_refl _, by decide, fun i hi => ⟨w.heap.size, 0, [.string ⟨(kwL.get ⟨i, hi⟩).toArray⟩], rfl, fun j u hj => ?_, ⟨rfl, ?_⟩⟩⟩
  · have hj0 : j = 0 := by
      rcases Nat.eq_zero_or_pos j with h | h
      · exact h
      · rw [List.getElem?_eq_none (by simp only [List.length_singleton]; omega)] at hj; simp at hj
    subst hj0
    simp only [List.getElem?_cons_zero, Option.some.injEq] at hj
    subst hj
    have e0 : 0 + (i * Ty.str.sz + 0) = i := by show 0 + (i * 1 + 0) = i; omega
    rw [e0]
    unfold newB
    rw [if_pos (Nat.le_refl _), cell_of_row _ w.heap.size i _ _ (0, 0) (heap_alloc_new w _)]
    simp [hi]
  · have hall : ∀ l ∈ kwL, l.length ≤ 9 := by decide
    have h1 := hall _ (List.get_mem kwL ⟨i, hi⟩)
    have h2 : (9 : Nat) ≤ maxLen := by decide
    exact Nat.le_trans h1 h2
end Go.Proofs.YtlkgkjpnphdhdaaDoor
/-
  Signals: names, Find.
-/
namespace Go.Proofs.YtlkgkjpnphdhdaaDoor
open Go.RowKit Sg

theorem len64 {α : Type} {l : List α} (h : l.length ≤ maxLen) : ((l.length : Nat) : Int) ≤ 9223372036854775807 := by
  unfold maxLen at h; omega
theorem cp_Index (s : List (List UInt8)) (v : List UInt8) : CallP Tryd.prog tT 51 [.d strsT s, .d .str v] intT (idxD (fun x => decide (v = x)) s) := by
  refine sf51 s v _ fun R hR ws _ => ?_
  have hl := len64 ws.1
  refine ⟨fun x => ∃ i : Nat, x.1 = i ∧ ∀ j, j < i → decide (v = s.getD j []) = false, fun x => s.length - x.1.toNat, ⟨0, rfl, fun j hj => absurd hj (Nat.not_lt_zero j)⟩, ?_⟩
  rintro ⟨iz, u⟩ _ ⟨i, e1, hj⟩
  simp only at e1
  subst e1
  simp only [Int.toNat_natCast]
  refine ⟨fun hlt => ⟨by omega, fun h => (hR _).2 ?_, fun h => ⟨inK64 (by omega) (by omega), ⟨i + 1, by simp, fun j hj' => ?_⟩, ?_⟩⟩, fun hge => (hR _).2 ?_⟩
  · exact (idxD_some [] (by omega) hj (decide_eq_true h)).symm
  · rcases Nat.lt_or_ge j i with h4 | h4
    · exact hj j h4
    · have : j = i := by omega
      rw [this]; exact decide_eq_false h
  · show s.length - Int.toNat ((i : Int) + 1) < s.length - i
    omega
  · exact (idxD_none [] fun j h => hj j (by omega)).symm
def hasD (l : List (List UInt8)) (s : List UInt8) : Bool := l.any fun x => decide (s = x)
theorem has_idx (l : List (List UInt8)) (s : List UInt8) : decide ((0 : Int) ≤ idxD (fun x => decide (s = x)) l) = hasD l s := by
  unfold hasD
  induction l with
  | nil => rfl
  | cons x l ih =>
    simp only [idxD, List.any_cons]
    by_cases hx : s = x
    · simp [hx]
    · simp only [decide_eq_false hx, Bool.false_eq_true, if_false, Bool.false_or]
      rw [← ih]
      split
      · rename_i h
        rw [decide_eq_false (by omega : ¬ (0 : Int) ≤ -1), decide_eq_false (by omega : ¬ (0 : Int) ≤ idxD (fun x => decide (s = x)) l)]
      · rename_i h
        rw [decide_eq_true (by omega : (0 : Int) ≤ idxD (fun x => decide (s = x)) l), decide_eq_true (by omega : (0 : Int) ≤ idxD (fun x => decide (s = x)) l + 1)]
theorem cp_Contains (s : List (List UInt8)) (v : List UInt8) : CallP Tryd.prog tT 36 [.d strsT s, .d .str v] .bool (hasD s v) :=
  of36 s v _ fun R hR _ _ => ⟨_, cp_Index s v, (hR _).2 (has_idx s v)⟩
theorem cp_In (l : List (List UInt8)) (s : List UInt8) : CallP Tryd.prog tT 38 [.d strsT l, .d .str s] .bool (hasD l s) := by
  refine sf38 l s _ fun R hR ws _ => ?_
  have hl := len64 ws.1
  refine ⟨fun x => ∃ i : Nat, x.1 = i ∧ ∀ j, j < i → decide (s = l.getD j []) = false, fun x => l.length - x.1.toNat, ⟨0, rfl, fun j hj => absurd hj (Nat.not_lt_zero j)⟩, ?_⟩
  rintro ⟨iz, u⟩ _ ⟨i, e1, hj⟩
  simp only at e1
  subst e1
  simp only [Int.toNat_natCast]
  refine ⟨fun hlt => ⟨by omega, fun h => (hR _).2 ?_, fun h => ⟨inK64 (by omega) (by omega), ⟨i + 1, by simp, fun j hj' => ?_⟩, ?_⟩⟩, fun hge => (hR _).2 ?_⟩
  · rw [← has_idx, idxD_some [] (by omega) hj (decide_eq_true h.symm)]
    exact (decide_eq_true (by omega)).symm
  · rcases Nat.lt_or_ge j i with h4 | h4
    · exact hj j h4
    · have : j = i := by omega
      rw [this]; exact decide_eq_false fun e => h e.symm
  · show l.length - Int.toNat ((i : Int) + 1) < l.length - i
    omega
  · rw [← has_idx, idxD_none [] fun j h => hj j (by omega)]; rfl
theorem cp_Keywords : CallP Tryd.prog tT 39 [] strsT kwL := of39 _ fun R hR => (hR _).2 rfl
def smallB (b : UInt8) : Bool := decide ((97 : Int) ≤ ((b.toNat : Nat) : Int)) && decide (((b.toNat : Nat) : Int) ≤ (122 : Int))
def digitB (b : UInt8) : Bool := decide ((48 : Int) ≤ ((b.toNat : Nat) : Int)) && decide (((b.toNat : Nat) : Int) ≤ (57 : Int))
def wordB (b : UInt8) : Bool := smallB b || digitB b || decide (((b.toNat : Nat) : Int) = 95)
/-- a name -/
def nameD (s : List UInt8) : Bool := decide (0 < s.length) && decide (s.length ≤ 12) && !hasD kwL s && smallB (s.getD 0 0) && s.all wordB
theorem bytesI_len (s : List UInt8) : (bytesI s).length = s.length := by simp [bytesI]
theorem bytesI_at {s : List UInt8} {i : Nat} (h : i < s.length) : (bytesI s).getD i 0 = (((s.getD i 0).toNat : Nat) : Int) := by
  simp [bytesI, List.getD_eq_getElem?_getD, h]
theorem all_of {α : Type} {l : List α} {p : α → Bool} (d : α) (h : ∀ j, j < l.length → p (l.getD j d) = true) : l.all p = true := by
  rw [List.all_eq_true]
  intro x hx
  obtain ⟨j, hj, rfl⟩ := List.getElem_of_mem hx
  have := h j hj
  rwa [show l.getD j d = l[j] by simp [List.getD_eq_getElem?_getD, hj]] at this
theorem all_not {α : Type} {l : List α} {p : α → Bool} (d : α) {j : Nat} (hj : j < l.length) (h : p (l.getD j d) = false) : l.all p = false := by
  cases ha : l.all p with
  | false => rfl
  | true =>
    rw [List.all_eq_true] at ha
    have := ha _ (getD_mem d hj)
    rw [h] at this; exact this.symm
theorem all_at {α : Type} {l : List α} {p : α → Bool} (d : α) {j : Nat} (hj : j < l.length) (h : l.all p = true) : p (l.getD j d) = true := by
  rw [List.all_eq_true] at h
  exact h _ (getD_mem d hj)
theorem cp_Name (s : List UInt8) : CallP Tryd.prog tT 15 [.d .str s] .bool (nameD s) := by
  refine sf15 s _ fun R hR ws => ⟨kwL, fun _ _ => cp_Fields, hasD kwL s, fun _ _ => cp_Contains kwL s, fun h _ _ => ?_, fun h => (hR _).2 ?_, fun h1 h2 h3 h4 h5 => ?_⟩
  · have := List.length_pos_iff.2 h; omega
  · symm
    show nameD s = false
    unfold nameD smallB
    rcases h with (((h | h) | h) | h) | h
    · subst h; rfl
    · rw [decide_eq_false (by omega : ¬ s.length ≤ 12)]; simp
    · rw [h]; simp
    · have h : (((s.getD 0 0).toNat : Nat) : Int) < 97 := h
      rw [decide_eq_false (by omega : ¬ (97 : Int) ≤ (((s.getD 0 0).toNat : Nat) : Int))]; simp
    · have h : (122 : Int) < (((s.getD 0 0).toNat : Nat) : Int) := h
      rw [decide_eq_false (by omega : ¬ (((s.getD 0 0).toNat : Nat) : Int) ≤ 122)]; simp
  · have h0 := List.length_pos_iff.2 h1
    have hs : smallB (s.getD 0 0) = true := by
      have h4' : (97 : Int) ≤ (((s.getD 0 0).toNat : Nat) : Int) := h4
      have h5' : (((s.getD 0 0).toNat : Nat) : Int) ≤ (122 : Int) := h5
      unfold smallB
      rw [decide_eq_true h4', decide_eq_true h5']; rfl
    have hn : nameD s = s.all wordB := by
      unfold nameD
      rw [decide_eq_true h0, decide_eq_true (by omega : s.length ≤ 12), h3, hs]; rfl
    simp only [bytesI_len]
    refine ⟨fun x => ∃ i : Nat, x.2.1 = i ∧ x.1 = true ∧ ∀ j, j < i → wordB (s.getD j 0) = true, fun x => s.length - x.2.1.toNat, ⟨0, rfl, rfl, fun j hj => absurd hj (Nat.not_lt_zero j)⟩, ?_⟩
    rintro ⟨ok, iz, u⟩ _ ⟨i, e1, e2, hj⟩
    simp only at e1 e2
    subst e1 e2
    simp only [Int.toNat_natCast]
    have step : (i : Int) < ((s.length : Nat) : Int) → wordB (s.getD i 0) = true → inK .i64 ((i : Int) + 1) ∧ (∃ k : Nat, (i : Int) + 1 = (k : Int) ∧ True ∧ ∀ j, j < k → wordB (s.getD j 0) = true) ∧ s.length - ((i : Int) + 1).toNat < s.length - i := by
      intro hlt hw
      refine ⟨inK64 (by omega) (by omega), ⟨i + 1, by simp, trivial, fun j hj' => ?_⟩, by omega⟩
      rcases Nat.lt_or_ge j i with h6 | h6
      · exact hj j h6
      · have : j = i := by omega
        rw [this]; exact hw
    have bad : (i : Int) < ((s.length : Nat) : Int) → wordB (s.getD i 0) = false → R false := by
      intro hlt hw
      exact (hR _).2 (by rw [hn]; exact (all_not 0 (by omega) hw).symm)
    refine ⟨fun hlt => ?_, fun hge => (hR _).2 ?_⟩
    · rw [bytesI_at (by omega)]
      generalize hb : s.getD i 0 = b at step bad
      refine ⟨by omega, fun g1 g2 => ⟨fun _ _ => step hlt ?_, fun hc => absurd hc (by omega)⟩, fun g1 => ⟨fun g2 g3 => ⟨fun _ _ => step hlt ?_, fun hc => absurd hc (by omega)⟩, fun g2 => ⟨fun g3 => step hlt ?_, fun g3 => bad hlt ?_⟩⟩⟩
      · unfold wordB smallB; rw [decide_eq_true g1, decide_eq_true g2]; rfl
      · unfold wordB digitB; rw [decide_eq_true g2, decide_eq_true g3]; simp
      · unfold wordB; rw [decide_eq_true g3]; simp
      · unfold wordB smallB digitB
        rw [decide_eq_false g3]
        rcases g1 with g1 | g1 <;> rcases g2 with g2 | g2
        · rw [decide_eq_false (by omega : ¬ (97 : Int) ≤ ((b.toNat : Nat) : Int)), decide_eq_false (by omega : ¬ (48 : Int) ≤ ((b.toNat : Nat) : Int))]; rfl
        · rw [decide_eq_false (by omega : ¬ (97 : Int) ≤ ((b.toNat : Nat) : Int)), decide_eq_false (by omega : ¬ ((b.toNat : Nat) : Int) ≤ (57 : Int))]; simp
        · rw [decide_eq_false (by omega : ¬ ((b.toNat : Nat) : Int) ≤ (122 : Int)), decide_eq_false (by omega : ¬ (48 : Int) ≤ ((b.toNat : Nat) : Int))]; simp
        · rw [decide_eq_false (by omega : ¬ ((b.toNat : Nat) : Int) ≤ (122 : Int)), decide_eq_false (by omega : ¬ ((b.toNat : Nat) : Int) ≤ (57 : Int))]; simp
    · rw [hn]
      exact (all_of 0 fun j h => hj j (by omega)).symm
theorem cp_rName (s : List UInt8) : CallP Tryd.prog tT 16 [.d .str s] .bool (nameD s) := by
  refine sf16 s _ fun R hR ws => ⟨kwL, fun _ _ => cp_Keywords, hasD kwL s, fun _ _ => cp_In kwL s, fun h => (hR _).2 ?_, fun h1 h2 h3 => ?_⟩
  · symm
    show nameD s = false
    unfold nameD
    rcases h with (h | h) | h
    · rw [decide_eq_false (by omega : ¬ 0 < s.length)]; rfl
    · rw [decide_eq_false (by omega : ¬ s.length ≤ 12)]; simp
    · rw [h]; simp
  · have hn : nameD s = (smallB (s.getD 0 0) && s.all wordB) := by
      unfold nameD
      rw [decide_eq_true (by omega : 0 < s.length), decide_eq_true (by omega : s.length ≤ 12), h3]; rfl
    refine ⟨fun x => ∃ i : Nat, x.1 = i ∧ (∀ j, j < i → wordB (s.getD j 0) = true) ∧ (0 < i → smallB (s.getD 0 0) = true), fun x => s.length - x.1.toNat, ⟨0, rfl, fun j hj => absurd hj (Nat.not_lt_zero j), fun h => absurd h (Nat.lt_irrefl 0)⟩, ?_⟩
    rintro ⟨iz, u⟩ _ ⟨i, e1, hj, h0⟩
    simp only at e1
    subst e1
    simp only [Int.toNat_natCast]
    refine ⟨fun hlt => ⟨by omega, fun g1 g2 => (hR _).2 ?_, fun g => ⟨inK64 (by omega) (by omega), ⟨i + 1, by simp, fun j hj' => ?_, fun _ => ?_⟩, ?_⟩⟩, fun hge => (hR _).2 ?_⟩
    · rw [hn]
      rcases g2 with g2 | ⟨g2, g3⟩
      · have hi : i = 0 := by omega
        subst hi
        have : smallB (s.getD 0 0) = false := by
          unfold smallB
          rcases g1 with g1 | g1
          · rw [decide_eq_false (by omega : ¬ (97 : Int) ≤ _)]; rfl
          · rw [decide_eq_false (by omega : ¬ _ ≤ (122 : Int))]; simp
        rw [this]; rfl
      · have : wordB (s.getD i 0) = false := by
          unfold wordB smallB digitB
          generalize s.getD i 0 = b at g1 g2 g3
          rw [decide_eq_false g3]
          rcases g1 with g1 | g1 <;> rcases g2 with g2 | g2
          · rw [decide_eq_false (by omega : ¬ (97 : Int) ≤ ((b.toNat : Nat) : Int)), decide_eq_false (by omega : ¬ (48 : Int) ≤ ((b.toNat : Nat) : Int))]; rfl
          · rw [decide_eq_false (by omega : ¬ (97 : Int) ≤ ((b.toNat : Nat) : Int)), decide_eq_false (by omega : ¬ ((b.toNat : Nat) : Int) ≤ (57 : Int))]; simp
          · rw [decide_eq_false (by omega : ¬ ((b.toNat : Nat) : Int) ≤ (122 : Int)), decide_eq_false (by omega : ¬ (48 : Int) ≤ ((b.toNat : Nat) : Int))]; simp
          · rw [decide_eq_false (by omega : ¬ ((b.toNat : Nat) : Int) ≤ (122 : Int)), decide_eq_false (by omega : ¬ ((b.toNat : Nat) : Int) ≤ (57 : Int))]; simp
        rw [all_not 0 (by omega : i < s.length) this]; simp
    · rcases Nat.lt_or_ge j i with h6 | h6
      · exact hj j h6
      · have : j = i := by omega
        rw [this]
        unfold wordB smallB digitB
        generalize s.getD i 0 = b at g
        rcases g with ⟨g1, g2⟩ | ⟨_, ⟨g1, g2⟩ | g1⟩
        · rw [decide_eq_true g1, decide_eq_true g2]; rfl
        · rw [decide_eq_true g1, decide_eq_true g2]; simp
        · rw [decide_eq_true g1]; simp
    · rcases Nat.eq_zero_or_pos i with h6 | h6
      · subst h6
        rcases g with ⟨g1, g2⟩ | ⟨g1, _⟩
        · unfold smallB
          rw [decide_eq_true g1, decide_eq_true g2]; rfl
        · exact absurd rfl g1
      · exact h0 h6
    · show s.length - Int.toNat ((i : Int) + 1) < s.length - i
      omega
    · rw [hn, h0 (by omega), all_of (p := wordB) 0 fun j h => hj j (by omega)]; rfl
/-- the index of the signal with a name, or -1 -/
def findD (l : List Sig) (n : List UInt8) : Int := idxD (fun x => decide (x.1 = n)) l
theorem cp_find1 (x : Sig) (n : List UInt8) : CallP Tryd.prog tT 41 [.d sigT x, .kp .str n] .bool (decide (x.1 = n)) := by
  refine of41 x n _ fun R hR _ => (hR _).2 rfl
theorem cp_IndexFunc (l : List Sig) (n : List UInt8) : CallP Tryd.prog tT 40 [.d sigsT l, .fn 41 [.kp .str n]] intT (findD l n) := by
  refine sf40 l n _ fun R hR ws => ?_
  have hl := len64 ws.1
  refine ⟨fun x => ∃ i : Nat, x.1 = i ∧ ∀ j, j < i → decide ((l.getD j s0).1 = n) = false, fun x => l.length - x.1.toNat, ⟨0, rfl, fun j hj => absurd hj (Nat.not_lt_zero j)⟩, ?_⟩
  rintro ⟨iz, u⟩ _ ⟨i, e1, hj⟩
  simp only at e1
  subst e1
  simp only [Int.toNat_natCast]
  refine ⟨fun hlt => ⟨by omega, _, cp_find1 _ _, fun h => (hR _).2 ?_, fun h => ⟨inK64 (by omega) (by omega), ⟨i + 1, by simp, fun j hj' => ?_⟩, ?_⟩⟩, fun hge => (hR _).2 ?_⟩
  · exact (idxD_some (p := fun x => decide (x.1 = n)) s0 (by omega) hj h).symm
  · rcases Nat.lt_or_ge j i with h4 | h4
    · exact hj j h4
    · have : j = i := by omega
      rw [this]; exact h
  · show l.length - Int.toNat ((i : Int) + 1) < l.length - i
    omega
  · exact (idxD_none (p := fun x => decide (x.1 = n)) s0 fun j h => hj j (by omega)).symm
theorem cp_Find (l : List Sig) (n : List UInt8) : CallP Tryd.prog tT 17 [.d sigsT l, .d .str n] intT (findD l n) :=
  of17 l n _ fun R hR _ _ => ⟨_, cp_IndexFunc l n, (hR _).2 rfl⟩
theorem cp_rFind (l : List Sig) (n : List UInt8) : CallP Tryd.prog tT 18 [.d sigsT l, .d .str n] intT (findD l n) := by
  refine sf18 l n _ fun R hR ws _ => ?_
  have hl := len64 ws.1
  refine ⟨fun x => ∃ i : Nat, x.1 = i ∧ ∀ j, j < i → decide ((l.getD j s0).1 = n) = false, fun x => l.length - x.1.toNat, ⟨0, rfl, fun j hj => absurd hj (Nat.not_lt_zero j)⟩, ?_⟩
  rintro ⟨iz, u⟩ _ ⟨i, e1, hj⟩
  simp only at e1
  subst e1
  simp only [Int.toNat_natCast]
  refine ⟨fun hlt => ⟨by omega, fun h => (hR _).2 ?_, fun h => ⟨inK64 (by omega) (by omega), ⟨i + 1, by simp, fun j hj' => ?_⟩, ?_⟩⟩, fun hge => (hR _).2 ?_⟩
  · exact (idxD_some (p := fun x => decide (x.1 = n)) s0 (by omega) hj (decide_eq_true h)).symm
  · rcases Nat.lt_or_ge j i with h4 | h4
    · exact hj j h4
    · have : j = i := by omega
      rw [this]; exact decide_eq_false h
  · show l.length - Int.toNat ((i : Int) + 1) < l.length - i
    omega
  · exact (idxD_none (p := fun x => decide (x.1 = n)) s0 fun j h => hj j (by omega)).symm
end Go.Proofs.YtlkgkjpnphdhdaaDoor
/-
  Signals: Valid, the numbers of letters, inputs and outputs.
-/
namespace Go.Proofs.YtlkgkjpnphdhdaaDoor
open Go.RowKit Sg

def okAt (l : List Sig) (i : Nat) : Bool := nameD (l.getD i s0).1 && decide (findD l (l.getD i s0).1 = (i : Int)) && decide (2 ≤ sz (l.getD i s0)) && decide (sz (l.getD i s0) ≤ 4)
/-- well-formed signals -/
def validD (l : List Sig) : Bool := decide (0 < l.length) && decide (l.length ≤ 6) && (List.range l.length).all (okAt l) && decide (prodS (fun _ => true) l ≤ 64)
theorem okAt_parts {l : List Sig} {i : Nat} (h : okAt l i = true) : nameD (l.getD i s0).1 = true ∧ findD l (l.getD i s0).1 = (i : Int) ∧ 2 ≤ sz (l.getD i s0) ∧ sz (l.getD i s0) ≤ 4 := by
  unfold okAt at h
  simpa [and_assoc] using h
theorem okAt_of {l : List Sig} {i : Nat} (h1 : nameD (l.getD i s0).1 = true) (h2 : findD l (l.getD i s0).1 = (i : Int)) (h3 : 2 ≤ sz (l.getD i s0)) (h4 : sz (l.getD i s0) ≤ 4) : okAt l i = true := by
  unfold okAt
  rw [h1, decide_eq_true h2, decide_eq_true h3, decide_eq_true h4]; rfl
structure ValidL (l : List Sig) : Prop where
  pos : 0 < l.length
  few : l.length ≤ 6
  ok : ∀ i, i < l.length → okAt l i = true
  prod : prodS (fun _ => true) l ≤ 64
theorem valid_iff {l : List Sig} : validD l = true ↔ ValidL l := by
  unfold validD
  constructor
  · intro h
    simp only [Bool.and_eq_true, decide_eq_true_iff, List.all_eq_true, List.mem_range] at h
    exact ⟨h.1.1.1, h.1.1.2, h.1.2, h.2⟩
  · intro h
    simp only [Bool.and_eq_true, decide_eq_true_iff, List.all_eq_true, List.mem_range]
    exact ⟨⟨⟨h.pos, h.few⟩, h.ok⟩, h.prod⟩
theorem valid_false {l : List Sig} (h : ¬ ValidL l) : validD l = false := by
  cases hv : validD l with
  | false => rfl
  | true => exact absurd (valid_iff.1 hv) h
theorem ValidL.szs {l : List Sig} (h : ValidL l) : Pos l := by
  intro x hx
  obtain ⟨i, hi, rfl⟩ := List.getElem_of_mem hx
  obtain ⟨_, _, h1, h2⟩ := okAt_parts (h.ok i hi)
  rw [show l.getD i s0 = l[i] by simp [List.getD_eq_getElem?_getD, hi]] at h1 h2
  exact ⟨h1, h2⟩
theorem pow4 {i : Nat} (h : i ≤ 6) : 4 ^ i ≤ 4096 := by
  have := Nat.pow_le_pow_right (show 0 < 4 by omega) h
  simpa using this
theorem prod_drop {f : Sig → Bool} {l : List Sig} {i : Nat} (h : i < l.length) : prodS f (l.drop i) = if f (l.getD i s0) = true then sz (l.getD i s0) * prodS f (l.drop (i + 1)) else prodS f (l.drop (i + 1)) := by
  rw [drop_at s0 h]; rfl
theorem drop_all {α : Type} {l : List α} {i : Nat} (h : l.length ≤ i) : l.drop i = [] := List.drop_eq_nil_iff.2 h
theorem cp_Valid (l : List Sig) : CallP Tryd.prog tT 13 [.d sigsT l] .bool (validD l) := by
  refine sf13 l _ fun R hR wl => ?_
  have hl := len64 wl.1
  refine ⟨fun x => ∃ i : Nat, x.2.1 = i ∧ i ≤ l.length ∧ i ≤ 6 ∧ (∀ j, j < i → okAt l j = true) ∧ 1 ≤ x.1 ∧ x.1 ≤ ((4 ^ i : Nat) : Int) ∧ x.1 * prodS (fun _ => true) (l.drop i) = prodS (fun _ => true) l, fun x => l.length - x.2.1.toNat,
    ⟨0, rfl, Nat.zero_le _, by omega, fun j hj => absurd hj (Nat.not_lt_zero j), Int.le_refl _, by decide, by simp⟩, ?_⟩
  rintro ⟨n, iz, u⟩ _ ⟨i, e1, hil, hi6, hj, hn1, hn2, hp⟩
  simp only at e1 hn1 hn2 hp
  subst e1
  simp only [Int.toNat_natCast]
  refine ⟨fun hlt => ⟨by omega, _, fun _ => cp_Name _, _, fun _ _ => cp_Find l _, fun h => (hR _).2 ?_, fun h1 h2 h3 h4 h5 => ?_⟩, fun hge => (hR _).2 ?_⟩
  · symm
    apply valid_false
    intro hv
    obtain ⟨g1, g2, g3, g4⟩ := okAt_parts (hv.ok i (by omega))
    have := hv.few
    rcases h with (((h | h) | h) | h) | h
    · omega
    · rw [g1] at h; simp at h
    · exact h g2
    · have h : sz (l.getD i s0) < 2 := h
      omega
    · have h : 4 < sz (l.getD i s0) := h
      omega
  · have hs : 2 ≤ sz (l.getD i s0) ∧ sz (l.getD i s0) ≤ 4 := ⟨h4, h5⟩
    have h4i := pow4 (show i + 1 ≤ 6 by omega)
    have e4 : 4 ^ (i + 1) = 4 ^ i * 4 := Nat.pow_succ ..
    obtain ⟨q1, q2⟩ := mul_pos1 hn1 hs
    rw [prod_drop (by omega), if_pos rfl, ← Int.mul_assoc] at hp
    refine ⟨inK64 (by show _ ≤ n * sz (l.getD i s0); omega) (by show n * sz (l.getD i s0) ≤ _; omega), inK64 (by omega) (by omega), ⟨i + 1, by simp, by omega, by omega, fun j hj' => ?_, q1, by show n * sz (l.getD i s0) ≤ _; omega, hp⟩, ?_⟩
    · rcases Nat.lt_or_ge j i with h6 | h6
      · exact hj j h6
      · have : j = i := by omega
        rw [this]
        exact okAt_of h2 h3 hs.1 hs.2
    · show l.length - Int.toNat ((i : Int) + 1) < l.length - i
      omega
  · have hie : i = l.length := by omega
    rw [drop_all (by omega)] at hp
    simp only [prodS, Int.mul_one] at hp
    rw [hp]
    have hall : (List.range l.length).all (okAt l) = true := by
      rw [List.all_eq_true]
      intro j hj'
      exact hj j (by have := List.mem_range.1 hj'; omega)
    unfold validD
    rw [hall, decide_eq_true (by omega : l.length ≤ 6)]
    by_cases h0 : 0 < l.length
    · rw [decide_eq_true h0, decide_eq_true (show (0 : Int) < ((List.length l : Nat) : Int) by omega)]; rfl
    · rw [decide_eq_false h0, decide_eq_false (show ¬ (0 : Int) < ((List.length l : Nat) : Int) by omega)]; rfl
theorem cp_rValid (l : List Sig) : CallP Tryd.prog tT 14 [.d sigsT l] .bool (validD l) := by
  refine sf14 l _ fun R hR wl => ⟨fun h => (hR _).2 ?_, fun h1 h2 => ?_⟩
  · symm
    apply valid_false
    intro hv
    have := hv.pos
    have := hv.few
    rcases h with h | h <;> omega
  · refine ⟨fun x => ∃ i : Nat, x.2.1 = i ∧ i ≤ l.length ∧ (∀ j, j < i → okAt l j = true) ∧ 1 ≤ x.1 ∧ x.1 ≤ ((4 ^ i : Nat) : Int) ∧ x.1 * prodS (fun _ => true) (l.drop i) = prodS (fun _ => true) l, fun x => l.length - x.2.1.toNat,
      ⟨0, rfl, Nat.zero_le _, fun j hj => absurd hj (Nat.not_lt_zero j), Int.le_refl _, by decide, by simp⟩, ?_⟩
    rintro ⟨n, iz, u⟩ _ ⟨i, e1, hil, hj, hn1, hn2, hp⟩
    simp only at e1 hn1 hn2 hp
    subst e1
    simp only [Int.toNat_natCast]
    refine ⟨fun hlt => ⟨by omega, _, cp_rName _, _, fun _ => cp_rFind l _, fun h => (hR _).2 ?_, fun h2 h3 h4 h5 => ?_⟩, fun hge => (hR _).2 ?_⟩
    · symm
      apply valid_false
      intro hv
      obtain ⟨g1, g2, g3, g4⟩ := okAt_parts (hv.ok i (by omega))
      rcases h with ((h | h) | h) | h
      · rw [g1] at h; simp at h
      · exact h g2
      · have h : sz (l.getD i s0) < 2 := h
        omega
      · have h : 4 < sz (l.getD i s0) := h
        omega
    · have hs : 2 ≤ sz (l.getD i s0) ∧ sz (l.getD i s0) ≤ 4 := ⟨h4, h5⟩
      have h4i := pow4 (show i + 1 ≤ 6 by omega)
      have e4 : 4 ^ (i + 1) = 4 ^ i * 4 := Nat.pow_succ ..
      obtain ⟨q1, q2⟩ := mul_pos1 hn1 hs
      rw [prod_drop (by omega), if_pos rfl, ← Int.mul_assoc] at hp
      refine ⟨inK64 (by show _ ≤ n * sz (l.getD i s0); omega) (by show n * sz (l.getD i s0) ≤ _; omega), inK64 (by omega) (by omega), ⟨i + 1, by simp, by omega, fun j hj' => ?_, q1, by show n * sz (l.getD i s0) ≤ _; omega, hp⟩, ?_⟩
      · rcases Nat.lt_or_ge j i with h6 | h6
        · exact hj j h6
        · have : j = i := by omega
          rw [this]
          exact okAt_of h2 h3 hs.1 hs.2
      · show l.length - Int.toNat ((i : Int) + 1) < l.length - i
        omega
    · have hie : i = l.length := by omega
      rw [drop_all (by omega)] at hp
      simp only [prodS, Int.mul_one] at hp
      rw [hp]
      have hall : (List.range l.length).all (okAt l) = true := by
        rw [List.all_eq_true]
        intro j hj'
        exact hj j (by have := List.mem_range.1 hj'; omega)
      unfold validD
      rw [hall, decide_eq_true (by omega : l.length ≤ 6), decide_eq_true (by omega : 0 < l.length)]; rfl
/-- the product of the sizes on a side, or 0 -/
def cntD (f : Sig → Bool) (l : List Sig) : Int := if validD l = true then prodS f l else 0
def lettersD (l : List Sig) : Int := cntD (fun _ => true) l
def sideD (b : Bool) (l : List Sig) : Int := cntD (fun x => inp x == b) l
theorem cnt_step {f : Sig → Bool} {l : List Sig} (hv : ValidL l) {i : Nat} (hi : i < l.length) {n : Int} (hn : 1 ≤ n) (hp : n * prodS f (l.drop i) = prodS f l) (hb : prodS f l ≤ 64) : inK .i64 (n * sz (l.getD i s0)) ∧ 1 ≤ n * sz (l.getD i s0) ∧ (f (l.getD i s0) = true → n * sz (l.getD i s0) * prodS f (l.drop (i + 1)) = prodS f l) ∧ (f (l.getD i s0) = false → n * prodS f (l.drop (i + 1)) = prodS f l) := by
  have hs := hv.szs _ (getD_mem s0 hi)
  obtain ⟨q1, q2⟩ := mul_pos1 hn hs
  have hle := mul_le_prod hp hn (prodS_pos (hv.szs.drop i))
  refine ⟨inK64 (by omega) (by omega), q1, fun h => ?_, fun h => ?_⟩
  · rw [prod_drop hi, if_pos h, ← Int.mul_assoc] at hp; exact hp
  · rw [prod_drop hi, if_neg (by rw [h]; simp)] at hp; exact hp
theorem side_le {l : List Sig} (hv : ValidL l) (b : Bool) : prodS (fun x => inp x == b) l ≤ 64 := by
  have h1 := prod_split l
  have h2 := hv.prod
  have h3 := prodS_pos (f := fun x => inp x == true) hv.szs
  have h4 := prodS_pos (f := fun x => inp x == false) hv.szs
  cases b with
  | true => have := mul_le_prod h1 h3 h4; omega
  | false =>
    rw [Int.mul_comm] at h1
    have := mul_le_prod h1 h4 h3; omega
end Go.Proofs.YtlkgkjpnphdhdaaDoor
/-
  Signals: the numbers of letters, inputs and outputs; values.
-/
namespace Go.Proofs.YtlkgkjpnphdhdaaDoor
open Go.RowKit Sg

theorem side_f {x : Sig} : (inp x == false) = !x.2.1 := by
  unfold inp; cases x.2.1 <;> rfl
theorem side_t {x : Sig} : (inp x == true) = x.2.1 := by
  unfold inp; cases x.2.1 <;> rfl
theorem all_le {l : List Sig} (hv : ValidL l) : prodS (fun _ => true) l ≤ 64 := hv.prod
theorem cp_clocntT (x : Sig) : CallP Tryd.prog tT 43 [.d sigT x] .bool ((fun _ => true) x) := of43 x _ fun R hR _ => (hR _).2 rfl
theorem cp_cntT (l : List Sig) : CallP Tryd.prog tT 42 [.d sigsT l, .fn 43 []] intT (cntD (fun _ => true) l) := by
  refine sfcntT l _ fun R hR wl => ⟨_, cp_Valid l, fun h => (hR _).2 ?_, fun h => ?_⟩
  · unfold cntD; rw [if_neg (by rw [h]; simp)]
  · have hv := valid_iff.1 h
    have hfew := hv.few
    refine ⟨fun x => ∃ i : Nat, x.2.1 = i ∧ i ≤ l.length ∧ 1 ≤ x.1 ∧ x.1 * prodS (fun _ => true) (l.drop i) = prodS (fun _ => true) l, fun x => l.length - x.2.1.toNat, ⟨0, rfl, Nat.zero_le _, Int.le_refl _, by simp⟩, ?_⟩
    rintro ⟨n, iz, u⟩ _ ⟨i, e1, hil, hn, hp⟩
    simp only at e1 hn hp
    subst e1
    simp only [Int.toNat_natCast]
    refine ⟨fun hlt => ?_, fun hge => (hR _).2 ?_⟩
    · obtain ⟨c1, c2, c3, c4⟩ := cnt_step hv (show i < l.length by omega) hn hp (hv.prod)
      have hmu : l.length - Int.toNat ((i : Int) + 1) < l.length - i := by omega
      refine ⟨by omega, _, cp_clocntT (l.getD i s0), fun g => ⟨c1, inK64 (by omega) (by omega), ⟨i + 1, by simp, by omega, c2, c3 g⟩, hmu⟩, fun g => ⟨inK64 (by omega) (by omega), ⟨i + 1, by simp, by omega, hn, c4 g⟩, hmu⟩⟩
    · rw [drop_all (by omega)] at hp
      simp only [prodS, Int.mul_one] at hp
      unfold cntD; rw [if_pos h]; exact hp
theorem cp_Letters (l : List Sig) : CallP Tryd.prog tT 19 [.d sigsT l] intT (cntD (fun _ => true) l) := of19 l _ fun R hR _ => ⟨_, cp_cntT l, (hR _).2 rfl⟩
theorem cp_clocntI (x : Sig) : CallP Tryd.prog tT 44 [.d sigT x] .bool ((fun x => inp x == true) x) := of44 x _ fun R hR _ => (hR _).2 side_t.symm
theorem cp_cntI (l : List Sig) : CallP Tryd.prog tT 42 [.d sigsT l, .fn 44 []] intT (cntD (fun x => inp x == true) l) := by
  refine sfcntI l _ fun R hR wl => ⟨_, cp_Valid l, fun h => (hR _).2 ?_, fun h => ?_⟩
  · unfold cntD; rw [if_neg (by rw [h]; simp)]
  · have hv := valid_iff.1 h
    have hfew := hv.few
    refine ⟨fun x => ∃ i : Nat, x.2.1 = i ∧ i ≤ l.length ∧ 1 ≤ x.1 ∧ x.1 * prodS (fun x => inp x == true) (l.drop i) = prodS (fun x => inp x == true) l, fun x => l.length - x.2.1.toNat, ⟨0, rfl, Nat.zero_le _, Int.le_refl _, by simp⟩, ?_⟩
    rintro ⟨n, iz, u⟩ _ ⟨i, e1, hil, hn, hp⟩
    simp only at e1 hn hp
    subst e1
    simp only [Int.toNat_natCast]
    refine ⟨fun hlt => ?_, fun hge => (hR _).2 ?_⟩
    · obtain ⟨c1, c2, c3, c4⟩ := cnt_step hv (show i < l.length by omega) hn hp (side_le hv true)
      have hmu : l.length - Int.toNat ((i : Int) + 1) < l.length - i := by omega
      refine ⟨by omega, _, cp_clocntI (l.getD i s0), fun g => ⟨c1, inK64 (by omega) (by omega), ⟨i + 1, by simp, by omega, c2, c3 g⟩, hmu⟩, fun g => ⟨inK64 (by omega) (by omega), ⟨i + 1, by simp, by omega, hn, c4 g⟩, hmu⟩⟩
    · rw [drop_all (by omega)] at hp
      simp only [prodS, Int.mul_one] at hp
      unfold cntD; rw [if_pos h]; exact hp
theorem cp_Inputs (l : List Sig) : CallP Tryd.prog tT 21 [.d sigsT l] intT (cntD (fun x => inp x == true) l) := of21 l _ fun R hR _ => ⟨_, cp_cntI l, (hR _).2 rfl⟩
theorem cp_clocntO (x : Sig) : CallP Tryd.prog tT 46 [.d sigT x] .bool ((fun x => inp x == false) x) := of46 x _ fun R hR _ => (hR _).2 side_f.symm
theorem cp_cntO (l : List Sig) : CallP Tryd.prog tT 42 [.d sigsT l, .fn 46 []] intT (cntD (fun x => inp x == false) l) := by
  refine sfcntO l _ fun R hR wl => ⟨_, cp_Valid l, fun h => (hR _).2 ?_, fun h => ?_⟩
  · unfold cntD; rw [if_neg (by rw [h]; simp)]
  · have hv := valid_iff.1 h
    have hfew := hv.few
    refine ⟨fun x => ∃ i : Nat, x.2.1 = i ∧ i ≤ l.length ∧ 1 ≤ x.1 ∧ x.1 * prodS (fun x => inp x == false) (l.drop i) = prodS (fun x => inp x == false) l, fun x => l.length - x.2.1.toNat, ⟨0, rfl, Nat.zero_le _, Int.le_refl _, by simp⟩, ?_⟩
    rintro ⟨n, iz, u⟩ _ ⟨i, e1, hil, hn, hp⟩
    simp only at e1 hn hp
    subst e1
    simp only [Int.toNat_natCast]
    refine ⟨fun hlt => ?_, fun hge => (hR _).2 ?_⟩
    · obtain ⟨c1, c2, c3, c4⟩ := cnt_step hv (show i < l.length by omega) hn hp (side_le hv false)
      have hmu : l.length - Int.toNat ((i : Int) + 1) < l.length - i := by omega
      refine ⟨by omega, _, cp_clocntO (l.getD i s0), fun g => ⟨c1, inK64 (by omega) (by omega), ⟨i + 1, by simp, by omega, c2, c3 g⟩, hmu⟩, fun g => ⟨inK64 (by omega) (by omega), ⟨i + 1, by simp, by omega, hn, c4 g⟩, hmu⟩⟩
    · rw [drop_all (by omega)] at hp
      simp only [prodS, Int.mul_one] at hp
      unfold cntD; rw [if_pos h]; exact hp
theorem cp_Outputs (l : List Sig) : CallP Tryd.prog tT 23 [.d sigsT l] intT (cntD (fun x => inp x == false) l) := of23 l _ fun R hR _ => ⟨_, cp_cntO l, (hR _).2 rfl⟩
theorem cp_side (l : List Sig) (b : Bool) : CallP Tryd.prog tT 45 [.d sigsT l, .d .bool b] intT (sideD b l) := by
  refine sf45 l b _ fun R hR wl _ => ⟨_, cp_rValid l, fun h => (hR _).2 ?_, fun h => ?_⟩
  · unfold sideD cntD; rw [if_neg (by rw [h]; simp)]
  · have hv := valid_iff.1 h
    have hfew := hv.few
    refine ⟨fun x => ∃ i : Nat, x.2.1 = i ∧ i ≤ l.length ∧ 1 ≤ x.1 ∧ x.1 * prodS (fun x => inp x == b) (l.drop i) = prodS (fun x => inp x == b) l, fun x => l.length - x.2.1.toNat, ⟨0, rfl, Nat.zero_le _, Int.le_refl _, by simp⟩, ?_⟩
    rintro ⟨n, iz, u⟩ _ ⟨i, e1, hil, hn, hp⟩
    simp only at e1 hn hp
    subst e1
    simp only [Int.toNat_natCast]
    refine ⟨fun hlt => ?_, fun hge => (hR _).2 ?_⟩
    · obtain ⟨c1, c2, c3, c4⟩ := cnt_step hv (show i < l.length by omega) hn hp (side_le hv b)
      have hmu : l.length - Int.toNat ((i : Int) + 1) < l.length - i := by omega
      refine ⟨by omega, fun g => ⟨c1, inK64 (by omega) (by omega), ⟨i + 1, by simp, by omega, c2, c3 g⟩, hmu⟩, fun g => ⟨inK64 (by omega) (by omega), ⟨i + 1, by simp, by omega, hn, c4 g⟩, hmu⟩⟩
    · rw [drop_all (by omega)] at hp
      simp only [prodS, Int.mul_one] at hp
      unfold sideD cntD; rw [if_pos h]; exact hp
theorem cp_rInputs (l : List Sig) : CallP Tryd.prog tT 22 [.d sigsT l] intT (sideD true l) := of22 l _ fun R hR _ => ⟨_, cp_side l true, (hR _).2 rfl⟩
theorem cp_rOutputs (l : List Sig) : CallP Tryd.prog tT 24 [.d sigsT l] intT (sideD false l) := of24 l _ fun R hR _ => ⟨_, cp_side l false, (hR _).2 rfl⟩
theorem side_mul (l : List Sig) : sideD true l * sideD false l = lettersD l := by
  unfold sideD lettersD cntD
  split
  · exact prod_split l
  · rfl
theorem letters_le (l : List Sig) : 0 ≤ lettersD l ∧ lettersD l ≤ 64 := by
  unfold lettersD cntD
  split
  · rename_i h
    have hv := valid_iff.1 h
    have := prodS_pos (f := fun _ => true) hv.szs
    exact ⟨by omega, hv.prod⟩
  · omega
theorem cp_rLetters (l : List Sig) : CallP Tryd.prog tT 20 [.d sigsT l] intT (lettersD l) := by
  have hb := letters_le l
  refine of20 l _ fun R hR _ => ⟨_, cp_rInputs l, _, cp_rOutputs l, ?_⟩
  rw [side_mul]
  exact ⟨inK64 (by omega) (by omega), (hR _).2 rfl⟩
/-- the values of a letter; none if there is no such letter -/
def valsD (l : List Sig) (a : Int) : List Int := if 0 ≤ a ∧ a < lettersD l then digs l a else []
def valD (l : List Sig) (a i : Int) : Int := if 0 ≤ i then (valsD l a).getD i.toNat 0 else 0
theorem letter_valid {l : List Sig} {a : Int} (h0 : 0 ≤ a) (h : a < lettersD l) : ValidL l ∧ a < prodS (fun _ => true) l := by
  unfold lettersD cntD at h
  split at h
  · rename_i hv
    exact ⟨valid_iff.1 hv, h⟩
  · omega
/-- the digits from a place on -/
theorem digs_drop {l : List Sig} {a r : Int} {i : Nat} (hi : i < l.length) (h : digs (l.drop i) r = (digs l a).drop i) : (digs l a).getD i 0 = r % sz (l.getD i s0) ∧ digs (l.drop (i + 1)) (r / sz (l.getD i s0)) = (digs l a).drop (i + 1) := by
  rw [drop_at s0 hi, drop_at (l := digs l a) 0 (by rw [digs_len]; exact hi)] at h
  simp only [digs, List.cons.injEq] at h
  exact ⟨h.1.symm, h.2⟩
theorem div_nonneg' {r s : Int} (h : 0 ≤ r) (hs : 2 ≤ s) : 0 ≤ r / s := Int.ediv_nonneg h (by omega)
theorem cp_Value (l : List Sig) (a i : Int) : CallP Tryd.prog tT 25 [.d sigsT l, .d intT a, .d intT i] intT (valD l a i) := by
  refine sf25 l a i _ fun R hR wl wa wi => ⟨_, fun _ => cp_Letters l, fun h => (hR _).2 ?_, fun h1 h2 => ?_⟩
  · have h : a < 0 ∨ lettersD l ≤ a := h
    unfold valD valsD
    split
    · rw [if_neg (by omega)]; rfl
    · rfl
  · have h1 : 0 ≤ a := h1
    have h2 : a < lettersD l := h2
    obtain ⟨hv, ha⟩ := letter_valid h1 h2
    have hfew := hv.few
    have hval : ∀ k : Nat, i = k → valD l a i = (digs l a).getD k 0 := fun k e => by
      unfold valD valsD
      rw [if_pos (by omega), if_pos ⟨h1, h2⟩, e, Int.toNat_natCast]
    refine ⟨fun x => ∃ k : Nat, x.2.1 = k ∧ k ≤ l.length ∧ 0 ≤ x.1 ∧ digs (l.drop k) x.1 = (digs l a).drop k ∧ ∀ j : Nat, j < k → ¬ (j : Int) = i, fun x => l.length - x.2.1.toNat, ⟨0, rfl, Nat.zero_le _, h1, rfl, fun j hj => absurd hj (Nat.not_lt_zero j)⟩, ?_⟩
    rintro ⟨r, kz, v, u⟩ _ ⟨k, e1, hkl, hr, hd, hne⟩
    simp only at e1 hr hd
    subst e1
    simp only [Int.toNat_natCast]
    refine ⟨fun hlt => ?_, fun hge => (hR _).2 ?_⟩
    · have hk : k < l.length := by omega
      obtain ⟨d1, d2⟩ := digs_drop hk hd
      have hs := hv.szs _ (getD_mem s0 hk)
      refine ⟨by omega, ⟨hr, by show 0 < sz (l.getD k s0); omega⟩, fun g => ⟨fun _ => (hR _).2 ?_, fun hc => by simp at hc⟩, fun g => ⟨fun hc => by simp at hc, fun _ => ⟨inK64 (by omega) (by omega), ⟨k + 1, by simp, by omega, div_nonneg' hr hs.1, d2, fun j hj => ?_⟩, ?_⟩⟩⟩
      · rw [hval k g.symm, d1]; rfl
      · rcases Nat.lt_or_ge j k with h6 | h6
        · exact hne j h6
        · have : j = k := by omega
          rw [this]; exact g
      · show l.length - Int.toNat ((k : Int) + 1) < l.length - k
        omega
    · unfold valD
      by_cases hi : 0 ≤ i
      · rw [if_pos hi]
        have hlen : (valsD l a).length ≤ i.toNat := by
          unfold valsD
          rw [if_pos ⟨h1, h2⟩, digs_len]
          rcases Nat.lt_or_ge i.toNat l.length with h6 | h6
          · exact absurd (by omega) (hne i.toNat (by omega))
          · exact h6
        simp [List.getD_eq_getElem?_getD, List.getElem?_eq_none hlen]
      · rw [if_neg hi]
theorem cp_rValues (l : List Sig) (a : Int) : CallP Tryd.prog tT 48 [.d sigsT l, .d intT a] intsT (valsD l a) := by
  refine sf48 l a _ fun R hR wl wa => ⟨_, fun _ => cp_rLetters l, fun h => (hR _).2 ?_, fun h1 h2 => ?_⟩
  · have h : a < 0 ∨ lettersD l ≤ a := h
    unfold valsD
    rw [if_neg (by omega)]
  · have h1 : 0 ≤ a := h1
    have h2 : a < lettersD l := h2
    obtain ⟨hv, ha⟩ := letter_valid h1 h2
    have hfew := hv.few
    refine ⟨fun x => ∃ k : Nat, x.2.2.1 = k ∧ k ≤ l.length ∧ 0 ≤ x.1 ∧ digs (l.drop k) x.1 = (digs l a).drop k ∧ x.2.1 = (digs l a).take k, fun x => l.length - x.2.2.1.toNat, ⟨0, rfl, Nat.zero_le _, h1, rfl, rfl⟩, ?_⟩
    rintro ⟨r, out, kz, u⟩ _ ⟨k, e1, hkl, hr, hd, e2⟩
    simp only at e1 hr hd e2
    subst e1 e2
    simp only [Int.toNat_natCast]
    refine ⟨fun hlt => ?_, fun hge => (hR _).2 ?_⟩
    · have hk : k < l.length := by omega
      obtain ⟨d1, d2⟩ := digs_drop hk hd
      have hs := hv.szs _ (getD_mem s0 hk)
      refine ⟨by omega, ⟨hr, by show 0 < sz (l.getD k s0); omega⟩, by rw [List.length_take, digs_len, List.length_singleton]; omega, inK64 (by omega) (by omega), ⟨k + 1, by simp, by omega, div_nonneg' hr hs.1, d2, ?_⟩, ?_⟩
      · rw [List.take_succ_eq_append_getElem (by rw [digs_len]; exact hk)]
        congr 1
        have : (digs l a).getD k 0 = (digs l a)[k]'(by rw [digs_len]; exact hk) := by simp [List.getD_eq_getElem?_getD, digs_len, hk]
        rw [← this, d1]; rfl
      · show l.length - Int.toNat ((k : Int) + 1) < l.length - k
        omega
    · have : k = l.length := by omega
      unfold valsD
      rw [if_pos ⟨h1, h2⟩, List.take_of_length_le (by rw [digs_len]; omega)]
theorem cp_rValue (l : List Sig) (a i : Int) : CallP Tryd.prog tT 26 [.d sigsT l, .d intT a, .d intT i] intT (valD l a i) := by
  refine sf26 l a i _ fun R hR _ _ _ => ⟨_, cp_rValues l a, fun h => (hR _).2 ?_, fun h1 h2 => (hR _).2 ?_⟩
  · unfold valD
    split
    · rename_i hi
      have hlen : (valsD l a).length ≤ i.toNat := by
        rcases h with h | h
        · have h : i < 0 := h
          omega
        · have h : (((valsD l a).length : Nat) : Int) ≤ i := h
          omega
      simp [List.getD_eq_getElem?_getD, List.getElem?_eq_none hlen]
    · rfl
  · unfold valD
    rw [if_pos h1]
end Go.Proofs.YtlkgkjpnphdhdaaDoor
/-
  Signals: Make, In, Out, Join.
-/
namespace Go.Proofs.YtlkgkjpnphdhdaaDoor
open Go.RowKit Sg

def inB (l : List Sig) (vs : List Int) : Bool := decide (vs.length = l.length) && (List.range l.length).all fun i => decide (0 ≤ vs.getD i 0) && decide (vs.getD i 0 < sz (l.getD i s0))
theorem inB_iff {l : List Sig} {vs : List Int} : inB l vs = true ↔ InR l vs := by
  unfold inB
  simp only [Bool.and_eq_true, decide_eq_true_iff, List.all_eq_true, List.mem_range]
  exact ⟨fun h => InR_of h.1 h.2, fun h => ⟨h.len, h.at⟩⟩
theorem inB_false {l : List Sig} {vs : List Int} (h : ¬ InR l vs) : inB l vs = false := by
  cases hv : inB l vs with
  | false => rfl
  | true => exact absurd (inB_iff.1 hv) h
def makeD (l : List Sig) (vs : List Int) : Int × Bool × Unit := if validD l = true ∧ inB l vs = true then (und l vs, true, ()) else (0, false, ())
theorem acc_step {n w v s U : Int} : n + w * (v + s * U) = n + w * v + w * s * U := by
  rw [Int.mul_add, ← Int.mul_assoc, Int.add_assoc]
theorem make_step {l : List Sig} (hv : ValidL l) {vs : List Int} {i : Nat} (hi : i < l.length) (hl : vs.length = l.length) {n w : Int} (hw : 1 ≤ w) (hp : w * prodS (fun _ => true) (l.drop i) = prodS (fun _ => true) l) (h0 : 0 ≤ n) (h1 : n < w) (hu : n + w * und (l.drop i) (vs.drop i) = und l vs)
    (v0 : 0 ≤ vs.getD i 0) (v1 : vs.getD i 0 < sz (l.getD i s0)) : inK .i64 (w * vs.getD i 0) ∧ inK .i64 (n + w * vs.getD i 0) ∧ inK .i64 (w * sz (l.getD i s0)) ∧ 1 ≤ w * sz (l.getD i s0) ∧ w * sz (l.getD i s0) * prodS (fun _ => true) (l.drop (i + 1)) = prodS (fun _ => true) l ∧ 0 ≤ n + w * vs.getD i 0 ∧ n + w * vs.getD i 0 < w * sz (l.getD i s0) ∧ n + w * vs.getD i 0 + w * sz (l.getD i s0) * und (l.drop (i + 1)) (vs.drop (i + 1)) = und l vs := by
  have hs := hv.szs _ (getD_mem s0 hi)
  obtain ⟨c1, c2, c3, _⟩ := cnt_step hv hi hw hp hv.prod
  have hle := mul_le_prod hp hw (prodS_pos (hv.szs.drop i))
  have hpr := hv.prod
  obtain ⟨m1, m2⟩ := mul_small (w := w) (d := vs.getD i 0) (by omega) (by omega) v0 (by omega)
  obtain ⟨d1, d2⟩ := digit_step h0 h1 v0 v1 hs
  obtain ⟨q1, q2⟩ := mul_pos1 hw hs
  refine ⟨inK64 (by omega) (by omega), inK64 (by omega) (by omega), c1, c2, c3 rfl, d1, d2, ?_⟩
  rw [drop_at s0 hi, drop_at (l := vs) 0 (by omega)] at hu
  rw [← acc_step]
  exact hu
theorem cp_Make (l : List Sig) (vs : List Int) : CallP Tryd.prog tT 11 [.d sigsT l, .d intsT vs] (.tup (.pair (.int .i64) (.pair .bool .unit))) (makeD l vs) := by
  refine sf11 l vs _ fun R hR wl wv => ⟨_, cp_Valid l, fun h => (hR _).2 ?_, fun h1 h2 => ?_⟩
  · symm
    unfold makeD
    rw [if_neg]
    rintro ⟨g1, g2⟩
    rcases h with h | h
    · rw [g1] at h; simp at h
    · have := (inB_iff.1 g2).len; omega
  · have hv := valid_iff.1 h1
    have hfew := hv.few
    have hl : vs.length = l.length := by omega
    refine ⟨fun x => ∃ i : Nat, x.2.2.1 = i ∧ i ≤ l.length ∧ (∀ j, j < i → 0 ≤ vs.getD j 0 ∧ vs.getD j 0 < sz (l.getD j s0)) ∧ 1 ≤ x.2.1 ∧ x.2.1 * prodS (fun _ => true) (l.drop i) = prodS (fun _ => true) l ∧ 0 ≤ x.1 ∧ x.1 < x.2.1 ∧ x.1 + x.2.1 * und (l.drop i) (vs.drop i) = und l vs, fun x => l.length - x.2.2.1.toNat,
      ⟨0, rfl, Nat.zero_le _, fun j hj => absurd hj (Nat.not_lt_zero j), Int.le_refl _, by simp, Int.le_refl _, Int.zero_lt_one, by simp⟩, ?_⟩
    rintro ⟨n, w, iz, u⟩ _ ⟨i, e1, hil, hj, hw, hp, h0, h3, hu⟩
    simp only at e1 hw hp h0 h3 hu
    subst e1
    simp only [Int.toNat_natCast]
    refine ⟨fun hlt => ⟨by omega, by omega, fun hbad => (hR _).2 ?_, fun g1 g2 => ?_⟩, fun hge => (hR _).2 ?_⟩
    · symm
      show makeD l vs = _
      unfold makeD
      rw [if_neg]
      rintro ⟨_, g2⟩
      obtain ⟨k1, k2⟩ := (inB_iff.1 g2).at i (by omega)
      rcases hbad with h | h
      · have h : vs.getD i 0 < 0 := h
        omega
      · have h : sz (l.getD i s0) ≤ vs.getD i 0 := h
        omega
    · have g2 : vs.getD i 0 < sz (l.getD i s0) := g2
      obtain ⟨a1, a2, a3, a4, a5, a6, a7, a8⟩ := make_step hv (show i < l.length by omega) hl hw hp h0 h3 hu g1 g2
      refine ⟨a1, a2, a3, inK64 (by omega) (by omega), ⟨i + 1, by simp, by omega, fun j hj' => ?_, a4, a5, a6, a7, a8⟩, by show l.length - Int.toNat ((i : Int) + 1) < l.length - i; omega⟩
      rcases Nat.lt_or_ge j i with h6 | h6
      · exact hj j h6
      · have : j = i := by omega
        rw [this]; exact ⟨g1, g2⟩
    · have hie : i = l.length := by omega
      rw [drop_all (l := l) (by omega), drop_all (l := vs) (by omega)] at hu
      simp only [und, Int.mul_zero, Int.add_zero] at hu
      have hin : inB l vs = true := inB_iff.2 (InR_of hl fun j hj' => hj j (by omega))
      show (n, true, ()) = makeD l vs
      unfold makeD
      rw [if_pos ⟨h1, hin⟩, hu]
theorem cp_rMake (l : List Sig) (vs : List Int) : CallP Tryd.prog tT 12 [.d sigsT l, .d intsT vs] (.tup (.pair (.int .i64) (.pair .bool .unit))) (makeD l vs) := by
  refine sf12 l vs _ fun R hR wl wv => ⟨_, cp_rValid l, fun h => (hR _).2 ?_, fun h1 h2 => ?_⟩
  · symm
    unfold makeD
    rw [if_neg]
    rintro ⟨g1, g2⟩
    rcases h with h | h
    · rw [g1] at h; simp at h
    · have := (inB_iff.1 g2).len; omega
  · have hv := valid_iff.1 h1
    have hfew := hv.few
    have hl : vs.length = l.length := by omega
    refine ⟨fun x => ∃ i : Nat, x.2.2.1 = i ∧ i ≤ l.length ∧ (∀ j, j < i → 0 ≤ vs.getD j 0 ∧ vs.getD j 0 < sz (l.getD j s0)) ∧ 1 ≤ x.2.1 ∧ x.2.1 * prodS (fun _ => true) (l.drop i) = prodS (fun _ => true) l ∧ 0 ≤ x.1 ∧ x.1 < x.2.1 ∧ x.1 + x.2.1 * und (l.drop i) (vs.drop i) = und l vs, fun x => l.length - x.2.2.1.toNat,
      ⟨0, rfl, Nat.zero_le _, fun j hj => absurd hj (Nat.not_lt_zero j), Int.le_refl _, by simp, Int.le_refl _, Int.zero_lt_one, by simp⟩, ?_⟩
    rintro ⟨n, w, iz, u⟩ _ ⟨i, e1, hil, hj, hw, hp, h0, h3, hu⟩
    simp only at e1 hw hp h0 h3 hu
    subst e1
    simp only [Int.toNat_natCast]
    refine ⟨fun hlt => ⟨⟨by omega, by omega⟩, fun hbad => (hR _).2 ?_, fun g1 g2 => ?_⟩, fun hge => (hR _).2 ?_⟩
    · symm
      show makeD l vs = _
      unfold makeD
      rw [if_neg]
      rintro ⟨_, g2⟩
      obtain ⟨k1, k2⟩ := (inB_iff.1 g2).at i (by omega)
      rcases hbad with h | h
      · have h : vs.getD i 0 < 0 := h
        omega
      · have h : sz (l.getD i s0) ≤ vs.getD i 0 := h
        omega
    · have g2 : vs.getD i 0 < sz (l.getD i s0) := g2
      obtain ⟨a1, a2, a3, a4, a5, a6, a7, a8⟩ := make_step hv (show i < l.length by omega) hl hw hp h0 h3 hu g1 g2
      refine ⟨a1, a2, a3, inK64 (by omega) (by omega), ⟨i + 1, by simp, by omega, fun j hj' => ?_, a4, a5, a6, a7, a8⟩, by show l.length - Int.toNat ((i : Int) + 1) < l.length - i; omega⟩
      rcases Nat.lt_or_ge j i with h6 | h6
      · exact hj j h6
      · have : j = i := by omega
        rw [this]; exact ⟨g1, g2⟩
    · have hie : i = l.length := by omega
      rw [drop_all (l := l) (by omega), drop_all (l := vs) (by omega)] at hu
      simp only [und, Int.mul_zero, Int.add_zero] at hu
      have hin : inB l vs = true := inB_iff.2 (InR_of hl fun j hj' => hj j (by omega))
      show (n, true, ()) = makeD l vs
      unfold makeD
      rw [if_pos ⟨h1, hin⟩, hu]
/-- the number of the digits of one side of a letter -/
def halfD (b : Bool) (l : List Sig) (a : Int) : Int := halfU b l (valsD l a)
theorem half_none {b : Bool} {l : List Sig} : halfU b l [] = 0 := by cases l <;> rfl
theorem half_step {l : List Sig} (hv : ValidL l) {b : Bool} {vs : List Int} {i : Nat} (hi : i < l.length) (hl : vs.length = l.length) {n w : Int} (hw : 1 ≤ w) (hp : w * prodS (fun x => inp x == b) (l.drop i) = prodS (fun x => inp x == b) l) (h0 : 0 ≤ n) (h1 : n < w) (hu : n + w * halfU b (l.drop i) (vs.drop i) = halfU b l vs)
    (v0 : 0 ≤ vs.getD i 0) (v1 : vs.getD i 0 < sz (l.getD i s0)) :
    ((inp (l.getD i s0) == b) = true → inK .i64 (w * vs.getD i 0) ∧ inK .i64 (n + w * vs.getD i 0) ∧ inK .i64 (w * sz (l.getD i s0)) ∧ 1 ≤ w * sz (l.getD i s0) ∧ w * sz (l.getD i s0) * prodS (fun x => inp x == b) (l.drop (i + 1)) = prodS (fun x => inp x == b) l ∧ 0 ≤ n + w * vs.getD i 0 ∧ n + w * vs.getD i 0 < w * sz (l.getD i s0) ∧ n + w * vs.getD i 0 + w * sz (l.getD i s0) * halfU b (l.drop (i + 1)) (vs.drop (i + 1)) = halfU b l vs) ∧
    ((inp (l.getD i s0) == b) = false → w * prodS (fun x => inp x == b) (l.drop (i + 1)) = prodS (fun x => inp x == b) l ∧ n + w * halfU b (l.drop (i + 1)) (vs.drop (i + 1)) = halfU b l vs) := by
  have hs := hv.szs _ (getD_mem s0 hi)
  have hsl := side_le hv b
  obtain ⟨c1, c2, c3, c4⟩ := cnt_step hv hi hw hp hsl
  have hle := mul_le_prod hp hw (prodS_pos (hv.szs.drop i))
  obtain ⟨m1, m2⟩ := mul_small (w := w) (d := vs.getD i 0) (by omega) (by omega) v0 (by omega)
  obtain ⟨d1, d2⟩ := digit_step h0 h1 v0 v1 hs
  obtain ⟨q1, q2⟩ := mul_pos1 hw hs
  rw [drop_at s0 hi, drop_at (l := vs) 0 (by omega)] at hu
  simp only [halfU] at hu
  constructor
  · intro g
    rw [if_pos g] at hu
    refine ⟨inK64 (by omega) (by omega), inK64 (by omega) (by omega), c1, c2, c3 g, d1, d2, ?_⟩
    rw [← acc_step]
    exact hu
  · intro g
    rw [if_neg (by rw [g]; simp)] at hu
    exact ⟨c4 g, hu⟩
theorem vals_ok {l : List Sig} {a : Int} (h0 : 0 ≤ a) (h : a < lettersD l) : valsD l a = digs l a := by unfold valsD; rw [if_pos ⟨h0, h⟩]
theorem cp_half (l : List Sig) (a : Int) (b : Bool) : CallP Tryd.prog tT 49 [.d sigsT l, .d intT a, .d .bool b] intT (halfD b l a) := by
  refine sf49 l a b _ fun R hR wl wa wb => ⟨_, fun _ => cp_Letters l, fun h => (hR _).2 ?_, fun h1 h2 => ?_⟩
  · have h : a < 0 ∨ lettersD l ≤ a := h
    unfold halfD valsD
    rw [if_neg (by omega), half_none]
  · have h1 : 0 ≤ a := h1
    have h2 : a < lettersD l := h2
    obtain ⟨hv, ha⟩ := letter_valid h1 h2
    have hfew := hv.few
    have hdl := digs_len l a
    have hin := digs_in (a := a) hv.szs
    have hD : halfD b l a = halfU b l (digs l a) := by unfold halfD; rw [vals_ok h1 h2]
    refine ⟨fun x => ∃ k : Nat, x.2.1 = k ∧ k ≤ l.length ∧ 0 ≤ x.1 ∧ digs (l.drop k) x.1 = (digs l a).drop k ∧ 1 ≤ x.2.2.1.1 ∧ x.2.2.1.1 * prodS (fun x => inp x == b) (l.drop k) = prodS (fun x => inp x == b) l ∧ 0 ≤ x.2.2.2.1.1 ∧ x.2.2.2.1.1 < x.2.2.1.1 ∧ x.2.2.2.1.1 + x.2.2.1.1 * halfU b (l.drop k) ((digs l a).drop k) = halfU b l (digs l a), fun x => l.length - x.2.1.toNat,
      ⟨0, rfl, Nat.zero_le _, h1, rfl, Int.le_refl _, by simp, Int.le_refl _, Int.zero_lt_one, by simp⟩, ?_⟩
    rintro ⟨r, kz, ⟨w, u1⟩, ⟨n, u2⟩, u⟩ _ ⟨k, e1, hkl, hr, hd, hw, hp, h0, h3, hu⟩
    simp only at e1 hr hd hw hp h0 h3 hu
    subst e1
    simp only [Int.toNat_natCast]
    refine ⟨fun hlt => ?_, fun hge => (hR _).2 ?_⟩
    · have hk : k < l.length := by omega
      obtain ⟨d1, d2⟩ := digs_drop hk hd
      have hs := hv.szs _ (getD_mem s0 hk)
      obtain ⟨v0, v1⟩ := hin.at k hk
      obtain ⟨st, sn⟩ := half_step hv hk hdl hw hp h0 h3 hu v0 v1
      rw [d1] at st
      have hmu : l.length - Int.toNat ((k : Int) + 1) < l.length - k := by omega
      refine ⟨by omega, ⟨hr, by show 0 < sz (l.getD k s0); omega⟩, fun g => ?_, fun g => ?_⟩
      · obtain ⟨a1, a2, a3, a4, a5, a6, a7, a8⟩ := st g
        exact ⟨a1, a2, a3, fun hc => by simp at hc, fun _ => ⟨inK64 (by omega) (by omega), ⟨k + 1, by simp, by omega, div_nonneg' hr hs.1, d2, a4, a5, a6, a7, a8⟩, hmu⟩⟩
      · obtain ⟨a1, a2⟩ := sn g
        exact ⟨fun hc => by simp at hc, fun _ => ⟨inK64 (by omega) (by omega), ⟨k + 1, by simp, by omega, div_nonneg' hr hs.1, d2, hw, a1, h0, h3, a2⟩, hmu⟩⟩
    · rw [drop_all (l := l) (by omega)] at hu
      simp only [halfU, Int.mul_zero, Int.add_zero] at hu
      rw [hD]; exact hu
theorem cp_HIn (l : List Sig) (a : Int) : CallP Tryd.prog tT 27 [.d sigsT l, .d intT a] intT (halfD true l a) := of27 l a _ fun R hR _ _ => ⟨_, cp_half l a true, (hR _).2 rfl⟩
theorem cp_HOut (l : List Sig) (a : Int) : CallP Tryd.prog tT 29 [.d sigsT l, .d intT a] intT (halfD false l a) := of29 l a _ fun R hR _ _ => ⟨_, cp_half l a false, (hR _).2 rfl⟩
theorem cp_rhalf (l : List Sig) (a : Int) (b : Bool) : CallP Tryd.prog tT 50 [.d sigsT l, .d intT a, .d .bool b] intT (halfD b l a) := by
  refine sf50 l a b _ fun R hR wl wa wb => ⟨_, cp_rValues l a, ?_⟩
  by_cases h : 0 ≤ a ∧ a < lettersD l
  · obtain ⟨h1, h2⟩ := h
    obtain ⟨hv, ha⟩ := letter_valid h1 h2
    have hfew := hv.few
    have hdl := digs_len l a
    have hin := digs_in (a := a) hv.szs
    have hD : halfD b l a = halfU b l (digs l a) := by unfold halfD; rw [vals_ok h1 h2]
    rw [vals_ok h1 h2]
    refine ⟨fun x => ∃ k : Nat, x.2.2.1 = k ∧ k ≤ l.length ∧ 1 ≤ x.2.1 ∧ x.2.1 * prodS (fun x => inp x == b) (l.drop k) = prodS (fun x => inp x == b) l ∧ 0 ≤ x.1 ∧ x.1 < x.2.1 ∧ x.1 + x.2.1 * halfU b (l.drop k) ((digs l a).drop k) = halfU b l (digs l a), fun x => l.length - x.2.2.1.toNat,
      ⟨0, rfl, Nat.zero_le _, Int.le_refl _, by simp, Int.le_refl _, Int.zero_lt_one, by simp⟩, ?_⟩
    rintro ⟨n, w, kz, u⟩ _ ⟨k, e1, hkl, hw, hp, h0, h3, hu⟩
    simp only at e1 hw hp h0 h3 hu
    subst e1
    simp only [Int.toNat_natCast, digs_len]
    refine ⟨fun hlt => ?_, fun hge => (hR _).2 ?_⟩
    · have hk : k < l.length := by omega
      obtain ⟨v0, v1⟩ := hin.at k hk
      obtain ⟨st, sn⟩ := half_step hv hk hdl hw hp h0 h3 hu v0 v1
      have hmu : l.length - Int.toNat ((k : Int) + 1) < l.length - k := by omega
      refine ⟨⟨by omega, by omega⟩, fun g => ?_, fun g => ?_⟩
      · obtain ⟨a1, a2, a3, a4, a5, a6, a7, a8⟩ := st g
        exact ⟨a1, a2, a3, inK64 (by omega) (by omega), ⟨k + 1, by simp, by omega, a4, a5, a6, a7, a8⟩, hmu⟩
      · obtain ⟨a1, a2⟩ := sn g
        exact ⟨inK64 (by omega) (by omega), ⟨k + 1, by simp, by omega, hw, a1, h0, h3, a2⟩, hmu⟩
    · rw [drop_all (l := l) (by omega)] at hu
      simp only [halfU, Int.mul_zero, Int.add_zero] at hu
      rw [hD]; exact hu
  · have hn : valsD l a = [] := by unfold valsD; rw [if_neg h]
    rw [hn]
    refine ⟨fun x => x = (0, 1, 0, ()), fun _ => 0, rfl, ?_⟩
    rintro x _ rfl
    refine ⟨fun hlt => absurd hlt (by decide), fun _ => (hR _).2 ?_⟩
    unfold halfD
    rw [hn, half_none]
theorem cp_rHIn (l : List Sig) (a : Int) : CallP Tryd.prog tT 28 [.d sigsT l, .d intT a] intT (halfD true l a) := of28 l a _ fun R hR _ _ => ⟨_, cp_rhalf l a true, (hR _).2 rfl⟩
theorem cp_rHOut (l : List Sig) (a : Int) : CallP Tryd.prog tT 30 [.d sigsT l, .d intT a] intT (halfD false l a) := of30 l a _ fun R hR _ _ => ⟨_, cp_rhalf l a false, (hR _).2 rfl⟩
def joinD (l : List Sig) (i o : Int) : Int := if (0 ≤ i ∧ i < sideD true l) ∧ 0 ≤ o ∧ o < sideD false l then joinU l i o else 0
theorem side_valid {b : Bool} {l : List Sig} {a : Int} (h0 : 0 ≤ a) (h : a < sideD b l) : ValidL l ∧ a < prodS (fun x => inp x == b) l := by
  unfold sideD cntD at h
  split at h
  · rename_i hv
    exact ⟨valid_iff.1 hv, h⟩
  · omega
theorem join_step {l : List Sig} (hv : ValidL l) {k : Nat} (hk : k < l.length) {n w i o J : Int} (hw : 1 ≤ w) (hp : w * prodS (fun _ => true) (l.drop k) = prodS (fun _ => true) l) (h0 : 0 ≤ n) (h1 : n < w) (hu : n + w * joinU (l.drop k) i o = J) (i0 : 0 ≤ i) (o0 : 0 ≤ o) (v : Int) (hv' : v = if inp (l.getD k s0) = true then i else o) :
    0 < sz (l.getD k s0) ∧ inK .i64 (w * (v % sz (l.getD k s0))) ∧ inK .i64 (n + w * (v % sz (l.getD k s0))) ∧ inK .i64 (w * sz (l.getD k s0)) ∧ 1 ≤ w * sz (l.getD k s0) ∧ w * sz (l.getD k s0) * prodS (fun _ => true) (l.drop (k + 1)) = prodS (fun _ => true) l ∧ 0 ≤ n + w * (v % sz (l.getD k s0)) ∧ n + w * (v % sz (l.getD k s0)) < w * sz (l.getD k s0) ∧
    n + w * (v % sz (l.getD k s0)) + w * sz (l.getD k s0) * joinU (l.drop (k + 1)) (if inp (l.getD k s0) = true then i / sz (l.getD k s0) else i) (if inp (l.getD k s0) = true then o else o / sz (l.getD k s0)) = J ∧ 0 ≤ i / sz (l.getD k s0) ∧ 0 ≤ o / sz (l.getD k s0) := by
  have hs := hv.szs _ (getD_mem s0 hk)
  obtain ⟨c1, c2, c3, _⟩ := cnt_step hv hk hw hp hv.prod
  have hle := mul_le_prod hp hw (prodS_pos (hv.szs.drop k))
  have hpr := hv.prod
  have v0 : 0 ≤ v % sz (l.getD k s0) := Int.emod_nonneg _ (by omega)
  have v1 : v % sz (l.getD k s0) < sz (l.getD k s0) := Int.emod_lt_of_pos _ (by omega)
  obtain ⟨m1, m2⟩ := mul_small (w := w) (d := v % sz (l.getD k s0)) (by omega) (by omega) v0 (by omega)
  obtain ⟨d1, d2⟩ := digit_step h0 h1 v0 v1 hs
  obtain ⟨q1, q2⟩ := mul_pos1 hw hs
  refine ⟨by omega, inK64 (by omega) (by omega), inK64 (by omega) (by omega), c1, c2, c3 rfl, d1, d2, ?_, div_nonneg' i0 hs.1, div_nonneg' o0 hs.1⟩
  rw [drop_at s0 hk] at hu
  simp only [joinU] at hu
  rw [← acc_step, hv']
  by_cases g : inp (l.getD k s0) = true
  · rw [if_pos g] at hu ⊢
    rw [if_pos g, if_pos g]; exact hu
  · rw [if_neg g] at hu ⊢
    rw [if_neg g, if_neg g]; exact hu
theorem join_bad {l : List Sig} {i o : Int} (h : ((i < 0 ∨ sideD true l ≤ i) ∨ o < 0) ∨ sideD false l ≤ o) : (0 : Int) = joinD l i o := by
  symm
  unfold joinD
  rw [if_neg]
  rintro ⟨⟨h1, h2⟩, h3, h4⟩
  rcases h with ((h | h) | h) | h <;> omega
theorem cp_Join (l : List Sig) (i o : Int) : CallP Tryd.prog tT 31 [.d sigsT l, .d intT i, .d intT o] intT (joinD l i o) := by
  refine sf31 l i o _ fun R hR wl _ _ => ⟨_, fun _ => cp_Inputs l, _, fun _ _ _ => cp_Outputs l, fun h => (hR _).2 (join_bad h), fun h1 h2 h3 h4 => ?_⟩
  obtain ⟨hv, hi⟩ := side_valid (b := true) h1 h2
  have hfew := hv.few
  have hD : joinD l i o = joinU l i o := by unfold joinD; exact if_pos ⟨⟨h1, h2⟩, h3, h4⟩
  refine ⟨fun x => ∃ k : Nat, x.2.2.1 = k ∧ k ≤ l.length ∧ 1 ≤ x.2.1 ∧ x.2.1 * prodS (fun _ => true) (l.drop k) = prodS (fun _ => true) l ∧ 0 ≤ x.1 ∧ x.1 < x.2.1 ∧ x.1 + x.2.1 * joinU (l.drop k) x.2.2.2.2.1.1 x.2.2.2.1.1 = joinU l i o ∧ 0 ≤ x.2.2.2.2.1.1 ∧ 0 ≤ x.2.2.2.1.1, fun x => l.length - x.2.2.1.toNat,
    ⟨0, rfl, Nat.zero_le _, Int.le_refl _, by simp, Int.le_refl _, Int.zero_lt_one, by simp, h1, h3⟩, ?_⟩
  rintro ⟨n, w, kz, ⟨o', u1⟩, ⟨i', u2⟩, u⟩ _ ⟨k, e1, hkl, hw, hp, h0, h5, hu, hi', ho'⟩
  simp only at e1 hw hp h0 h5 hu hi' ho'
  subst e1
  simp only [Int.toNat_natCast]
  refine ⟨fun hlt => ?_, fun hge => (hR _).2 ?_⟩
  · have hk : k < l.length := by omega
    have hmu : l.length - Int.toNat ((k : Int) + 1) < l.length - k := by omega
    refine ⟨by omega, fun g => ?_, fun g => ?_⟩
    · have g : inp (l.getD k s0) = true := g
      obtain ⟨a0, a1, a2, a3, a4, a5, a6, a7, a8, a9, a10⟩ := join_step hv hk hw hp h0 h5 hu hi' ho' i' (by rw [if_pos g])
      rw [if_pos g, if_pos g] at a8
      exact ⟨⟨hi', a0⟩, a1, a2, a3, inK64 (by omega) (by omega), ⟨k + 1, by simp, by omega, a4, a5, a6, a7, a8, a9, ho'⟩, hmu⟩
    · have g : ¬ inp (l.getD k s0) = true := by
        have g : inp (l.getD k s0) = false := g
        rw [g]; simp
      obtain ⟨a0, a1, a2, a3, a4, a5, a6, a7, a8, a9, a10⟩ := join_step hv hk hw hp h0 h5 hu hi' ho' o' (by rw [if_neg g])
      rw [if_neg g, if_neg g] at a8
      exact ⟨⟨ho', a0⟩, a1, a2, a3, inK64 (by omega) (by omega), ⟨k + 1, by simp, by omega, a4, a5, a6, a7, a8, hi', a10⟩, hmu⟩
  · rw [drop_all (l := l) (by omega)] at hu
    simp only [joinU, Int.mul_zero, Int.add_zero] at hu
    rw [hD]; exact hu
theorem cp_rJoin (l : List Sig) (i o : Int) : CallP Tryd.prog tT 32 [.d sigsT l, .d intT i, .d intT o] intT (joinD l i o) := by
  refine sf32 l i o _ fun R hR wl _ _ => ⟨_, fun _ => cp_rInputs l, _, fun _ _ _ => cp_rOutputs l, fun h => (hR _).2 (join_bad h), fun h1 h2 h3 h4 => ?_⟩
  obtain ⟨hv, hi⟩ := side_valid (b := true) h1 h2
  have hfew := hv.few
  have hD : joinD l i o = joinU l i o := by unfold joinD; exact if_pos ⟨⟨h1, h2⟩, h3, h4⟩
  refine ⟨fun x => ∃ k : Nat, x.2.2.2.2.1 = k ∧ k ≤ l.length ∧ 1 ≤ x.2.2.2.1 ∧ x.2.2.2.1 * prodS (fun _ => true) (l.drop k) = prodS (fun _ => true) l ∧ 0 ≤ x.2.2.1 ∧ x.2.2.1 < x.2.2.2.1 ∧ x.2.2.1 + x.2.2.2.1 * joinU (l.drop k) x.1 x.2.1 = joinU l i o ∧ 0 ≤ x.1 ∧ 0 ≤ x.2.1, fun x => l.length - x.2.2.2.2.1.toNat,
    ⟨0, rfl, Nat.zero_le _, Int.le_refl _, by simp, Int.le_refl _, Int.zero_lt_one, by simp, h1, h3⟩, ?_⟩
  rintro ⟨i', o', n, w, kz, u⟩ _ ⟨k, e1, hkl, hw, hp, h0, h5, hu, hi', ho'⟩
  simp only at e1 hw hp h0 h5 hu hi' ho'
  subst e1
  simp only [Int.toNat_natCast]
  refine ⟨fun hlt => ?_, fun hge => (hR _).2 ?_⟩
  · have hk : k < l.length := by omega
    have hmu : l.length - Int.toNat ((k : Int) + 1) < l.length - k := by omega
    refine ⟨by omega, fun g => ?_, fun g => ?_⟩
    · have g : inp (l.getD k s0) = true := g
      obtain ⟨a0, a1, a2, a3, a4, a5, a6, a7, a8, a9, a10⟩ := join_step hv hk hw hp h0 h5 hu hi' ho' i' (by rw [if_pos g])
      rw [if_pos g, if_pos g] at a8
      exact ⟨⟨hi', a0⟩, a1, a2, a3, inK64 (by omega) (by omega), ⟨k + 1, by simp, by omega, a4, a5, a6, a7, a8, a9, ho'⟩, hmu⟩
    · have g : ¬ inp (l.getD k s0) = true := by
        have g : inp (l.getD k s0) = false := g
        rw [g]; simp
      obtain ⟨a0, a1, a2, a3, a4, a5, a6, a7, a8, a9, a10⟩ := join_step hv hk hw hp h0 h5 hu hi' ho' o' (by rw [if_neg g])
      rw [if_neg g, if_neg g] at a8
      exact ⟨⟨ho', a0⟩, a1, a2, a3, inK64 (by omega) (by omega), ⟨k + 1, by simp, by omega, a4, a5, a6, a7, a8, hi', a10⟩, hmu⟩
  · rw [drop_all (l := l) (by omega)] at hu
    simp only [joinU, Int.mul_zero, Int.add_zero] at hu
    rw [hD]; exact hu
end Go.Proofs.YtlkgkjpnphdhdaaDoor
/-
  Signals: the examples with known results, and the agreement with the reference.
-/
namespace Go.Proofs.YtlkgkjpnphdhdaaDoor
open Go.RowKit Sg

def valuesD (l : List Sig) (a : Int) : List Int := (List.range l.length).map fun i => valD l a (i : Nat)
theorem valuesD_len (l : List Sig) (a : Int) : (valuesD l a).length = l.length := by simp [valuesD]
theorem cp_values (l : List Sig) (a : Int) (hl : l.length ≤ 100) : CallP Tryd.prog tT 33 [.d sigsT l, .d intT a] intsT (valuesD l a) := by
  refine sf33 l a _ fun R hR _ _ => ?_
  refine ⟨fun x => ∃ i : Nat, x.2.1 = i ∧ i ≤ l.length ∧ x.1 = (List.range i).map fun i => valD l a (i : Nat), fun x => l.length - x.2.1.toNat, ⟨0, rfl, Nat.zero_le _, rfl⟩, ?_⟩
  rintro ⟨out, iz, u⟩ _ ⟨i, e1, hil, e2⟩
  simp only at e1 e2
  subst e1 e2
  simp only [List.length_map, List.length_range, List.length_singleton]
  refine ⟨fun hlt => ⟨_, cp_Value l a _, by omega, inK64 (by omega) (by omega), ⟨i + 1, by simp, by omega, by simp [List.range_succ]⟩, ?_⟩, fun hge => (hR _).2 ?_⟩
  · show l.length - Int.toNat ((i : Int) + 1) < l.length - Int.toNat (i : Int)
    omega
  · have : i = l.length := by omega
    rw [this]; rfl
theorem valD_at {l : List Sig} {a : Int} (h0 : 0 ≤ a) (h : a < lettersD l) (i : Nat) : valD l a (i : Nat) = (digs l a).getD i 0 := by
  unfold valD
  rw [if_pos (by omega), vals_ok h0 h, Int.toNat_natCast]
theorem list_at {a b : List Int} (hl : a.length = b.length) (h : ∀ j : Nat, j < a.length → a.getD j 0 = b.getD j 0) : a = b := by
  apply List.ext_getElem hl
  intro i h1 h2
  have := h i h1
  simpa [List.getD_eq_getElem?_getD, h1, h2] using this
theorem valuesD_eq {l : List Sig} {a : Int} (h0 : 0 ≤ a) (h : a < lettersD l) : valuesD l a = digs l a := by
  refine list_at (by rw [valuesD_len, digs_len]) fun j hj => ?_
  rw [valuesD_len] at hj
  rw [← valD_at h0 h]
  simp [valuesD, List.getD_eq_getElem?_getD, hj]
theorem cp_Ints (a b : List Int) : CallP Tryd.prog tT 34 [.d intsT a, .d intsT b] .bool (decide (a = b)) := by
  refine sf34 a b _ fun R hR wa wb => ⟨fun h => (hR _).2 ?_, fun h => ?_⟩
  · exact (decide_eq_false fun e => h (by rw [e])).symm
  · have ha := len64 wa.1
    have hl : a.length = b.length := by omega
    refine ⟨fun x => ∃ i : Nat, x.1 = i ∧ ∀ j, j < i → a.getD j 0 = b.getD j 0, fun x => a.length - x.1.toNat, ⟨0, rfl, fun j hj => absurd hj (Nat.not_lt_zero j)⟩, ?_⟩
    rintro ⟨iz, u⟩ _ ⟨i, e1, hj⟩
    simp only at e1
    subst e1
    simp only [Int.toNat_natCast]
    refine ⟨fun hlt => ⟨by omega, by omega, fun g => (hR _).2 ?_, fun g => ⟨inK64 (by omega) (by omega), ⟨i + 1, by simp, fun j hj' => ?_⟩, ?_⟩⟩, fun hge => (hR _).2 ?_⟩
    · exact (decide_eq_false fun e => g (by rw [e])).symm
    · rcases Nat.lt_or_ge j i with h6 | h6
      · exact hj j h6
      · have : j = i := by omega
        rw [this]; exact g
    · show a.length - Int.toNat ((i : Int) + 1) < a.length - i
      omega
    · exact (decide_eq_true (list_at hl fun j h => hj j (by omega))).symm
/-- few signals with short names -/
def smallD (l : List Sig) : Bool := decide (l.length ≤ 10) && l.all fun x => decide (x.1.length ≤ 40)
theorem cp_Small (l : List Sig) : CallP Tryd.prog tT 10 [.d sigsT l] .bool (smallD l) := by
  refine sf10 l _ fun R hR wl => ⟨fun h => (hR _).2 ?_, fun h => ?_⟩
  · unfold smallD; rw [decide_eq_false (by omega : ¬ l.length ≤ 10)]; rfl
  · refine ⟨fun x => ∃ i : Nat, x.1 = i ∧ ∀ j, j < i → decide ((l.getD j s0).1.length ≤ 40) = true, fun x => l.length - x.1.toNat, ⟨0, rfl, fun j hj => absurd hj (Nat.not_lt_zero j)⟩, ?_⟩
    rintro ⟨iz, u⟩ _ ⟨i, e1, hj⟩
    simp only at e1
    subst e1
    simp only [Int.toNat_natCast]
    refine ⟨fun hlt => ⟨by omega, fun g => (hR _).2 ?_, fun g => ⟨inK64 (by omega) (by omega), ⟨i + 1, by simp, fun j hj' => ?_⟩, ?_⟩⟩, fun hge => (hR _).2 ?_⟩
    · have g : (40 : Int) < (((l.getD i s0).1.length : Nat) : Int) := g
      unfold smallD
      rw [all_not s0 (by omega : i < l.length) (decide_eq_false (by omega : ¬ (l.getD i s0).1.length ≤ 40))]; simp
    · have g : (((l.getD i s0).1.length : Nat) : Int) ≤ 40 := g
      rcases Nat.lt_or_ge j i with h6 | h6
      · exact hj j h6
      · have : j = i := by omega
        rw [this]; exact decide_eq_true (by omega)
    · show l.length - Int.toNat ((i : Int) + 1) < l.length - i
      omega
    · unfold smallD
      rw [all_of (p := fun x : Sig => decide (x.1.length ≤ 40)) s0 fun j h => hj j (by omega), decide_eq_true (by omega : l.length ≤ 10)]; rfl
def exampleD : List Sig := [([114], true, 2, ()), ([109], false, 3, ()), ([115], true, 2, ())]
theorem cp_Example : CallP Tryd.prog tT 35 [] sigsT exampleD := of35 _ fun R hR => (hR _).2 rfl
theorem cp_head : CallP Tryd.prog tT 9 [] .bool true := by
  refine sf9 true fun R hR => ⟨_, cp_Example, _, cp_Make _ _, _, cp_Make _ _, _, cp_Valid _, _, fun _ => cp_Letters _, _, fun _ _ => cp_Inputs _, _, fun _ _ _ => cp_Outputs _, _, fun _ _ _ _ _ _ _ => cp_HIn _ _, _, fun _ _ _ _ _ _ _ _ => cp_HOut _ _, _, cp_Join _ _ _, _, fun _ => cp_Value _ _ _, _, fun _ _ => cp_Value _ _ _, _, fun _ _ _ => cp_Find _ _, _, fun _ _ _ _ => cp_Find _ _, _, fun _ _ _ _ _ => cp_Valid _, _, fun _ _ _ _ _ _ => cp_Valid _,
    _, fun _ _ _ _ _ _ _ _ _ _ _ _ _ _ _ _ => cp_Name _, _, fun _ _ _ _ _ _ _ _ _ _ _ _ _ _ _ _ _ => cp_Name _, _, fun _ _ _ _ _ _ _ _ _ _ _ _ _ _ _ _ _ _ => cp_Name _, _, fun _ _ _ _ _ _ _ _ _ _ _ _ _ _ _ _ _ _ _ => cp_Name _, (hR _).2 ?_⟩
  decide
end Go.Proofs.YtlkgkjpnphdhdaaDoor
