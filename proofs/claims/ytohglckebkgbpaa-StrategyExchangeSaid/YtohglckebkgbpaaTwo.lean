/-
  Several slices that one call makes side by side: append, and where the new slice lies.
-/
import Derived.Test.YtohglckebkgbpaaAppend
import Derived.Maps.AppendAt
namespace Go.Proofs.Ytohglckebkgbpaa
open Go.RowKit

/-- the one lies in no block of the other -/
def Apart (v u : Value) : Prop := v.ownBlock = none ∨ v.ownBlock ≠ u.ownBlock
theorem Apart.symm {v u : Value} (h : Apart v u) : Apart u v := by
  unfold Apart at *
  cases hu : u.ownBlock with
  | none => exact .inl rfl
  | some k => right; rcases h with h | h
              · rw [h]; simp
              · rw [hu] at h; exact h.symm
theorem Apart.app {w : World} {base : Nat} {e : TypeId} {size n : Nat} {us : List Value} {u v v' : Value} (hu : w.ownsRow base e size u n us) (h : Apart u v) (hat : v'.ownBlock = v.ownBlock ∨ v'.ownBlock = some w.heap.size) : Apart u v' := by
  unfold Apart at *
  rcases hat with e | e
  · rw [e]; exact h
  · rw [e]
    cases hb : u.ownBlock with
    | none => exact .inl rfl
    | some k => right; have := (hu.lt k hb).2; intro e2; cases e2; omega
theorem Apart.kept {w w' : World} {base : Nat} {e : TypeId} {size n : Nat} {us : List Value} {u v : Value} (hu : w.ownsRow base e size u n us) (h : Apart u v) (hg : w.grownBy w' v.ownBlock) : w'.ownsRow base e size u n us := hu.kept hg h

theorem app_at {P : Program} {t e : TypeId} {z : Value} {size bytes : Nat} (E : Elem P t e z size bytes) (ty : TypeId) {w : World} {base n m : Nat} {v x : Value} {xs news : List Value}
    (hown : w.ownsRow base e size v n xs) (hx : SrcAt w.cell? x m size news) (hbytes : (n + m) * bytes ≤ 140737488355328) (h63 : n + m ≤ maxLen) (hbase : base ≤ w.heap.size) :
    ∃ v' w', (Builtin.append_ #[t, t] ty #[v, x]).run P w = .ok v' w' ∧ w'.ownsRow base e size v' (n + m) (xs ++ news) ∧ w.grownBy w' v.ownBlock ∧ (v'.ownBlock = v.ownBlock ∨ v'.ownBlock = some w.heap.size) := by
  obtain ⟨i, hi, hz, hsz, hby⟩ := info_parts E.info
  obtain ⟨a, c, rfl, hl, h1, h4⟩ := hx
  by_cases hm : m = 0
  · subst hm
    have hn : news = [] := List.eq_nil_of_length_eq_zero (by simpa using hl)
    subst hn
    refine ⟨v, w, ?_, by simpa using hown, ⟨rfl, rfl, rfl, Nat.le_refl _, fun _ _ _ => rfl⟩, .inl rfl⟩
    rcases hown.2 with ⟨rfl, rfl⟩ | ⟨g, cap, cur, rfl, _, _, hle, _⟩
    · cases a <;> simp [Builtin.append_, run_underlying E.und, sizeOf, typeInfo, hi, Builtin.lenOf, Builtin.firstCells, loadCells, loadCellsFrom]
    · cases a <;> simp [Builtin.append_, run_underlying E.und, sizeOf, typeInfo, hi, Builtin.lenOf, Builtin.firstCells, loadCells, loadCellsFrom, hle, storeCells]
  · have hne : 0 < news.length := by rw [hl]; exact Nat.mul_pos (by omega) E.pos
    obtain ⟨ad, rfl, _⟩ := h4 0 news[0] (by simp [hne])
    obtain ⟨v', w', hr, h2, h3, _, h5⟩ := run_append_own_at (P := P) w base t ty e i z size bytes E.und hi hz hsz hby E.zs E.pos v n xs hown ad m c news hl
      (fun j u hu => by obtain ⟨ad', e1, e2⟩ := h4 j u hu; cases e1; exact e2) h1 h63 hbytes hbase
    exact ⟨v', w', hr, h2, h3, h5⟩

theorem wpList_app_at {P : Program} {t e : TypeId} {z : Value} {size bytes : Nat} (E : Elem P t e z size bytes) {w : World} {ops : Array Oper} {rest : List Oper} {o : Oper} {a : Act} {Q : Exit → Act → World → Prop} (hgd : o.guard = none) (s x : Operand)
    (ho : o.op = .call { callee := .builtin .append, args := #[s, x], argTypes := #[t, t] }) (base n m : Nat) (xs news : List Value)
    (hown : w.ownsRow base e size (a.eval s) n xs) (hx : SrcAt w.cell? (a.eval x) m size news) (hbytes : (n + m) * bytes ≤ 140737488355328) (h63 : n + m ≤ maxLen) (hbase : base ≤ w.heap.size)
    (h : ∀ v' w', w'.ownsRow base e size v' (n + m) (xs ++ news) → w.grownBy w' (a.eval s).ownBlock → (v'.ownBlock = (a.eval s).ownBlock ∨ v'.ownBlock = some w.heap.size) → wpList P ops Q rest (a.put o.dst v') w') : wpList P ops Q (o :: rest) a w := by
  obtain ⟨v', w', hr, h2, h3, h5⟩ := app_at E o.type hown hx hbytes h63 hbase
  exact Lib.wpList_append_run w hgd s x t t ho _ _ rfl rfl v' w' hr (h v' w' h2 h3 h5)

/-- one more element at the end of a slice of the call's own, the literal laid just now -/
structure Pushed (w w' : World) (base : Nat) (e : TypeId) (v v' : Value) (us : List Value) (u : Value) : Prop where
  own : w'.ownsRow base e 1 v' (us ++ [u]).length (us ++ [u])
  grown : w.grownBy w' v.ownBlock
  at_ : v'.ownBlock = v.ownBlock ∨ ∃ k, v'.ownBlock = some k ∧ w.heap.size ≤ k
theorem Pushed.below {w0 w w' : World} {base : Nat} {e : TypeId} {v v' : Value} {us : List Value} {u : Value} (h : Pushed w w' base e v v' us u) (hown : w.ownsRow base e 1 v us.length us) (hbase : w0.heap.size ≤ base) (hb : Below w0.heap.size w0 w) : Below w0.heap.size w0 w' :=
  below_app hb hown hbase h.grown
theorem Pushed.apart {w w' : World} {base : Nat} {e : TypeId} {v v' : Value} {us : List Value} {u : Value} (h : Pushed w w' base e v v' us u) {b2 n2 s2 : Nat} {e2 : TypeId} {x : Value} {xs : List Value} (hx : w.ownsRow b2 e2 s2 x n2 xs) (ha : Apart x v) : Apart x v' := by
  unfold Apart at *
  rcases h.at_ with e | ⟨k, e, hk⟩
  · rw [e]; exact ha
  · rw [e]
    cases hb : x.ownBlock with
    | none => exact .inl rfl
    | some j => right; have := (hx.lt j hb).2; intro e2; cases e2; omega
theorem Pushed.kept {w w' : World} {base : Nat} {e : TypeId} {v v' : Value} {us : List Value} {u : Value} (h : Pushed w w' base e v v' us u) {b2 n2 s2 : Nat} {e2 : TypeId} {x : Value} {xs : List Value} (hx : w.ownsRow b2 e2 s2 x n2 xs) (ha : Apart x v) : w'.ownsRow b2 e2 s2 x n2 xs :=
  hx.kept h.grown ha

/-- append(s, u): the literal's block, then the append -/
theorem wpList_push {P : Program} {t e : TypeId} {z : Value} {bytes : Nat} (E : Elem P t e z 1 bytes) {w : World} {ops : Array Oper} {rest : List Oper} {o : Oper} {a : Act} {Q : Exit → Act → World → Prop} (hgd : o.guard = none) (s x : Operand)
    (ho : o.op = .call { callee := .builtin .append, args := #[s, x], argTypes := #[t, t] }) (base : Nat) (us : List Value) (u : Value) (c : Nat)
    (hx : a.eval x = .slice (some ⟨w.heap.size, 0, none⟩) 1 c) (h1 : u.oneCell' = true)
    (hown : w.ownsRow base e 1 (a.eval s) us.length us) (hbytes : (us.length + 1) * bytes ≤ 140737488355328) (h63 : us.length + 1 ≤ maxLen) (hbase : base ≤ w.heap.size)
    (h : ∀ v' w', Pushed w w' base e (a.eval s) v' us u → wpList P ops Q rest (a.put o.dst v') w') : wpList P ops Q (o :: rest) a (w.alloc (.cells #[u] e)) := by
  have hsz : (w.alloc (.cells #[u] e)).heap.size = w.heap.size + 1 := by simp
  refine wpList_app_at E hgd s x ho base us.length 1 us [u] (own_below hown (below_alloc w _)) (by rw [hx]; exact SrcAt.lit w u e h1 c) hbytes h63 (by omega) ?_
  intro v' w' h2 h3 h4
  refine h v' w' ⟨by simpa using h2, ?_, ?_⟩
  · exact ⟨h3.os, h3.tape, h3.output, by have := h3.size; omega, fun k hk hne => by rw [h3.block k (by omega) hne]; exact (below_alloc w _).block k hk⟩
  · rcases h4 with h4 | h4
    · exact .inl h4
    · exact .inr ⟨_, h4, by omega⟩
end Go.Proofs.Ytohglckebkgbpaa
