/-
  Slices that a call makes for itself: append onto them, whatever the source.
-/
import Derived.Test.YtohglckebkgbpaaLib
import Derived.Lib.AppendZeros
namespace Go.Proofs.Ytohglckebkgbpaa
open Go.RowKit

/-- what the program's tables say of a slice's element type: z its zero value, size cells, bytes bytes -/
structure Elem (P : Program) (t e : TypeId) (z : Value) (size bytes : Nat) : Prop where
  und : P.underlying t = some (.slice e)
  info : (P.info? e).map (fun i => (i.zero, i.size, i.bytes)) = some (some z, size, bytes)
  zs : z.cells.size = size
  pos : 0 < size

/-- what a source slice holds: m elements -/
def SrcAt (m : Mem) (v : Value) (k size : Nat) (news : List Value) : Prop :=
  ∃ a c, v = .slice a k c ∧ news.length = k * size ∧ (∀ u ∈ news, u.oneCell' = true) ∧ ∀ j u, news[j]? = some u → ∃ ad, a = some ad ∧ m (ad.add j) = some u

theorem addr_add (b o j : Nat) : (⟨b, o, none⟩ : Addr).add j = ⟨b, o + j, none⟩ := by unfold Addr.add; split <;> simp_all

theorem SlAt.src {α : Type} {R : Mem → Value → α → Prop} {m : Mem} {v : Value} {xs : List α} (h : SlAt R m v xs) (enc : α → Value) (he : ∀ u x, R m u x → u = enc x) (h1 : ∀ x, (enc x).oneCell' = true) : SrcAt m v xs.length 1 (xs.map enc) := by
  obtain ⟨a, cap, rfl, _, _, h3⟩ := h
  refine ⟨a, cap, rfl, by simp, fun u hu => ?_, fun j u hu => ?_⟩
  · obtain ⟨x, _, rfl⟩ := List.mem_map.1 hu
    exact h1 x
  · rw [List.getElem?_map] at hu
    by_cases hj : j < xs.length
    · rw [List.getElem?_eq_getElem hj] at hu
      simp only [Option.map_some, Option.some.injEq] at hu
      obtain ⟨b, off, u', rfl, e2, e3⟩ := h3 j hj
      exact ⟨_, rfl, by rw [addr_add, e2, he _ _ e3, hu]⟩
    · rw [List.getElem?_eq_none (by omega)] at hu
      cases hu
def ints (l : List Int) : List Value := l.map (Value.int .i64)
def bools (l : List Bool) : List Value := l.map Value.bool
theorem ints_append (a b : List Int) : ints (a ++ b) = ints a ++ ints b := by simp [ints]
theorem bools_append (a b : List Bool) : bools (a ++ b) = bools a ++ bools b := by simp [bools]
theorem ints_length (a : List Int) : (ints a).length = a.length := by simp [ints]
theorem bools_length (a : List Bool) : (bools a).length = a.length := by simp [bools]
theorem Ints.src {m : Mem} {v : Value} {xs : List Int} (h : Ints m v xs) : SrcAt m v xs.length 1 (ints xs) := SlAt.src h _ (fun _ _ h => h) (fun _ => rfl)
theorem Bools.src {m : Mem} {v : Value} {xs : List Bool} (h : Bools m v xs) : SrcAt m v xs.length 1 (bools xs) := SlAt.src h _ (fun _ _ h => h) (fun _ => rfl)
theorem SrcAt.mono {m m' : Mem} {v : Value} {k size : Nat} {news : List Value} (hs : Sub m m') (h : SrcAt m v k size news) : SrcAt m' v k size news := by
  obtain ⟨a, c, h1, h2, h3, h4⟩ := h
  exact ⟨a, c, h1, h2, h3, fun j u hu => let ⟨ad, e1, e2⟩ := h4 j u hu; ⟨ad, e1, hs _ _ e2⟩⟩
/-- a literal of one element, just laid -/
theorem SrcAt.lit (w : World) (u : Value) (e : TypeId) (h1 : u.oneCell' = true) (c : Nat) : SrcAt (w.alloc (.cells #[u] e)).cell? (.slice (some ⟨w.heap.size, 0, none⟩) 1 c) 1 1 [u] := by
  refine ⟨_, c, rfl, rfl, by simpa using h1, fun j x hx => ⟨_, rfl, ?_⟩⟩
  match j, hx with
  | 0, hx =>
    simp at hx
    subst hx
    rw [addr_add]
    exact cell_new w u e

theorem app_own {P : Program} {t e : TypeId} {z : Value} {size bytes : Nat} (E : Elem P t e z size bytes) (ty : TypeId) {w : World} {base n m : Nat} {v x : Value} {xs news : List Value}
    (hown : w.ownsRow base e size v n xs) (hx : SrcAt w.cell? x m size news) (hbytes : (n + m) * bytes ≤ 140737488355328) (h63 : n + m ≤ maxLen) (hbase : base ≤ w.heap.size) :
    ∃ v' w', (Builtin.append_ #[t, t] ty #[v, x]).run P w = .ok v' w' ∧ w'.ownsRow base e size v' (n + m) (xs ++ news) ∧ w.grownBy w' v.ownBlock := by
  obtain ⟨i, hi, hz, hsz, hby⟩ := info_parts E.info
  obtain ⟨a, c, rfl, hl, h1, h4⟩ := hx
  by_cases hm : m = 0
  · subst hm
    have hn : news = [] := List.eq_nil_of_length_eq_zero (by simpa using hl)
    subst hn
    refine ⟨v, w, ?_, by simpa using hown, ⟨rfl, rfl, rfl, Nat.le_refl _, fun _ _ _ => rfl⟩⟩
    rcases hown.2 with ⟨rfl, rfl⟩ | ⟨g, cap, cur, rfl, _, _, hle, _⟩
    · cases a <;> simp [Builtin.append_, run_underlying E.und, sizeOf, typeInfo, hi, Builtin.lenOf, Builtin.firstCells, loadCells, loadCellsFrom]
    · cases a <;> simp [Builtin.append_, run_underlying E.und, sizeOf, typeInfo, hi, Builtin.lenOf, Builtin.firstCells, loadCells, loadCellsFrom, hle, storeCells]
  · have hne : 0 < news.length := by rw [hl]; exact Nat.mul_pos (by omega) E.pos
    obtain ⟨ad, rfl, _⟩ := h4 0 news[0] (by simp [hne])
    obtain ⟨v', w', hr, h2, h3, _⟩ := run_append_own (P := P) w base t ty e i z size bytes E.und hi hz hsz hby E.zs E.pos v n xs hown ad m c news hl
      (fun j u hu => by obtain ⟨ad', e1, e2⟩ := h4 j u hu; cases e1; exact e2) h1 h63 hbytes hbase
    exact ⟨v', w', hr, h2, h3⟩

/-- append onto a slice of the call's own, as an operation -/
theorem wpList_app {P : Program} {t e : TypeId} {z : Value} {size bytes : Nat} (E : Elem P t e z size bytes) {w : World} {ops : Array Oper} {rest : List Oper} {o : Oper} {a : Act} {Q : Exit → Act → World → Prop} (hgd : o.guard = none) (s x : Operand)
    (ho : o.op = .call { callee := .builtin .append, args := #[s, x], argTypes := #[t, t] }) (base n m : Nat) (xs news : List Value)
    (hown : w.ownsRow base e size (a.eval s) n xs) (hx : SrcAt w.cell? (a.eval x) m size news) (hbytes : (n + m) * bytes ≤ 140737488355328) (h63 : n + m ≤ maxLen) (hbase : base ≤ w.heap.size)
    (h : ∀ v' w', w'.ownsRow base e size v' (n + m) (xs ++ news) → w.grownBy w' (a.eval s).ownBlock → wpList P ops Q rest (a.put o.dst v') w') : wpList P ops Q (o :: rest) a w := by
  obtain ⟨v', w', hr, h2, h3⟩ := app_own E o.type hown hx hbytes h63 hbase
  exact Lib.wpList_append_run w hgd s x t t ho _ _ rfl rfl v' w' hr (h v' w' h2 h3)

/-- a slice of the call's own reads as a list -/
theorem own_slAt {α : Type} {R : Mem → Value → α → Prop} {w : World} {base : Nat} {e : TypeId} {v : Value} {n : Nat} {us : List Value} {xs : List α} (h : w.ownsRow base e 1 v n us) (hl : us.length = xs.length) (hR : ∀ j (h : j < xs.length) (h' : j < us.length), R w.cell? us[j] xs[j]) : SlAt R w.cell? v xs := by
  have hn : xs.length = n := by have := h.1; omega
  rcases h.2 with ⟨rfl, rfl⟩ | ⟨g, cap, cur, rfl, hg, hh, h1, h2, h3, h4⟩
  · have : xs = [] := List.eq_nil_of_length_eq_zero (by omega)
    subst this
    exact ⟨none, 0, rfl, by simp, by simp [maxLen], fun j hj => by simp at hj⟩
  · refine ⟨_, cap, by rw [hn], by omega, h2, fun j hj => ⟨g, 0, us[j], rfl, ?_, hR j hj (by omega)⟩⟩
    have hj' : j < us.length := by omega
    rw [cell_of_row w g (0 + j) cur e (0, 0) hh, Nat.zero_add]
    have := congrArg (fun l => l[j]?) h4
    simp only [List.getElem?_take] at this
    rw [if_pos (by omega)] at this
    simpa [hj'] using this
theorem own_ints {w : World} {base : Nat} {e : TypeId} {v : Value} {n : Nat} {xs : List Int} (h : w.ownsRow base e 1 v n (ints xs)) : Ints w.cell? v xs :=
  own_slAt h (by simp [ints]) (fun j h1 h2 => by simp [IntR, ints])
/-- the memory from block k on -/
def newM (k : Nat) (w : World) : Mem := fun a => if k ≤ a.block then w.cell? a else none
theorem newM_sub (k : Nat) (w : World) : Sub (newM k w) w.cell? := fun a v h => by
  simp only [newM] at h; split at h
  · exact h
  · simp at h
theorem own_intsN {w : World} {base k : Nat} {e : TypeId} {v : Value} {n : Nat} {xs : List Int} (h : w.ownsRow base e 1 v n (ints xs)) (hk : k ≤ base) : Ints (newM k w) v xs := by
  obtain ⟨a, cap, hv, h1, h2, h3⟩ := own_ints h
  refine ⟨a, cap, hv, h1, h2, fun j hj => ?_⟩
  obtain ⟨b, off, u, e1, e2, e3⟩ := h3 j hj
  refine ⟨b, off, u, e1, ?_, e3⟩
  have hb : k ≤ b := by
    rcases h.2 with ⟨rfl, h0⟩ | ⟨g, cap', cur, rfl, hg, _⟩
    · rw [e1] at hv; simp at hv
    · rw [e1] at hv; simp at hv; omega
  simp only [newM, hb, if_true]
  exact e2
theorem own_bools {w : World} {base : Nat} {e : TypeId} {v : Value} {n : Nat} {xs : List Bool} (h : w.ownsRow base e 1 v n (bools xs)) : Bools w.cell? v xs :=
  own_slAt h (by simp [bools]) (fun j h1 h2 => by simp [BoolR, bools])
theorem own_shape {w : World} {base : Nat} {e : TypeId} {size : Nat} {v : Value} {n : Nat} {us : List Value} (h : w.ownsRow base e size v n us) : ∃ a cap, v = .slice a n cap ∧ n ≤ cap ∧ cap ≤ 9223372036854775807 := by
  rcases h.2 with ⟨rfl, rfl⟩ | ⟨g, cap, cur, rfl, _, _, h1, h2, _⟩
  · exact ⟨none, 0, rfl, by simp, by simp⟩
  · exact ⟨_, cap, rfl, h1, h2⟩
theorem own_len {w : World} {base : Nat} {e : TypeId} {v : Value} {n : Nat} {us : List Value} (h : w.ownsRow base e 1 v n us) : n = us.length := by have := h.1; omega
theorem own_below {w w' : World} {base : Nat} {e : TypeId} {size : Nat} {v : Value} {n : Nat} {us : List Value} (h : w.ownsRow base e size v n us) (hb : Below w.heap.size w w') : w'.ownsRow base e size v n us := by
  refine ⟨h.1, ?_⟩
  rcases h.2 with h | ⟨g, cap, cur, rfl, hg, hh, r⟩
  · exact .inl h
  · exact .inr ⟨g, cap, cur, rfl, hg, (hb.block g (Array.getElem?_eq_some_iff.1 hh).1).trans hh, r⟩
/-- what an append onto the call's own leaves of all that was there before -/
theorem below_app {w0 w w' : World} {base : Nat} {e : TypeId} {size : Nat} {v : Value} {n : Nat} {us : List Value} (hb : Below w0.heap.size w0 w) (hown : w.ownsRow base e size v n us) (hbase : w0.heap.size ≤ base) (hg : w.grownBy w' v.ownBlock) : Below w0.heap.size w0 w' :=
  hb.grown hg hb.size (fun k hk => by have := (hown.lt k hk).1; omega)

/-- below base an append onto the call's own turns nothing -/
theorem below_base {w w' : World} {base : Nat} {e : TypeId} {size : Nat} {v : Value} {n : Nat} {us : List Value} (hbase : base ≤ w.heap.size) (hown : w.ownsRow base e size v n us) (hg : w.grownBy w' v.ownBlock) : Below base w w' :=
  (Below.refl base w).grown hg hbase (fun k hk => (hown.lt k hk).1)

theorem int_elem : Elem Try.prog 22 3 (.int .i64 0) 1 8 := ⟨by kernel_rfl, by kernel_rfl, rfl, by omega⟩
theorem bool_elem : Elem Try.prog 26 4 (.bool false) 1 1 := ⟨by kernel_rfl, by kernel_rfl, rfl, by omega⟩
theorem rows_elem : Elem Try.prog 23 22 (.slice none 0 0) 1 24 := ⟨by kernel_rfl, by kernel_rfl, rfl, by omega⟩
end Go.Proofs.Ytohglckebkgbpaa
