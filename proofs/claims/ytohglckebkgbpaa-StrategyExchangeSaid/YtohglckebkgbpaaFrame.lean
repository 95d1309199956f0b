/-
  From the form's own reading of arguments to this seat's words; what a law's call leaves.
-/
import Derived.Test.YtohglckebkgbpaaLib
import Derived.ProofKit
import Derived.OpenShut
import Derived.JoinedCond
namespace Go.Proofs.Ytohglckebkgbpaa
open Go.RowKit Go.ChangeShapes Go.WideShapes Go.ChangeAt

section
variable {H : Type} {enc : TypeId × Value → H} {P : Program}

theorem mapM_at {α β : Type} {f : α → Option β} : ∀ {l : List α} {r : List β}, l.mapM f = some r → ∀ j (h : j < l.length), ∃ y, f l[j] = some y
  | [], _, _, j, h => by simp at h
  | x :: l, r, hm, j, h => by
    simp only [List.mapM_cons, Option.bind_eq_bind, Option.bind_eq_some_iff] at hm
    obtain ⟨y, hy, ys, hys, _⟩ := hm
    match j, h with
    | 0, _ => exact ⟨y, hy⟩
    | j + 1, h => exact mapM_at hys j (by simpa using h)

theorem cells1 {w : World} {b : Nat} {a : Addr} {cs : List Value} (h : w.cells? b a 1 = some cs) : ∃ c, cs = [c] ∧ w.cell? a = some c := by
  unfold World.cells? at h
  split at h
  · have e : List.range 1 = [0] := rfl
    rw [e] at h
    simp only [List.mapM_cons, List.mapM_nil, Option.bind_eq_bind, Option.bind_eq_some_iff] at h
    obtain ⟨c, hc, ys, hys, hcs⟩ := h
    cases hys
    cases hcs
    exact ⟨c, rfl, by simpa [Addr.add] using hc⟩
  · cases h

theorem spot_none {w : World} {a : Addr} {c : Value} (h : w.cell? a = some c) : a = ⟨a.block, a.off, none⟩ := by
  obtain ⟨b, o, s⟩ := a
  cases s with
  | none => rfl
  | some x =>
    unfold World.cell? at h
    split at h <;> simp at h

/-- a slice whose elements have one cell each -/
theorem slAt_of_trod {α : Type} {R : Mem → Value → α → Prop} {w : World} {sp : Nat → Bool} {t e : TypeId} (ht : P.underlying t = some (.slice e)) (hce : P.cellsOf e = 1)
    (hR : ∀ (fuel : Nat) (c : Value) (d : DataW H) (ps : List MemPlace), DataW.trod enc P w 0 sp true fuel e [c] = some (d, ps) → ∃ x, R w.cell? c x)
    {fuel : Nat} {v : Value} {d : DataW H} {ps : List MemPlace} (h : DataW.trod enc P w 0 sp true fuel t [v] = some (d, ps)) : ∃ xs : List α, SlAt R w.cell? v xs := by
  cases fuel with
  | zero => simp [DataW.trod] at h
  | succ fuel =>
    unfold DataW.trod at h
    rw [ht] at h
    cases v <;> simp only [reduceCtorEq] at h
    case slice a len cap =>
      cases a with
      | none =>
        match len, cap, h with
        | 0, 0, _ => exact ⟨[], none, 0, rfl, by simp, by simp [maxLen], fun j hj => by simp at hj⟩
      | some a =>
        simp only at h
        split at h
        · rename_i hb
          simp only [Option.bind_eq_some_iff] at h
          obtain ⟨elems, he, _⟩ := h
          have hel : ∀ j, j < len → ∃ b off u x, (some a : Option Addr) = some ⟨b, off, none⟩ ∧ w.cell? ⟨b, off + j, none⟩ = some u ∧ R w.cell? u x := by
            intro j hj
            obtain ⟨y, hy⟩ := mapM_at he j (by simpa using hj)
            simp only [List.getElem_range, Option.bind_eq_some_iff, hce, Nat.mul_one] at hy
            obtain ⟨cs, hcs, hy⟩ := hy
            obtain ⟨c, rfl, hc⟩ := cells1 hcs
            obtain ⟨x, hx⟩ := hR fuel c y.1 y.2 (by simpa using hy)
            obtain ⟨y0, hy0⟩ := mapM_at he 0 (by simp; omega)
            simp only [List.getElem_range, Option.bind_eq_some_iff, hce, Nat.mul_one] at hy0
            obtain ⟨cs0, hcs0, _⟩ := hy0
            obtain ⟨c0, _, hc0⟩ := cells1 hcs0
            have h0 : a = ⟨a.block, a.off, none⟩ := spot_none (by simpa [Addr.add] using hc0)
            refine ⟨a.block, a.off, c, x, by rw [← h0], ?_, hx⟩
            rw [h0] at hc
            unfold Addr.add at hc
            split at hc
            · rename_i hj0; subst hj0; simpa using hc
            · exact hc
          refine ⟨List.ofFn (fun j : Fin len => (hel j.1 j.2).choose_spec.choose_spec.choose_spec.choose), some a, cap, by simp, by simpa using hb.2.1, hb.2.2, fun j hj => ?_⟩
          have hj' : j < len := by simpa using hj
          obtain ⟨h1, h2, h3⟩ := (hel j hj').choose_spec.choose_spec.choose_spec.choose_spec
          exact ⟨_, _, _, h1, h2, by simpa using h3⟩
        · cases h

theorem int_of_trod {w : World} {sp : Nat → Bool} {t : TypeId} (ht : P.underlying t = some (.int .i64)) (fuel : Nat) (c : Value) (d : DataW H) (ps : List MemPlace) (h : DataW.trod enc P w 0 sp true fuel t [c] = some (d, ps)) : ∃ x, IntR w.cell? c x := by
  cases fuel with
  | zero => simp [DataW.trod] at h
  | succ fuel =>
    unfold DataW.trod at h
    rw [ht] at h
    cases c <;> simp only [reduceCtorEq] at h
    case int k n =>
      split at h
      · rename_i hk; exact ⟨n, by rw [hk.1]; rfl⟩
      · cases h
theorem bool_of_trod {w : World} {sp : Nat → Bool} {t : TypeId} (ht : P.underlying t = some .bool) (fuel : Nat) (c : Value) (d : DataW H) (ps : List MemPlace) (h : DataW.trod enc P w 0 sp true fuel t [c] = some (d, ps)) : ∃ x, BoolR w.cell? c x := by
  cases fuel with
  | zero => simp [DataW.trod] at h
  | succ fuel =>
    unfold DataW.trod at h
    rw [ht] at h
    cases c <;> simp only [reduceCtorEq] at h
    case bool b => exact ⟨b, rfl⟩

/-- the arguments read as they did -/
theorem trodAll_below {W W' : World} (hl : laidOutB P = true) (hb : Below W.heap.size W W') : ∀ (ts : List TypeId) (vs : List Value) (ds : List (DataW H)) (ps : List MemPlace), (∀ t ∈ ts, P.readableRec t = true ∧ t < P.types.size) →
    DataW.TrodAll enc P W 0 (fun _ => true) true ts vs ds ps → (∀ x ∈ ps, x.block < W.heap.size) → DataW.TrodAll enc P W' 0 (fun b => decide (b < W.heap.size)) true ts vs ds ps
  | [], vs, ds, ps, _, h, _ => by
    cases vs <;> cases ds <;> simp_all [DataW.TrodAll]
  | t :: ts, vs, ds, ps, hr, h, hlt => by
    cases vs with
    | nil => cases ds <;> simp [DataW.TrodAll] at h
    | cons v vs =>
      cases ds with
      | nil => simp [DataW.TrodAll] at h
      | cons d ds =>
        obtain ⟨p, q, h1, h2, rfl⟩ := h
        exact ⟨p, q, Below.trod hl (hr t (by simp)).1 (hr t (by simp)).2 h1 hb (fun x hx => hlt x (by simp [hx])), trodAll_below hl hb ts vs ds q (fun t' ht' => hr t' (by simp [ht'])) h2 (fun x hx => hlt x (by simp [hx])), rfl⟩

/-- a law's call that returned true and left all that was there as it was -/
theorem law_post {f : Func} {s : ChangeSpec} {W W' : World} {args : Array Value} {ds gs : List (DataW H)} {before : List MemPlace} {tb : TypeId} (hl : laidOutB P = true)
    (hrt : f.resultTypes = #[tb]) (htb : P.underlying tb = some .bool) (hread : ∀ t ∈ f.params.toList, P.readableRec t = true ∧ t < P.types.size) (hvars : s.vars = []) (hfn : s.fn H (ds ++ gs) = { results := [.lit (.bool true)], args := ds })
    (hW : DataW.Whole enc P f.params.toList s.vars false W args.toList ds gs before) (hb : Below W.heap.size W W') : s.post enc P f false true false false W args (.bool true) W' := by
  have hlt := fun p hp => hW.lt p hp
  have hWW := hW
  obtain ⟨p, q, hA, hV, rfl, hfz, hnd⟩ := hWW
  rw [hvars] at hV
  have hq : q = [] := by
    cases gs <;> simp_all [DataW.TrodVars]
  subst hq
  refine ⟨ds, gs, p ++ [], [], p, [], hW, ?_, ?_, ?_, hb.frame _, by simp⟩
  · rw [hfn, hrt]
    exact ⟨[], [], ⟨1, by simp [Value.cells, DataW.trod, htb]⟩, rfl, rfl⟩
  · rw [hfn]
    exact trodAll_below hl hb _ _ _ _ hread hA (fun x hx => hlt x (by simp [hx]))
  · rw [hfn, hvars]
    exact rfl
end
end Go.Proofs.Ytohglckebkgbpaa
