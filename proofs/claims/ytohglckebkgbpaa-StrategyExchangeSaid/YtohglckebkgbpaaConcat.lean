/-
  Contracts of slices.Grow (from nil), Clone, Concat, at []int.
-/
import Derived.Test.YtohglckebkgbpaaAppend
namespace Go.Proofs.Ytohglckebkgbpaa
open Go.RowKit

/-- the call returns a slice of its own that holds xs -/
def RetOwn (w : World) (e : TypeId) (us : List Value) (en : Ending) (w' : World) : Prop := ∃ v, en = .returned v ∧ w'.ownsRow w.heap.size e 1 v us.length us ∧ Below w.heap.size w w'
/-- the call returns a slice of its own, as long as the list, or nil -/
theorem RetOwn.ints {w w' : World} {e : TypeId} {xs : List Int} {en : Ending} (h : RetOwn w e (ints xs) en w') : RetR w (fun W u => Ints W.cell? u xs) en w' := by
  obtain ⟨v, h1, h2, h3⟩ := h
  exact ⟨v, h1, own_ints h2, h3⟩

theorem own_zeros (w : World) (m : Nat) (e : TypeId) (c : Array Value) (hc : c.size = m) (hm : m ≤ maxLen) : (w.alloc (.cells c e)).ownsRow w.heap.size e 1 (.slice (some ⟨w.heap.size, 0, none⟩) 0 m) 0 [] :=
  World.ownsRow_made w c m (Nat.le_refl _) hm (by omega)

theorem slices_Grow (w : World) (n : Nat) (hn : n * 8 ≤ 281474976710656) :
    Calls Try.prog 51 #[.slice none 0 0, .int .i64 n] w (RetOwn w 3 []) := by
  obtain ⟨i, hi, hz, hsz, hby⟩ := info_parts int_elem.info
  by_cases h0 : 0 < n
  · have hr := fun (u : World) => Lib.run_append_nil_zeros (P := Try.prog) u 22 3 22 3 i (.int .i64 0) .i64 .i64 int_elem.und (by kernel_rfl) hi hz n h0 (by omega) (by omega) (by rw [hby]; exact hn)
    have HR := Lib.hid hr; clear hr
    go_enter Try.func51, Try.ntmps51
    go_wp2_with (at_builtin; refine Lib.wpList_append_run _ rfl _ _ _ _ rfl _ _ rfl rfl _ _ (HR.out _) ?_)
    go_ret
    exact ⟨_, rfl, own_zeros w.drew _ _ _ (by simp only [Array.size_append, size_zeroCells]; have := grownCap_ge w n 0 3; show n * 1 + (_ - n) * 1 = _; omega) (grownCap_le_maxLen _ _ _ _ (by unfold maxLen; omega)), bstep (below_drew _) (below_alloc _ _)⟩
  · have h1 : n = 0 := by omega
    subst h1
    go_enter Try.func51, Try.ntmps51
    go_wp2
    go_ret
    exact ⟨_, rfl, World.ownsRow_nil _ _ _ _, Below.refl _ _⟩

theorem slices_Clone (w : World) (v : Value) (xs : List Int) (hx : Ints w.cell? v xs) (hb : xs.length * 8 ≤ 140737488355328) :
    Calls Try.prog 41 #[v] w (RetOwn w 3 (ints xs)) := by
  have HX := Lib.hid hx
  obtain ⟨a, cap, rfl, h1, h2⟩ := SlAt.shape hx
  have hnil := fun (u : World) => Lib.run_eql_slice_nil (P := Try.prog) u 22 3 a xs.length cap 0 0 Try.underlying22
  have hl : xs.length ≤ maxLen := by unfold maxLen; omega
  clear hx
  cases a with
  | none =>
    have hxs : xs = [] := by
      cases xs with
      | nil => rfl
      | cons x l => obtain ⟨b, off, h, _⟩ := Ints.get (j := 0) HX.out (Sub.refl _) (by simp); cases h
    subst hxs
    have hnil0 : ∀ u : World, (binOp .eql 22 (.slice none 0 cap) (.slice none 0 0)).run Try.prog u = .ok (.bool true) u := hnil
    clear hnil
    go_enter Try.func41, Try.ntmps41
    go_wp2
    go_ret
    exact ⟨_, rfl, World.ownsRow_nil _ _ _ _, Below.refl _ _⟩
  | some ad =>
    go_enter Try.func41, Try.ntmps41
    go_wp2_with (at_builtin; refine wpList_app int_elem rfl _ _ rfl w.heap.size 0 xs.length [] (ints xs) ?c1 ?c2 ?c3 ?c4 ?c5 ?_)
    case c1 => exact World.ownsRow_made w #[] 0 (Nat.le_refl _) (by simp [maxLen]) rfl
    case c2 => exact HX.out.src.mono (bsub (below_alloc _ _))
    case c3 => omega
    case c4 => omega
    case c5 => simp
    intro v' w' hown hg
    have HO := Lib.hid hown; have HG := Lib.hid hg; clear hown hg
    go_wp2
    go_ret
    refine ⟨_, rfl, ?_, ?_⟩
    · have h := HO.out
      rw [ints_length]; exact h
    · exact below_app (size := 1) (below_alloc w (.cells #[] 3)) (World.ownsRow_made w #[] 0 (Nat.le_refl _) (by simp [maxLen]) rfl) (Nat.le_refl _) HG.out

def sumLen (l : List (List Int)) : Nat := (l.map List.length).sum
theorem sumLen_take (l : List (List Int)) (m : Nat) (h : m < l.length) : sumLen (l.take (m + 1)) = sumLen (l.take m) + l[m].length := by
  unfold sumLen
  rw [List.take_succ_eq_append_getElem h, List.map_append, List.sum_append]
  rfl
theorem sumLen_le (l : List (List Int)) (m : Nat) : sumLen (l.take m) ≤ sumLen l := by
  unfold sumLen
  have := congrArg (fun x => (x.map List.length).sum) (List.take_append_drop m l)
  rw [List.map_append, List.sum_append] at this
  omega
theorem flatten_take (l : List (List Int)) (m : Nat) (h : m < l.length) : (l.take (m + 1)).flatten = (l.take m).flatten ++ l[m] := by
  rw [List.take_succ_eq_append_getElem h, List.flatten_append]
  simp only [List.flatten_cons, List.flatten_nil, List.append_nil]
theorem flatten_len (l : List (List Int)) : l.flatten.length = sumLen l := by
  unfold sumLen
  rw [List.length_flatten]

set_option maxHeartbeats 1000000 in
theorem slices_Concat (w : World) (v : Value) (l : List (List Int)) (hx : Rows2 w.cell? v l) (hb : sumLen l * 8 ≤ 140737488355328) :
    Calls Try.prog 38 #[v] w (RetOwn w 3 (ints l.flatten)) := by
  have HX := Lib.hid hx
  obtain ⟨a, cap, rfl, h1, h2⟩ := SlAt.shape hx
  clear hx
  go_enter Try.func38, Try.ntmps38
  go_wp2
  go_loop [3, 11] (fun t k => ∃ m : Nat, m ≤ l.length ∧ k = .int .i64 m ∧ t = .int .i64 (sumLen (l.take m))) (fun _ k => l.length - (intOf k).toNat)
  case atStart => exact ⟨0, Nat.zero_le _, rfl, rfl⟩
  case round =>
    obtain ⟨m, hm, rfl, rfl⟩ := hrel
    by_cases hlt : m < l.length
    · obtain ⟨b, off, a', cap', rfl, k1, x1, x2, _⟩ := Rows2.get HX.out (Sub.refl _) hlt
      have hs := sumLen_take l m hlt
      have hle := sumLen_le l (m + 1)
      rw [hs] at hle
      have HSL := Lib.hid hs; clear hs
      generalize sumLen (l.take m) = sm at HSL hle ⊢
      go_wp2
      first
        | exact ⟨⟨m + 1, by omega, by go_num, by rw [HSL.out]; go_num⟩, by simp [intOf]; omega⟩
        | (go_round; (case rel => exact ⟨m + 1, by omega, by go_num, by rw [HSL.out]; go_num⟩); (case measure => simp [intOf]; omega))
    · have hmn : m = l.length := by omega
      have hsl : sumLen (l.take m) = sumLen l := by rw [hmn, List.take_of_length_le (Nat.le_refl _)]
      rw [hsl]
      clear hmn hsl
      go_wp2_with fail
      refine (slices_Grow w (sumLen l) (by omega)).mono ?_
      rintro e w1 ⟨v1, rfl, hown, hb1⟩
      have HO1 := Lib.hid hown; have HB1 := Lib.hid hb1; clear hown hb1
      go_wp2
      go_loopw [6, 27] (fun t k wr => ∃ j : Nat, j ≤ l.length ∧ k = .int .i64 j ∧ Hid (wr.ownsRow w.heap.size 3 1 t (sumLen (l.take j)) (ints (l.take j).flatten)) ∧ Hid (Below w.heap.size w wr)) (fun _ k _ => l.length - (intOf k).toNat)
      case atStart => exact ⟨0, Nat.zero_le _, rfl, HO1.out, HB1.out⟩
      case round =>
        obtain ⟨j, hj, rfl, ho, hbl⟩ := hrel
        by_cases hjl : j < l.length
        · obtain ⟨b, off, a', cap', hao, k1, x1, x2, HR⟩ := Rows2.get HX.out (bsub hbl.out) hjl
          have HSL := Lib.hid (sumLen_take l j hjl)
          have hle := sumLen_le l (j + 1)
          rw [HSL.out] at hle

          subst hao
          go_wp2_with (at_builtin; refine wpList_app int_elem rfl _ _ rfl w.heap.size (sumLen (l.take j)) l[j].length (ints (l.take j).flatten) (ints l[j]) ?c1 ?c2 ?c3 ?c4 ?c5 ?_)
          case c1 => exact ho.out
          case c2 => exact HR.out.src
          case c3 => omega
          case c4 => unfold maxLen; omega
          case c5 => exact hbl.out.size
          intro v' w' hown hg
          have hb' := Lib.hid (below_app hbl.out ho.out (Nat.le_refl _) hg)
          have hown' : Hid (w'.ownsRow w.heap.size 3 1 v' (sumLen (l.take (j + 1))) (ints (l.take (j + 1)).flatten)) := by
            rw [HSL.out, flatten_take l j hjl, ints_append]; exact hown
          clear hown hg
          go_wp2
          first
            | exact ⟨⟨j + 1, by omega, by go_num, hown', hb'⟩, by simp [intOf]; omega⟩
            | (go_roundw; (case rel => exact ⟨j + 1, by omega, by go_num, hown', hb'⟩); (case measure => simp [intOf]; omega))
        · have hjn : j = l.length := by omega
          have hfl : Hid (wr.ownsRow w.heap.size 3 1 u6 (ints l.flatten).length (ints l.flatten)) := by
            have h := ho.out
            rw [hjn, List.take_of_length_le (Nat.le_refl _)] at h
            rw [ints_length, flatten_len]
            exact h
          clear hjn
          go_wp2
          go_ret
          exact ⟨_, rfl, hfl.out, hbl.out⟩
end Go.Proofs.Ytohglckebkgbpaa
