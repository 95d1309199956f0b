/-
  Contract of the law's own helper within.
-/
import Derived.Test.YtlfngcmlaiinoaaTwo
import Derived.Test.YtlfngcmlaiinoaaWins
namespace Go.Proofs.Ytlfngcmlaiinoaa
open Go.RowKit

def withinTo (set : List Bool) (s : List Int) (k : Nat) : List Int := (List.range k).map fun i => if set.getD i false then s.getD i 0 else -1
theorem withinTo_succ (set : List Bool) (s : List Int) (k : Nat) : withinTo set s (k + 1) = withinTo set s k ++ [if set.getD k false then s.getD k 0 else -1] := by simp [withinTo, List.range_succ]
theorem withinTo_len (set : List Bool) (s : List Int) (k : Nat) : (withinTo set s k).length = k := by simp [withinTo]
theorem withinTo_getD (set : List Bool) (s : List Int) (k i : Nat) (h : i < k) : (withinTo set s k).getD i 0 = if set.getD i false then s.getD i 0 else -1 := by
  simp [withinTo, List.getD_eq_getElem?_getD, h]

set_option maxHeartbeats 1000000 in
theorem lawWithin_calls (w : World) (vset vs : Value) (set : List Bool) (s : List Int) (hset : Bools w.cell? vset set) (hs : Ints w.cell? vs s) (hl : s.length ≤ 100000) :
    Calls Try.prog 26 #[vset, vs] w (RetR w fun W u => Ints W.cell? u (withinTo set s s.length)) := by
  have HA := Lib.hid hset; have HS := Lib.hid hs
  obtain ⟨aa, ca, rfl, a1, a2⟩ := SlAt.shape hset
  obtain ⟨as1, cs1, rfl, s1, s2⟩ := SlAt.shape hs
  clear hset hs
  go_enter Try.func26, Try.ntmps26
  go_wp2
  go_loopg [5, 6] s.length (fun gk v k wr => ∃ m : Nat, m ≤ s.length ∧ gk = s.length - m ∧ k = .int .i64 m ∧ Hid (wr.ownsRow w.heap.size 3 1 v (ints (withinTo set s m)).length (ints (withinTo set s m))) ∧ Hid (Below w.heap.size w wr))
  case atStart =>
    refine ⟨0, Nat.zero_le _, rfl, rfl, ?_, below_alloc w _⟩
    exact World.ownsRow_made w #[] 0 (Nat.le_refl _) (by simp [maxLen]) rfl
  case round =>
    obtain ⟨m, hm, hgk, rfl, HO, HB⟩ := hrel
    have HGK := Lib.hid hgk; clear hgk
    have hsz := HB.out.size
    have HLEN : Hid ((ints (withinTo set s m)).length = m) := by unfold Hid; rw [ints_length, withinTo_len]
    by_cases hlt : m < s.length
    · obtain ⟨bs, offs, rfl, k1⟩ := Ints.get HS.out (bsub HB.out) hlt
      have hsg : s.getD m 0 = s[m] := by simp [List.getD_eq_getElem?_getD, hlt]
      have hsucc := withinTo_succ set s m
      rw [hsg] at hsucc
      have HSG := Lib.hid hsucc; clear hsucc hsg
      generalize s[m] = sm at k1 HSG
      have go (x : Bool) (hx : set.getD m false = x) : Hid (ints (withinTo set s (m + 1)) = ints (withinTo set s m) ++ [.int .i64 (if x then sm else -1)]) := by
        rw [HSG.out, hx, ints_append]; exact rfl
      by_cases hla : m < set.length
      · obtain ⟨ba, offa, rfl, k2⟩ := Bools.get HA.out (bsub HB.out) hla
        have hx := go set[m] (by simp [List.getD_eq_getElem?_getD, hla])
        clear go HSG
        generalize set[m] = x at k2 hx
        cases x
        all_goals
          go_wp2_with (at_builtin; refine wpList_push int_elem rfl _ _ rfl w.heap.size (ints (withinTo set s m)) _ 1 rfl rfl ?c3 ?c4 ?c5 HB.out.size ?_)
          case c3 => exact HO.out
          case c4 => have := HLEN.out; omega
          case c5 => have := HLEN.out; unfold maxLen; omega
          intro v' W2 hp
          have HB2 := Lib.hid (hp.below HO.out (Nat.le_refl _) HB.out)
          have HO2 := Lib.hid hp.own
          clear hp k1 k2
          go_wp2
          go_roundg (gk - 1)
          case measure => have := HGK.out; omega
          case rel => exact ⟨m + 1, by omega, by have := HGK.out; omega, by go_num, by rw [hx.out]; exact HO2.out, HB2⟩
      · have hx := go false (by simp [List.getD_eq_getElem?_getD, hla])
        clear go HSG
        go_wp2_with (at_builtin; refine wpList_push int_elem rfl _ _ rfl w.heap.size (ints (withinTo set s m)) _ 1 rfl rfl ?c3 ?c4 ?c5 HB.out.size ?_)
        case c3 => exact HO.out
        case c4 => have := HLEN.out; omega
        case c5 => have := HLEN.out; unfold maxLen; omega
        intro v' W2 hp
        have HB2 := Lib.hid (hp.below HO.out (Nat.le_refl _) HB.out)
        have HO2 := Lib.hid hp.own
        clear hp k1
        go_wp2
        go_roundg (gk - 1)
        case measure => have := HGK.out; omega
        case rel => exact ⟨m + 1, by omega, by have := HGK.out; omega, by go_num, by rw [hx.out]; exact HO2.out, HB2⟩
    · have hmn : m = s.length := by omega
      subst hmn
      go_wp2
      go_ret
      exact ⟨_, rfl, own_ints HO.out, HB.out⟩
end Go.Proofs.Ytlfngcmlaiinoaa
