/-
  Proved: SignalOrder returns true for all signals, letter and signal: increasing the value of the signal increases the letter and either its input or its output and leaves the other one as it is. Condition: the variables strings.asciiSpace and unicode.White_Space start as the text lays them, which the card ties to the text.
-/
import Derived.Test.YtlkgkjpnphdhdaaDoorSi
import Derived.Test.YtlkgkjpnphdhdaaDoorEndc
import Derived.Test.YtlkgkjpnphdhdaaDoorRows
import Derived.Test.YtlkgkjpnphdhdaaDoorCards
import Derived.Test.YtlkgkjpnphdhdaaDoorTie
import Derived.SevenTiedAt
namespace Go.Proofs.YtlkgkjpnphdhdaaDoor
open Go.RowKit Go.ChangeShapes Go.WideShapes Go.ChangeAt

theorem int_of_c {F : Mem} {v : Value} {n : Bool} (h : RepV F .bool v n) : v = .bool n := by
  have : [v] = [Value.bool n] := h
  simpa using this
set_option maxRecDepth 100000 in
theorem SignalOrder_lifted (os : Os) (started : os.Started) (H : Type) (enc : TypeId × Value → H) :
    ReturnsInHanded {} Tryd.checked os 7 .any (fun w args => (Rows.signalOrderSpec.pre enc Tryd.prog Tryd.f7 [] false w args ∧ laidMetH Tryd.prog laidL w) ∧ sizedMet enc Tryd.prog Tryd.f7 (OpenSpec.ofChange Rows.signalOrderSpec) false w args)
      (Rows.signalOrderSpec.post enc Tryd.prog Tryd.f7 false true false false) := by
  refine returnsInHanded_of_change_and (C := Tryd.checked) (X := fun w _ => laidMetH Tryd.prog laidL w) (fun _ _ _ hh h => h.of_heap hh) ownk started (by kernel_rfl) Tryd.func7
    (ChangeSpec.witness_shaped (enc := enc) (C := Tryd.checked) (os := os) (X := fun w _ => laidMetH Tryd.prog laidL w) false (World.doorLaid Tryd.prog 33 os) #[.slice none 0 0, .int .u8 0, .int .u8 0] 8 rfl (World.shaped_of_RefB (by kernel_rfl) (by kernel_rfl)) (by kernel_rfl) (by kernel_rfl) (by kernel_rfl) (door_met os _)) ?_
  intro W base args ds gs before hval0 hW _ _ hL _
  have hval : ∀ (j : Nat) t v, Tryd.f7.params[j]? = some t → args[j]? = some v → Value.okWide Tryd.prog W .any base t v := hval0
  have hW' : DataW.Whole enc Tryd.prog Tryd.f7.params.toList Rows.signalOrderSpec.vars false W args.toList ds gs before := hW
  have hWW := hW'
  obtain ⟨p, q, hA, hV, rfl, hfz, hnd⟩ := hWW
  obtain ⟨l, hl, hrep⟩ := args_of_trod tab_ok _ [sigsT, .int .u8, .int .u8] args.toList ds p (by rw [Tryd.params7]; rfl) rfl (fun j t v a b => hval j t v (by simpa using a) (by simpa using b)) hA
  match l, hl with
  | [_, _, _], ⟨⟨x0, rfl⟩, ⟨x1, rfl⟩, ⟨x2, rfl⟩, _⟩ =>
    have hc := (cp_Order_law x0 x1 x2).out W.cell? W args.toList (glob_of_laid hL) (Sub.refl _) hrep
    rw [Array.toArray_toList] at hc
    refine hc.mono fun e W' ⟨v, F', he, hb, _, _, _, hr⟩ => ?_
    have hv := int_of_c hr
    subst hv
    rw [Tryd.params7] at hA
    obtain ⟨v0, vs0, d0, ds0, p0, q0, hargs, hds, _, h0, r0⟩ := trodAll_cons hA
    obtain ⟨v1, vs1, d1, ds1, p1, q1, rfl, rfl, _, h1, r1⟩ := trodAll_cons r0
    obtain ⟨v2, vs2, d2, ds2, p2, q2, rfl, rfl, _, h2, r2⟩ := trodAll_cons r1
    obtain ⟨rfl, rfl, _⟩ := trodAll_nil r2
    refine ⟨_, he, ?_⟩
    obtain ⟨rfl, rfl⟩ := trodVars_none hV
    exact law_post (tb := 4) laid rfl Tryd.underlying4 (by rw [Tryd.params7]; intro t ht; simp at ht; rcases ht with rfl | rfl | rfl <;> exact ⟨by kernel_rfl, of_decide_eq_true (by kernel_rfl)⟩) rfl (by rw [hds]; rfl) hW' hb

theorem SignalOrder_row : Rows.SignalOrderSaid :=
  OpenClaim.holds_of_wide 7 Tryd.f7 rfl rfl rfl rfl rfl rfl rfl ⟨rfl, rfl, rfl, rfl, rfl⟩ rfl rfl rfl rfl rfl (by kernel_rfl) Tryd.func7 (by kernel_rfl)
    (of_decide_eq_true (by kernel_rfl)) (by unfold Func.isWrapper; first | (rw [if_pos (by decide +kernel)]; kernel_rfl) | (rw [if_neg (by decide +kernel)]; exact ⟨rfl, rfl⟩))
    (fun os started H enc _ => SignalOrder_lifted os started H enc)
theorem SignalOrder_holds : Rows.SignalOrderCardSaid :=
  Claim7.holds_tied_plain_at .later [] [.listed, .data] true Rows.signalOrderCard.stood.harness false
    SignalOrder_row (fun _ h => by cases h) (by kernel_rfl) (fun _ h => by cases h) signalOrder_row_tie rfl ⟨rfl, rfl⟩ (by kernel_rfl) rfl
    (fun f fn hf hfn => by
      obtain rfl : f = 7 := Option.some.inj ((show (Tryd.prog).funcNamed Rows.signalOrderRow.func = some 7 by kernel_rfl).symm.trans hf) |>.symm
      obtain rfl : fn = Tryd.f7 := (Option.some.inj (Tryd.func7.symm.trans hfn)).symm
      exact ⟨by kernel_rfl, fun j t ht => by
        rw [Tryd.params7] at ht
        have hm := Array.mem_of_getElem? ht
        simp at hm
        rcases hm with rfl | rfl | rfl <;> exact (show (Tryd.prog).wantsStandIn _ = false by kernel_rfl)⟩)
    (by kernel_rfl)
end Go.Proofs.YtlkgkjpnphdhdaaDoor
