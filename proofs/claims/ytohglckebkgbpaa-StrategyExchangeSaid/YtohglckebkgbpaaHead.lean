/-
  The law's fixed examples: head returns true.
-/
import Derived.Test.YtohglckebkgbpaaLawHelp
namespace Go.Proofs.Ytohglckebkgbpaa
open Go.RowKit

set_option maxHeartbeats 4000000 in
set_option maxRecDepth 100000 in
theorem head_calls (w : World) : Calls Try.prog 9 #[] w (Ret w (.bool true)) := by
  go_enter Try.func9, Try.ntmps9
  go_wp2_with fail
  refine (Example_calls w).mono ?_
  rintro e w0 ⟨_, rfl, ⟨ov, pv, sv, rfl, ho, hp, hs⟩, hb0⟩
  have HE := Lib.hid ho; have HP := Lib.hid hp; have HS := Lib.hid hs
  obtain ⟨ao, co, rfl, _, _⟩ := SlAt.shape ho
  obtain ⟨ap, cp, rfl, _, _⟩ := SlAt.shape hp
  obtain ⟨au, cu, rfl, _, _⟩ := SlAt.shape hs
  have HG : Hid (GameR w0.cell? (.agg #[.slice ao 3 co, .slice ap 3 cp, .slice au 3 cu]) exG) := ⟨_, _, _, rfl, HE.out, HP.out, HS.out⟩
  clear ho hp hs HE HP HS
  have B0 := Lib.hid hb0; clear hb0
  go_wp2_with fail
  have hch : ∀ W : World, Below w0.heap.size w0 W → Below w0.heap.size w0 W := fun W h => h
  have HCH := Lib.hid hch; clear hch
  refine (strategy_Play _ _ _ _ exG [2, -1, 0] [-1, 1, -1] 1 (HG.out.mono (bsub ?b1)) (SlAt.lit3 (by go_simp) (by go_simp) (by go_simp) rfl rfl rfl) (SlAt.lit3 (by go_simp) (by go_simp) (by go_simp) rfl rfl rfl)).mono ?_
  case b1 =>
    refine HCH.out _ ?_
    repeat (first | exact Below.refl _ _ | refine Below.setCell ?_ (by simp; try omega) _ | refine Below.alloc ?_ (by simp; try omega) _)
  rintro e w1 ⟨_, rfl, ⟨sv1, lv1, rfl, hs1, hl1⟩, hb⟩
  have hsb : Sub w0.cell? w1.cell? := Sub.trans (bsub (by repeat (first | exact Below.refl _ _ | refine Below.setCell ?_ (by simp; try omega) _ | refine Below.alloc ?_ (by simp; try omega) _))) (bsub hb)
  have t0 : w1.cell? ⟨w0.heap.size + 1, 0, none⟩ = some (.bool true) := bsub hb _ _ (by go_simp)
  have t1 : w1.cell? ⟨w0.heap.size + 1, 1, none⟩ = some (.bool true) := bsub hb _ _ (by go_simp)
  have t2 : w1.cell? ⟨w0.heap.size + 1, 2, none⟩ = some (.bool true) := bsub hb _ _ (by go_simp)
  have g0 : w1.cell? ⟨w0.heap.size, 0, none⟩ = some (.slice ao 3 co) := bsub hb _ _ (by go_simp)
  have g1 : w1.cell? ⟨w0.heap.size, 1, none⟩ = some (.slice ap 3 cp) := bsub hb _ _ (by go_simp)
  have g2 : w1.cell? ⟨w0.heap.size, 2, none⟩ = some (.slice au 3 cu) := bsub hb _ _ (by go_simp)
  have C1 : Hid (Below w0.heap.size w0 w1) := by
    refine bstep (HCH.out _ ?_) hb
    repeat (first | exact Below.refl _ _ | refine Below.setCell ?_ (by simp; try omega) _ | refine Below.alloc ?_ (by simp; try omega) _)
  have hz1 : w0.heap.size < w1.heap.size := by have := hb.size; (try simp at this); omega
  have hsb01 := Lib.hid hsb
  clear hb HCH hsb
  rw [ex1] at hs1 hl1
  have HS1 := Lib.hid hs1; have HL1 := Lib.hid hl1
  obtain ⟨as1, cs1, rfl, _, _⟩ := SlAt.shape hs1
  obtain ⟨al1, cl1, rfl, _, _⟩ := SlAt.shape hl1
  clear hs1 hl1
  go_wp2_with fail
  have hch : ∀ W : World, Below w1.heap.size w1 W → Below w0.heap.size w0 W := fun W h => bstep C1.out h
  have HCH := Lib.hid hch; clear hch
  refine (strategy_Play _ _ _ _ exG [2, -1, 0] [-1, 0, -1] 1 (HG.out.mono (bsub ?b1)) (SlAt.lit3 (by go_simp) (by go_simp) (by go_simp) rfl rfl rfl) (SlAt.lit3 (by go_simp) (by go_simp) (by go_simp) rfl rfl rfl)).mono ?_
  case b1 =>
    refine HCH.out _ ?_
    repeat (first | exact Below.refl _ _ | refine Below.setCell ?_ (by simp; try omega) _ | refine Below.alloc ?_ (by simp; try omega) _)
  rintro e w2 ⟨_, rfl, ⟨sv2, lv2, rfl, hs2, hl2⟩, hb⟩
  have hsb : Sub w1.cell? w2.cell? := Sub.trans (bsub (by repeat (first | exact Below.refl _ _ | refine Below.setCell ?_ (by simp; try omega) _ | refine Below.alloc ?_ (by simp; try omega) _))) (bsub hb)
  have t0 : w2.cell? ⟨w0.heap.size + 1, 0, none⟩ = some (.bool true) := hsb _ _ t0
  have t1 : w2.cell? ⟨w0.heap.size + 1, 1, none⟩ = some (.bool true) := hsb _ _ t1
  have t2 : w2.cell? ⟨w0.heap.size + 1, 2, none⟩ = some (.bool true) := hsb _ _ t2
  have g0 : w2.cell? ⟨w0.heap.size, 0, none⟩ = some (.slice ao 3 co) := hsb _ _ g0
  have g1 : w2.cell? ⟨w0.heap.size, 1, none⟩ = some (.slice ap 3 cp) := hsb _ _ g1
  have g2 : w2.cell? ⟨w0.heap.size, 2, none⟩ = some (.slice au 3 cu) := hsb _ _ g2
  have p0 : w2.cell? ⟨w1.heap.size, 0, none⟩ = some (.slice as1 0 cs1) := bsub hb _ _ (by go_simp)
  have p1 : w2.cell? ⟨w1.heap.size, 1, none⟩ = some (.slice al1 1 cl1) := bsub hb _ _ (by go_simp)
  have C2 : Hid (Below w0.heap.size w0 w2) := by
    refine bstep (HCH.out _ ?_) hb
    repeat (first | exact Below.refl _ _ | refine Below.setCell ?_ (by simp; try omega) _ | refine Below.alloc ?_ (by simp; try omega) _)
  have hz2 : w0.heap.size < w2.heap.size := by have := hb.size; (try simp at this); omega
  have hsb12 := Lib.hid hsb
  clear hb HCH hsb
  rw [ex2] at hs2 hl2
  have HS2 := Lib.hid hs2; have HL2 := Lib.hid hl2
  obtain ⟨as2, cs2, rfl, _, _⟩ := SlAt.shape hs2
  obtain ⟨al2, cl2, rfl, _, _⟩ := SlAt.shape hl2
  clear hs2 hl2
  have HS1 : Hid (Ints w2.cell? (.slice as1 0 cs1) []) := HS1.out.mono hsb12.out
  have HL1 : Hid (Ints w2.cell? (.slice al1 1 cl1) [1]) := HL1.out.mono hsb12.out
  have HS2 : Hid (Ints w2.cell? (.slice as2 1 cs2) [1]) := HS2.out
  have HL2 : Hid (Ints w2.cell? (.slice al2 2 cl2) [0, 2]) := HL2.out
  go_wp2_with fail
  have hch : ∀ W : World, Below w2.heap.size w2 W → Below w0.heap.size w0 W := fun W h => bstep C2.out h
  have HCH := Lib.hid hch; clear hch
  refine (strategy_Valid _ _ _ _ exG 0 [true, true, true] [1, -1, 0] (HG.out.mono (bsub ?b1)) (SlAt.lit3 (bsub (by repeat (first | exact Below.refl _ _ | refine Below.setCell ?_ (by simp; try omega) _ | refine Below.alloc ?_ (by simp; try omega) _)) _ _ t0) (bsub (by repeat (first | exact Below.refl _ _ | refine Below.setCell ?_ (by simp; try omega) _ | refine Below.alloc ?_ (by simp; try omega) _)) _ _ t1) (bsub (by repeat (first | exact Below.refl _ _ | refine Below.setCell ?_ (by simp; try omega) _ | refine Below.alloc ?_ (by simp; try omega) _)) _ _ t2) rfl rfl rfl) (SlAt.lit3 (by go_simp) (by go_simp) (by go_simp) rfl rfl rfl)).mono ?_
  case b1 =>
    refine HCH.out _ ?_
    repeat (first | exact Below.refl _ _ | refine Below.setCell ?_ (by simp; try omega) _ | refine Below.alloc ?_ (by simp; try omega) _)
  rintro e w3 ⟨rfl, hb⟩
  rw [ex3]
  have hsb : Sub w2.cell? w3.cell? := Sub.trans (bsub (by repeat (first | exact Below.refl _ _ | refine Below.setCell ?_ (by simp; try omega) _ | refine Below.alloc ?_ (by simp; try omega) _))) (bsub hb)
  have t0 : w3.cell? ⟨w0.heap.size + 1, 0, none⟩ = some (.bool true) := hsb _ _ t0
  have t1 : w3.cell? ⟨w0.heap.size + 1, 1, none⟩ = some (.bool true) := hsb _ _ t1
  have t2 : w3.cell? ⟨w0.heap.size + 1, 2, none⟩ = some (.bool true) := hsb _ _ t2
  have g0 : w3.cell? ⟨w0.heap.size, 0, none⟩ = some (.slice ao 3 co) := hsb _ _ g0
  have g1 : w3.cell? ⟨w0.heap.size, 1, none⟩ = some (.slice ap 3 cp) := hsb _ _ g1
  have g2 : w3.cell? ⟨w0.heap.size, 2, none⟩ = some (.slice au 3 cu) := hsb _ _ g2
  have p0 : w3.cell? ⟨w1.heap.size, 0, none⟩ = some (.slice as1 0 cs1) := hsb _ _ p0
  have p1 : w3.cell? ⟨w1.heap.size, 1, none⟩ = some (.slice al1 1 cl1) := hsb _ _ p1
  have q0 : w3.cell? ⟨w2.heap.size, 0, none⟩ = some (.slice as2 1 cs2) := bsub hb _ _ (by go_simp)
  have q1 : w3.cell? ⟨w2.heap.size, 1, none⟩ = some (.slice al2 2 cl2) := bsub hb _ _ (by go_simp)
  have HS1 : Hid (Ints w3.cell? (.slice as1 0 cs1) []) := HS1.out.mono hsb
  have HL1 : Hid (Ints w3.cell? (.slice al1 1 cl1) [1]) := HL1.out.mono hsb
  have HS2 : Hid (Ints w3.cell? (.slice as2 1 cs2) [1]) := HS2.out.mono hsb
  have HL2 : Hid (Ints w3.cell? (.slice al2 2 cl2) [0, 2]) := HL2.out.mono hsb
  have C3 : Hid (Below w0.heap.size w0 w3) := by
    refine bstep (HCH.out _ ?_) hb
    repeat (first | exact Below.refl _ _ | refine Below.setCell ?_ (by simp; try omega) _ | refine Below.alloc ?_ (by simp; try omega) _)
  have hz3 : w0.heap.size < w3.heap.size := by have := hb.size; (try simp at this); omega
  have hsb23 := Lib.hid hsb
  clear hb HCH hsb
  go_wp2_with fail
  have hch : ∀ W : World, Below w3.heap.size w3 W → Below w0.heap.size w0 W := fun W h => bstep C3.out h
  have HCH := Lib.hid hch; clear hch
  refine (strategy_Wins _ _ _ _ exG 0 [true, true, true] [1, -1, 0] (HG.out.mono (bsub ?b1)) (SlAt.lit3 (bsub (by repeat (first | exact Below.refl _ _ | refine Below.setCell ?_ (by simp; try omega) _ | refine Below.alloc ?_ (by simp; try omega) _)) _ _ t0) (bsub (by repeat (first | exact Below.refl _ _ | refine Below.setCell ?_ (by simp; try omega) _ | refine Below.alloc ?_ (by simp; try omega) _)) _ _ t1) (bsub (by repeat (first | exact Below.refl _ _ | refine Below.setCell ?_ (by simp; try omega) _ | refine Below.alloc ?_ (by simp; try omega) _)) _ _ t2) rfl rfl rfl) (SlAt.lit3 (by go_simp) (by go_simp) (by go_simp) rfl rfl rfl)).mono ?_
  case b1 =>
    refine HCH.out _ ?_
    repeat (first | exact Below.refl _ _ | refine Below.setCell ?_ (by simp; try omega) _ | refine Below.alloc ?_ (by simp; try omega) _)
  rintro e w4 ⟨rfl, hb⟩
  rw [ex4]
  have hsb : Sub w3.cell? w4.cell? := Sub.trans (bsub (by repeat (first | exact Below.refl _ _ | refine Below.setCell ?_ (by simp; try omega) _ | refine Below.alloc ?_ (by simp; try omega) _))) (bsub hb)
  have t0 : w4.cell? ⟨w0.heap.size + 1, 0, none⟩ = some (.bool true) := hsb _ _ t0
  have t1 : w4.cell? ⟨w0.heap.size + 1, 1, none⟩ = some (.bool true) := hsb _ _ t1
  have t2 : w4.cell? ⟨w0.heap.size + 1, 2, none⟩ = some (.bool true) := hsb _ _ t2
  have g0 : w4.cell? ⟨w0.heap.size, 0, none⟩ = some (.slice ao 3 co) := hsb _ _ g0
  have g1 : w4.cell? ⟨w0.heap.size, 1, none⟩ = some (.slice ap 3 cp) := hsb _ _ g1
  have g2 : w4.cell? ⟨w0.heap.size, 2, none⟩ = some (.slice au 3 cu) := hsb _ _ g2
  have p0 : w4.cell? ⟨w1.heap.size, 0, none⟩ = some (.slice as1 0 cs1) := hsb _ _ p0
  have p1 : w4.cell? ⟨w1.heap.size, 1, none⟩ = some (.slice al1 1 cl1) := hsb _ _ p1
  have q0 : w4.cell? ⟨w2.heap.size, 0, none⟩ = some (.slice as2 1 cs2) := hsb _ _ q0
  have q1 : w4.cell? ⟨w2.heap.size, 1, none⟩ = some (.slice al2 2 cl2) := hsb _ _ q1
  have HS1 : Hid (Ints w4.cell? (.slice as1 0 cs1) []) := HS1.out.mono hsb
  have HL1 : Hid (Ints w4.cell? (.slice al1 1 cl1) [1]) := HL1.out.mono hsb
  have HS2 : Hid (Ints w4.cell? (.slice as2 1 cs2) [1]) := HS2.out.mono hsb
  have HL2 : Hid (Ints w4.cell? (.slice al2 2 cl2) [0, 2]) := HL2.out.mono hsb
  have C4 : Hid (Below w0.heap.size w0 w4) := by
    refine bstep (HCH.out _ ?_) hb
    repeat (first | exact Below.refl _ _ | refine Below.setCell ?_ (by simp; try omega) _ | refine Below.alloc ?_ (by simp; try omega) _)
  have hz4 : w0.heap.size < w4.heap.size := by have := hb.size; (try simp at this); omega
  have hsb34 := Lib.hid hsb
  clear hb HCH hsb
  go_wp2_with fail
  have hch : ∀ W : World, Below w4.heap.size w4 W → Below w0.heap.size w0 W := fun W h => bstep C4.out h
  have HCH := Lib.hid hch; clear hch
  refine (strategy_Valid _ _ _ _ exG 0 [false, true, false] [-1, -1, -1] (HG.out.mono (bsub ?b1)) (SlAt.lit3 (by go_simp) (by go_simp) (by go_simp) rfl rfl rfl) (SlAt.lit3 (by go_simp) (by go_simp) (by go_simp) rfl rfl rfl)).mono ?_
  case b1 =>
    refine HCH.out _ ?_
    repeat (first | exact Below.refl _ _ | refine Below.setCell ?_ (by simp; try omega) _ | refine Below.alloc ?_ (by simp; try omega) _)
  rintro e w5 ⟨rfl, hb⟩
  rw [ex5]
  have hsb : Sub w4.cell? w5.cell? := Sub.trans (bsub (by repeat (first | exact Below.refl _ _ | refine Below.setCell ?_ (by simp; try omega) _ | refine Below.alloc ?_ (by simp; try omega) _))) (bsub hb)
  have t0 : w5.cell? ⟨w0.heap.size + 1, 0, none⟩ = some (.bool true) := hsb _ _ t0
  have t1 : w5.cell? ⟨w0.heap.size + 1, 1, none⟩ = some (.bool true) := hsb _ _ t1
  have t2 : w5.cell? ⟨w0.heap.size + 1, 2, none⟩ = some (.bool true) := hsb _ _ t2
  have g0 : w5.cell? ⟨w0.heap.size, 0, none⟩ = some (.slice ao 3 co) := hsb _ _ g0
  have g1 : w5.cell? ⟨w0.heap.size, 1, none⟩ = some (.slice ap 3 cp) := hsb _ _ g1
  have g2 : w5.cell? ⟨w0.heap.size, 2, none⟩ = some (.slice au 3 cu) := hsb _ _ g2
  have p0 : w5.cell? ⟨w1.heap.size, 0, none⟩ = some (.slice as1 0 cs1) := hsb _ _ p0
  have p1 : w5.cell? ⟨w1.heap.size, 1, none⟩ = some (.slice al1 1 cl1) := hsb _ _ p1
  have q0 : w5.cell? ⟨w2.heap.size, 0, none⟩ = some (.slice as2 1 cs2) := hsb _ _ q0
  have q1 : w5.cell? ⟨w2.heap.size, 1, none⟩ = some (.slice al2 2 cl2) := hsb _ _ q1
  have HS1 : Hid (Ints w5.cell? (.slice as1 0 cs1) []) := HS1.out.mono hsb
  have HL1 : Hid (Ints w5.cell? (.slice al1 1 cl1) [1]) := HL1.out.mono hsb
  have HS2 : Hid (Ints w5.cell? (.slice as2 1 cs2) [1]) := HS2.out.mono hsb
  have HL2 : Hid (Ints w5.cell? (.slice al2 2 cl2) [0, 2]) := HL2.out.mono hsb
  have C5 : Hid (Below w0.heap.size w0 w5) := by
    refine bstep (HCH.out _ ?_) hb
    repeat (first | exact Below.refl _ _ | refine Below.setCell ?_ (by simp; try omega) _ | refine Below.alloc ?_ (by simp; try omega) _)
  have hz5 : w0.heap.size < w5.heap.size := by have := hb.size; (try simp at this); omega
  have hsb45 := Lib.hid hsb
  clear hb HCH hsb
  go_wp2_with fail
  have hch : ∀ W : World, Below w5.heap.size w5 W → Below w0.heap.size w0 W := fun W h => bstep C5.out h
  have HCH := Lib.hid hch; clear hch
  refine (strategy_Wins _ _ _ _ exG 1 [true, true, true] [-1, 0, -1] (HG.out.mono (bsub ?b1)) (SlAt.lit3 (by go_simp) (by go_simp) (by go_simp) rfl rfl rfl) (SlAt.lit3 (by go_simp) (by go_simp) (by go_simp) rfl rfl rfl)).mono ?_
  case b1 =>
    refine HCH.out _ ?_
    repeat (first | exact Below.refl _ _ | refine Below.setCell ?_ (by simp; try omega) _ | refine Below.alloc ?_ (by simp; try omega) _)
  rintro e w6 ⟨rfl, hb⟩
  rw [ex6]
  have hsb : Sub w5.cell? w6.cell? := Sub.trans (bsub (by repeat (first | exact Below.refl _ _ | refine Below.setCell ?_ (by simp; try omega) _ | refine Below.alloc ?_ (by simp; try omega) _))) (bsub hb)
  have t0 : w6.cell? ⟨w0.heap.size + 1, 0, none⟩ = some (.bool true) := hsb _ _ t0
  have t1 : w6.cell? ⟨w0.heap.size + 1, 1, none⟩ = some (.bool true) := hsb _ _ t1
  have t2 : w6.cell? ⟨w0.heap.size + 1, 2, none⟩ = some (.bool true) := hsb _ _ t2
  have g0 : w6.cell? ⟨w0.heap.size, 0, none⟩ = some (.slice ao 3 co) := hsb _ _ g0
  have g1 : w6.cell? ⟨w0.heap.size, 1, none⟩ = some (.slice ap 3 cp) := hsb _ _ g1
  have g2 : w6.cell? ⟨w0.heap.size, 2, none⟩ = some (.slice au 3 cu) := hsb _ _ g2
  have p0 : w6.cell? ⟨w1.heap.size, 0, none⟩ = some (.slice as1 0 cs1) := hsb _ _ p0
  have p1 : w6.cell? ⟨w1.heap.size, 1, none⟩ = some (.slice al1 1 cl1) := hsb _ _ p1
  have q0 : w6.cell? ⟨w2.heap.size, 0, none⟩ = some (.slice as2 1 cs2) := hsb _ _ q0
  have q1 : w6.cell? ⟨w2.heap.size, 1, none⟩ = some (.slice al2 2 cl2) := hsb _ _ q1
  have HS1 : Hid (Ints w6.cell? (.slice as1 0 cs1) []) := HS1.out.mono hsb
  have HL1 : Hid (Ints w6.cell? (.slice al1 1 cl1) [1]) := HL1.out.mono hsb
  have HS2 : Hid (Ints w6.cell? (.slice as2 1 cs2) [1]) := HS2.out.mono hsb
  have HL2 : Hid (Ints w6.cell? (.slice al2 2 cl2) [0, 2]) := HL2.out.mono hsb
  have C6 : Hid (Below w0.heap.size w0 w6) := by
    refine bstep (HCH.out _ ?_) hb
    repeat (first | exact Below.refl _ _ | refine Below.setCell ?_ (by simp; try omega) _ | refine Below.alloc ?_ (by simp; try omega) _)
  have hz6 : w0.heap.size < w6.heap.size := by have := hb.size; (try simp at this); omega
  have hsb56 := Lib.hid hsb
  clear hb HCH hsb
  go_wp2_with fail
  have hch : ∀ W : World, Below w6.heap.size w6 W → Below w0.heap.size w0 W := fun W h => bstep C6.out h
  have HCH := Lib.hid hch; clear hch
  refine (ref_Ints _ _ _ [1] [1] (HL1.out.mono (bsub (by repeat (first | exact Below.refl _ _ | refine Below.setCell ?_ (by simp; try omega) _ | refine Below.alloc ?_ (by simp; try omega) _)))) (SlAt.lit1 (by go_simp) rfl)).mono ?_
  rintro e w7 ⟨rfl, hb⟩
  rw [ey1]
  have hsb : Sub w6.cell? w7.cell? := Sub.trans (bsub (by repeat (first | exact Below.refl _ _ | refine Below.setCell ?_ (by simp; try omega) _ | refine Below.alloc ?_ (by simp; try omega) _))) (bsub hb)
  have t0 : w7.cell? ⟨w0.heap.size + 1, 0, none⟩ = some (.bool true) := hsb _ _ t0
  have t1 : w7.cell? ⟨w0.heap.size + 1, 1, none⟩ = some (.bool true) := hsb _ _ t1
  have t2 : w7.cell? ⟨w0.heap.size + 1, 2, none⟩ = some (.bool true) := hsb _ _ t2
  have g0 : w7.cell? ⟨w0.heap.size, 0, none⟩ = some (.slice ao 3 co) := hsb _ _ g0
  have g1 : w7.cell? ⟨w0.heap.size, 1, none⟩ = some (.slice ap 3 cp) := hsb _ _ g1
  have g2 : w7.cell? ⟨w0.heap.size, 2, none⟩ = some (.slice au 3 cu) := hsb _ _ g2
  have p0 : w7.cell? ⟨w1.heap.size, 0, none⟩ = some (.slice as1 0 cs1) := hsb _ _ p0
  have p1 : w7.cell? ⟨w1.heap.size, 1, none⟩ = some (.slice al1 1 cl1) := hsb _ _ p1
  have q0 : w7.cell? ⟨w2.heap.size, 0, none⟩ = some (.slice as2 1 cs2) := hsb _ _ q0
  have q1 : w7.cell? ⟨w2.heap.size, 1, none⟩ = some (.slice al2 2 cl2) := hsb _ _ q1
  have HS1 : Hid (Ints w7.cell? (.slice as1 0 cs1) []) := HS1.out.mono hsb
  have HL1 : Hid (Ints w7.cell? (.slice al1 1 cl1) [1]) := HL1.out.mono hsb
  have HS2 : Hid (Ints w7.cell? (.slice as2 1 cs2) [1]) := HS2.out.mono hsb
  have HL2 : Hid (Ints w7.cell? (.slice al2 2 cl2) [0, 2]) := HL2.out.mono hsb
  have C7 : Hid (Below w0.heap.size w0 w7) := by
    refine bstep (HCH.out _ ?_) hb
    repeat (first | exact Below.refl _ _ | refine Below.setCell ?_ (by simp; try omega) _ | refine Below.alloc ?_ (by simp; try omega) _)
  have hz7 : w0.heap.size < w7.heap.size := by have := hb.size; (try simp at this); omega
  have hsb67 := Lib.hid hsb
  clear hb HCH hsb
  go_wp2_with fail
  have hch : ∀ W : World, Below w7.heap.size w7 W → Below w0.heap.size w0 W := fun W h => bstep C7.out h
  have HCH := Lib.hid hch; clear hch
  refine (strategy_Winner _ _ _ exG ⟨[], [1]⟩ (HG.out.mono (bsub ?b1)) ⟨_, _, rfl, (HS1.out.mono (bsub (by repeat (first | exact Below.refl _ _ | refine Below.setCell ?_ (by simp; try omega) _ | refine Below.alloc ?_ (by simp; try omega) _)))), (HL1.out.mono (bsub (by repeat (first | exact Below.refl _ _ | refine Below.setCell ?_ (by simp; try omega) _ | refine Below.alloc ?_ (by simp; try omega) _))))⟩ (by decide)).mono ?_
  case b1 =>
    refine HCH.out _ ?_
    repeat (first | exact Below.refl _ _ | refine Below.setCell ?_ (by simp; try omega) _ | refine Below.alloc ?_ (by simp; try omega) _)
  rintro e w8 ⟨rfl, hb⟩
  rw [ex7]
  have hsb : Sub w7.cell? w8.cell? := Sub.trans (bsub (by repeat (first | exact Below.refl _ _ | refine Below.setCell ?_ (by simp; try omega) _ | refine Below.alloc ?_ (by simp; try omega) _))) (bsub hb)
  have t0 : w8.cell? ⟨w0.heap.size + 1, 0, none⟩ = some (.bool true) := hsb _ _ t0
  have t1 : w8.cell? ⟨w0.heap.size + 1, 1, none⟩ = some (.bool true) := hsb _ _ t1
  have t2 : w8.cell? ⟨w0.heap.size + 1, 2, none⟩ = some (.bool true) := hsb _ _ t2
  have g0 : w8.cell? ⟨w0.heap.size, 0, none⟩ = some (.slice ao 3 co) := hsb _ _ g0
  have g1 : w8.cell? ⟨w0.heap.size, 1, none⟩ = some (.slice ap 3 cp) := hsb _ _ g1
  have g2 : w8.cell? ⟨w0.heap.size, 2, none⟩ = some (.slice au 3 cu) := hsb _ _ g2
  have p0 : w8.cell? ⟨w1.heap.size, 0, none⟩ = some (.slice as1 0 cs1) := hsb _ _ p0
  have p1 : w8.cell? ⟨w1.heap.size, 1, none⟩ = some (.slice al1 1 cl1) := hsb _ _ p1
  have q0 : w8.cell? ⟨w2.heap.size, 0, none⟩ = some (.slice as2 1 cs2) := hsb _ _ q0
  have q1 : w8.cell? ⟨w2.heap.size, 1, none⟩ = some (.slice al2 2 cl2) := hsb _ _ q1
  have HS1 : Hid (Ints w8.cell? (.slice as1 0 cs1) []) := HS1.out.mono hsb
  have HL1 : Hid (Ints w8.cell? (.slice al1 1 cl1) [1]) := HL1.out.mono hsb
  have HS2 : Hid (Ints w8.cell? (.slice as2 1 cs2) [1]) := HS2.out.mono hsb
  have HL2 : Hid (Ints w8.cell? (.slice al2 2 cl2) [0, 2]) := HL2.out.mono hsb
  have C8 : Hid (Below w0.heap.size w0 w8) := by
    refine bstep (HCH.out _ ?_) hb
    repeat (first | exact Below.refl _ _ | refine Below.setCell ?_ (by simp; try omega) _ | refine Below.alloc ?_ (by simp; try omega) _)
  have hz8 : w0.heap.size < w8.heap.size := by have := hb.size; (try simp at this); omega
  have hsb78 := Lib.hid hsb
  clear hb HCH hsb
  go_wp2_with fail
  have hch : ∀ W : World, Below w8.heap.size w8 W → Below w0.heap.size w0 W := fun W h => bstep C8.out h
  have HCH := Lib.hid hch; clear hch
  refine (ref_Ints _ _ _ [1] [1] (HS2.out.mono (bsub (by repeat (first | exact Below.refl _ _ | refine Below.setCell ?_ (by simp; try omega) _ | refine Below.alloc ?_ (by simp; try omega) _)))) (SlAt.lit1 (by go_simp) rfl)).mono ?_
  rintro e w9 ⟨rfl, hb⟩
  rw [ey1]
  have hsb : Sub w8.cell? w9.cell? := Sub.trans (bsub (by repeat (first | exact Below.refl _ _ | refine Below.setCell ?_ (by simp; try omega) _ | refine Below.alloc ?_ (by simp; try omega) _))) (bsub hb)
  have t0 : w9.cell? ⟨w0.heap.size + 1, 0, none⟩ = some (.bool true) := hsb _ _ t0
  have t1 : w9.cell? ⟨w0.heap.size + 1, 1, none⟩ = some (.bool true) := hsb _ _ t1
  have t2 : w9.cell? ⟨w0.heap.size + 1, 2, none⟩ = some (.bool true) := hsb _ _ t2
  have g0 : w9.cell? ⟨w0.heap.size, 0, none⟩ = some (.slice ao 3 co) := hsb _ _ g0
  have g1 : w9.cell? ⟨w0.heap.size, 1, none⟩ = some (.slice ap 3 cp) := hsb _ _ g1
  have g2 : w9.cell? ⟨w0.heap.size, 2, none⟩ = some (.slice au 3 cu) := hsb _ _ g2
  have p0 : w9.cell? ⟨w1.heap.size, 0, none⟩ = some (.slice as1 0 cs1) := hsb _ _ p0
  have p1 : w9.cell? ⟨w1.heap.size, 1, none⟩ = some (.slice al1 1 cl1) := hsb _ _ p1
  have q0 : w9.cell? ⟨w2.heap.size, 0, none⟩ = some (.slice as2 1 cs2) := hsb _ _ q0
  have q1 : w9.cell? ⟨w2.heap.size, 1, none⟩ = some (.slice al2 2 cl2) := hsb _ _ q1
  have HS1 : Hid (Ints w9.cell? (.slice as1 0 cs1) []) := HS1.out.mono hsb
  have HL1 : Hid (Ints w9.cell? (.slice al1 1 cl1) [1]) := HL1.out.mono hsb
  have HS2 : Hid (Ints w9.cell? (.slice as2 1 cs2) [1]) := HS2.out.mono hsb
  have HL2 : Hid (Ints w9.cell? (.slice al2 2 cl2) [0, 2]) := HL2.out.mono hsb
  have C9 : Hid (Below w0.heap.size w0 w9) := by
    refine bstep (HCH.out _ ?_) hb
    repeat (first | exact Below.refl _ _ | refine Below.setCell ?_ (by simp; try omega) _ | refine Below.alloc ?_ (by simp; try omega) _)
  have hz9 : w0.heap.size < w9.heap.size := by have := hb.size; (try simp at this); omega
  have hsb89 := Lib.hid hsb
  clear hb HCH hsb
  go_wp2_with fail
  have hch : ∀ W : World, Below w9.heap.size w9 W → Below w0.heap.size w0 W := fun W h => bstep C9.out h
  have HCH := Lib.hid hch; clear hch
  refine (ref_Ints _ _ _ [0, 2] [0, 2] (HL2.out.mono (bsub (by repeat (first | exact Below.refl _ _ | refine Below.setCell ?_ (by simp; try omega) _ | refine Below.alloc ?_ (by simp; try omega) _)))) (SlAt.lit2 (by go_simp) (by go_simp) rfl rfl)).mono ?_
  rintro e w10 ⟨rfl, hb⟩
  rw [ey2]
  have hsb : Sub w9.cell? w10.cell? := Sub.trans (bsub (by repeat (first | exact Below.refl _ _ | refine Below.setCell ?_ (by simp; try omega) _ | refine Below.alloc ?_ (by simp; try omega) _))) (bsub hb)
  have t0 : w10.cell? ⟨w0.heap.size + 1, 0, none⟩ = some (.bool true) := hsb _ _ t0
  have t1 : w10.cell? ⟨w0.heap.size + 1, 1, none⟩ = some (.bool true) := hsb _ _ t1
  have t2 : w10.cell? ⟨w0.heap.size + 1, 2, none⟩ = some (.bool true) := hsb _ _ t2
  have g0 : w10.cell? ⟨w0.heap.size, 0, none⟩ = some (.slice ao 3 co) := hsb _ _ g0
  have g1 : w10.cell? ⟨w0.heap.size, 1, none⟩ = some (.slice ap 3 cp) := hsb _ _ g1
  have g2 : w10.cell? ⟨w0.heap.size, 2, none⟩ = some (.slice au 3 cu) := hsb _ _ g2
  have p0 : w10.cell? ⟨w1.heap.size, 0, none⟩ = some (.slice as1 0 cs1) := hsb _ _ p0
  have p1 : w10.cell? ⟨w1.heap.size, 1, none⟩ = some (.slice al1 1 cl1) := hsb _ _ p1
  have q0 : w10.cell? ⟨w2.heap.size, 0, none⟩ = some (.slice as2 1 cs2) := hsb _ _ q0
  have q1 : w10.cell? ⟨w2.heap.size, 1, none⟩ = some (.slice al2 2 cl2) := hsb _ _ q1
  have HS1 : Hid (Ints w10.cell? (.slice as1 0 cs1) []) := HS1.out.mono hsb
  have HL1 : Hid (Ints w10.cell? (.slice al1 1 cl1) [1]) := HL1.out.mono hsb
  have HS2 : Hid (Ints w10.cell? (.slice as2 1 cs2) [1]) := HS2.out.mono hsb
  have HL2 : Hid (Ints w10.cell? (.slice al2 2 cl2) [0, 2]) := HL2.out.mono hsb
  have C10 : Hid (Below w0.heap.size w0 w10) := by
    refine bstep (HCH.out _ ?_) hb
    repeat (first | exact Below.refl _ _ | refine Below.setCell ?_ (by simp; try omega) _ | refine Below.alloc ?_ (by simp; try omega) _)
  have hz10 : w0.heap.size < w10.heap.size := by have := hb.size; (try simp at this); omega
  have hsb910 := Lib.hid hsb
  clear hb HCH hsb
  go_wp2_with fail
  have hch : ∀ W : World, Below w10.heap.size w10 W → Below w0.heap.size w0 W := fun W h => bstep C10.out h
  have HCH := Lib.hid hch; clear hch
  refine (strategy_Winner _ _ _ exG ⟨[1], [0, 2]⟩ (HG.out.mono (bsub ?b1)) ⟨_, _, rfl, (HS2.out.mono (bsub (by repeat (first | exact Below.refl _ _ | refine Below.setCell ?_ (by simp; try omega) _ | refine Below.alloc ?_ (by simp; try omega) _)))), (HL2.out.mono (bsub (by repeat (first | exact Below.refl _ _ | refine Below.setCell ?_ (by simp; try omega) _ | refine Below.alloc ?_ (by simp; try omega) _))))⟩ (by decide)).mono ?_
  case b1 =>
    refine HCH.out _ ?_
    repeat (first | exact Below.refl _ _ | refine Below.setCell ?_ (by simp; try omega) _ | refine Below.alloc ?_ (by simp; try omega) _)
  rintro e w11 ⟨rfl, hb⟩
  rw [ex8]
  have hsb : Sub w10.cell? w11.cell? := Sub.trans (bsub (by repeat (first | exact Below.refl _ _ | refine Below.setCell ?_ (by simp; try omega) _ | refine Below.alloc ?_ (by simp; try omega) _))) (bsub hb)
  have t0 : w11.cell? ⟨w0.heap.size + 1, 0, none⟩ = some (.bool true) := hsb _ _ t0
  have t1 : w11.cell? ⟨w0.heap.size + 1, 1, none⟩ = some (.bool true) := hsb _ _ t1
  have t2 : w11.cell? ⟨w0.heap.size + 1, 2, none⟩ = some (.bool true) := hsb _ _ t2
  have g0 : w11.cell? ⟨w0.heap.size, 0, none⟩ = some (.slice ao 3 co) := hsb _ _ g0
  have g1 : w11.cell? ⟨w0.heap.size, 1, none⟩ = some (.slice ap 3 cp) := hsb _ _ g1
  have g2 : w11.cell? ⟨w0.heap.size, 2, none⟩ = some (.slice au 3 cu) := hsb _ _ g2
  have p0 : w11.cell? ⟨w1.heap.size, 0, none⟩ = some (.slice as1 0 cs1) := hsb _ _ p0
  have p1 : w11.cell? ⟨w1.heap.size, 1, none⟩ = some (.slice al1 1 cl1) := hsb _ _ p1
  have q0 : w11.cell? ⟨w2.heap.size, 0, none⟩ = some (.slice as2 1 cs2) := hsb _ _ q0
  have q1 : w11.cell? ⟨w2.heap.size, 1, none⟩ = some (.slice al2 2 cl2) := hsb _ _ q1
  have HS1 : Hid (Ints w11.cell? (.slice as1 0 cs1) []) := HS1.out.mono hsb
  have HL1 : Hid (Ints w11.cell? (.slice al1 1 cl1) [1]) := HL1.out.mono hsb
  have HS2 : Hid (Ints w11.cell? (.slice as2 1 cs2) [1]) := HS2.out.mono hsb
  have HL2 : Hid (Ints w11.cell? (.slice al2 2 cl2) [0, 2]) := HL2.out.mono hsb
  have C11 : Hid (Below w0.heap.size w0 w11) := by
    refine bstep (HCH.out _ ?_) hb
    repeat (first | exact Below.refl _ _ | refine Below.setCell ?_ (by simp; try omega) _ | refine Below.alloc ?_ (by simp; try omega) _)
  have hz11 : w0.heap.size < w11.heap.size := by have := hb.size; (try simp at this); omega
  have hsb1011 := Lib.hid hsb
  clear hb HCH hsb
  go_wp2_with fail
  have hch : ∀ W : World, Below w11.heap.size w11 W → Below w0.heap.size w0 W := fun W h => bstep C11.out h
  have HCH := Lib.hid hch; clear hch
  refine (strategy_Winner _ _ _ exG ⟨[], [0]⟩ (HG.out.mono (bsub ?b1)) ⟨_, _, rfl, (ints_nil _), (SlAt.lit1 (by go_simp) rfl)⟩ (by decide)).mono ?_
  case b1 =>
    refine HCH.out _ ?_
    repeat (first | exact Below.refl _ _ | refine Below.setCell ?_ (by simp; try omega) _ | refine Below.alloc ?_ (by simp; try omega) _)
  rintro e w12 ⟨rfl, hb⟩
  rw [ex9]
  have hsb : Sub w11.cell? w12.cell? := Sub.trans (bsub (by repeat (first | exact Below.refl _ _ | refine Below.setCell ?_ (by simp; try omega) _ | refine Below.alloc ?_ (by simp; try omega) _))) (bsub hb)
  have t0 : w12.cell? ⟨w0.heap.size + 1, 0, none⟩ = some (.bool true) := hsb _ _ t0
  have t1 : w12.cell? ⟨w0.heap.size + 1, 1, none⟩ = some (.bool true) := hsb _ _ t1
  have t2 : w12.cell? ⟨w0.heap.size + 1, 2, none⟩ = some (.bool true) := hsb _ _ t2
  have g0 : w12.cell? ⟨w0.heap.size, 0, none⟩ = some (.slice ao 3 co) := hsb _ _ g0
  have g1 : w12.cell? ⟨w0.heap.size, 1, none⟩ = some (.slice ap 3 cp) := hsb _ _ g1
  have g2 : w12.cell? ⟨w0.heap.size, 2, none⟩ = some (.slice au 3 cu) := hsb _ _ g2
  have p0 : w12.cell? ⟨w1.heap.size, 0, none⟩ = some (.slice as1 0 cs1) := hsb _ _ p0
  have p1 : w12.cell? ⟨w1.heap.size, 1, none⟩ = some (.slice al1 1 cl1) := hsb _ _ p1
  have q0 : w12.cell? ⟨w2.heap.size, 0, none⟩ = some (.slice as2 1 cs2) := hsb _ _ q0
  have q1 : w12.cell? ⟨w2.heap.size, 1, none⟩ = some (.slice al2 2 cl2) := hsb _ _ q1
  have HS1 : Hid (Ints w12.cell? (.slice as1 0 cs1) []) := HS1.out.mono hsb
  have HL1 : Hid (Ints w12.cell? (.slice al1 1 cl1) [1]) := HL1.out.mono hsb
  have HS2 : Hid (Ints w12.cell? (.slice as2 1 cs2) [1]) := HS2.out.mono hsb
  have HL2 : Hid (Ints w12.cell? (.slice al2 2 cl2) [0, 2]) := HL2.out.mono hsb
  have C12 : Hid (Below w0.heap.size w0 w12) := by
    refine bstep (HCH.out _ ?_) hb
    repeat (first | exact Below.refl _ _ | refine Below.setCell ?_ (by simp; try omega) _ | refine Below.alloc ?_ (by simp; try omega) _)
  have hz12 : w0.heap.size < w12.heap.size := by have := hb.size; (try simp at this); omega
  have hsb1112 := Lib.hid hsb
  clear hb HCH hsb
  go_wp2_with fail
  have hch : ∀ W : World, Below w12.heap.size w12 W → Below w0.heap.size w0 W := fun W h => bstep C12.out h
  have HCH := Lib.hid hch; clear hch
  refine (strategy_Play _ _ _ _ exG [] [] 0 (HG.out.mono (bsub ?b1)) (ints_nil _) (ints_nil _)).mono ?_
  case b1 =>
    refine HCH.out _ ?_
    repeat (first | exact Below.refl _ _ | refine Below.setCell ?_ (by simp; try omega) _ | refine Below.alloc ?_ (by simp; try omega) _)
  rintro e w13 ⟨_, rfl, ⟨sv3, lv3, rfl, hs3, hl3⟩, hb⟩
  have hsb : Sub w12.cell? w13.cell? := Sub.trans (bsub (by repeat (first | exact Below.refl _ _ | refine Below.setCell ?_ (by simp; try omega) _ | refine Below.alloc ?_ (by simp; try omega) _))) (bsub hb)
  have t0 : w13.cell? ⟨w0.heap.size + 1, 0, none⟩ = some (.bool true) := hsb _ _ t0
  have t1 : w13.cell? ⟨w0.heap.size + 1, 1, none⟩ = some (.bool true) := hsb _ _ t1
  have t2 : w13.cell? ⟨w0.heap.size + 1, 2, none⟩ = some (.bool true) := hsb _ _ t2
  have g0 : w13.cell? ⟨w0.heap.size, 0, none⟩ = some (.slice ao 3 co) := hsb _ _ g0
  have g1 : w13.cell? ⟨w0.heap.size, 1, none⟩ = some (.slice ap 3 cp) := hsb _ _ g1
  have g2 : w13.cell? ⟨w0.heap.size, 2, none⟩ = some (.slice au 3 cu) := hsb _ _ g2
  have p0 : w13.cell? ⟨w1.heap.size, 0, none⟩ = some (.slice as1 0 cs1) := hsb _ _ p0
  have p1 : w13.cell? ⟨w1.heap.size, 1, none⟩ = some (.slice al1 1 cl1) := hsb _ _ p1
  have q0 : w13.cell? ⟨w2.heap.size, 0, none⟩ = some (.slice as2 1 cs2) := hsb _ _ q0
  have q1 : w13.cell? ⟨w2.heap.size, 1, none⟩ = some (.slice al2 2 cl2) := hsb _ _ q1
  have HS1 : Hid (Ints w13.cell? (.slice as1 0 cs1) []) := HS1.out.mono hsb
  have HL1 : Hid (Ints w13.cell? (.slice al1 1 cl1) [1]) := HL1.out.mono hsb
  have HS2 : Hid (Ints w13.cell? (.slice as2 1 cs2) [1]) := HS2.out.mono hsb
  have HL2 : Hid (Ints w13.cell? (.slice al2 2 cl2) [0, 2]) := HL2.out.mono hsb
  have C13 : Hid (Below w0.heap.size w0 w13) := by
    refine bstep (HCH.out _ ?_) hb
    repeat (first | exact Below.refl _ _ | refine Below.setCell ?_ (by simp; try omega) _ | refine Below.alloc ?_ (by simp; try omega) _)
  have hz13 : w0.heap.size < w13.heap.size := by have := hb.size; (try simp at this); omega
  have hsb1213 := Lib.hid hsb
  clear hb HCH hsb
  rw [ex10] at hs3 hl3
  have hs3 : Ints w13.cell? sv3 [] := hs3
  have hl3 : Ints w13.cell? lv3 [] := hl3
  obtain ⟨as3, cs3, rfl, _, _⟩ := SlAt.shape hs3
  obtain ⟨al3, cl3, rfl, _, _⟩ := SlAt.shape hl3
  clear hs3 hl3
  have hfl : ∀ (x y : Value) (u : World), (Instr.field 28 (.agg #[x, y]) 1).run Try.prog u = .ok y u := fun _ _ _ => by kernel_rfl
  go_wp2
  go_ret
  exact ⟨rfl, bstep B0.out C13.out⟩
end Go.Proofs.Ytohglckebkgbpaa
