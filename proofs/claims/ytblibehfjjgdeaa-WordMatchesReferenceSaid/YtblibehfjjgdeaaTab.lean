/-
  The table of types and functions.
-/
import Derived.Test.YtblibehfjjgdeaaNc
import Derived.KernelRfl
import Derived.Test.YtblibehfjjgdeaaProg
namespace Go.Proofs.Ytblibehfjjgdeaa
open Go.RowKit
def tT : Tab where
  tys := [(2, ⟨(.int .i64), 8, 0⟩),
    (3, ⟨(.int .i64), 8, 0⟩),
    (4, ⟨.bool, 1, 0⟩),
    (5, ⟨(.int .u8), 1, 0⟩),
    (6, ⟨(.int .u8), 1, 0⟩),
    (7, ⟨(.st (.pair (.int .i64) (.pair (.int .i64) (.pair .bool (.pair (.int .u8) .unit))))), 24, 0⟩),
    (8, ⟨(.st (.pair (.int .i64) (.pair (.int .i64) (.pair .bool (.pair (.int .u8) .unit))))), 24, 0⟩),
    (9, ⟨.str, 16, 0⟩),
    (10, ⟨.str, 16, 0⟩),
    (11, ⟨.str, 16, 0⟩),
    (12, ⟨(.int .u64), 8, 0⟩),
    (13, ⟨(.st (.pair .str (.pair (.int .u64) .unit))), 24, 0⟩),
    (14, ⟨(.st (.pair .str (.pair (.int .u64) .unit))), 24, 0⟩),
    (21, ⟨(.int .i32), 4, 0⟩),
    (22, ⟨(.sl (.int .i64)), 24, 3⟩),
    (23, ⟨(.st (.pair (.sl (.int .i64)) (.pair (.sl (.int .i64)) .unit))), 48, 0⟩),
    (24, ⟨(.st (.pair (.sl (.int .i64)) (.pair (.sl (.int .i64)) .unit))), 48, 0⟩),
    (25, ⟨(.sl (.sl (.int .i64))), 24, 22⟩),
    (64, ⟨(.int .u32), 4, 0⟩),
    (65, ⟨(.int .u8), 1, 0⟩),
    (66, ⟨(.int .u8), 1, 0⟩),
    (69, ⟨(.int .i32), 4, 0⟩),
    (70, ⟨(.int .i32), 4, 0⟩)]
  fns := [(0, ⟨[], (.tup .unit)⟩),
    (1, ⟨[], (.tup .unit)⟩),
    (2, ⟨[], (.tup .unit)⟩),
    (3, ⟨[some (.st (.pair (.sl (.int .i64)) (.pair (.sl (.int .i64)) .unit))), some (.st (.pair (.sl (.int .i64)) (.pair (.sl (.int .i64)) .unit))), some (.int .i64), some (.int .i64), some (.sl (.int .i64)), some (.sl (.sl (.int .i64)))], .bool⟩),
    (4, ⟨[some (.st (.pair (.sl (.int .i64)) (.pair (.sl (.int .i64)) .unit)))], .bool⟩),
    (5, ⟨[some (.st (.pair (.sl (.int .i64)) (.pair (.sl (.int .i64)) .unit))), some (.st (.pair (.sl (.int .i64)) (.pair (.sl (.int .i64)) .unit)))], .bool⟩),
    (6, ⟨[some (.st (.pair (.sl (.int .i64)) (.pair (.sl (.int .i64)) .unit))), some (.int .i64), some (.int .i64)], .bool⟩),
    (7, ⟨[some (.st (.pair (.sl (.int .i64)) (.pair (.sl (.int .i64)) .unit))), some (.int .i64)], .bool⟩),
    (8, ⟨[some (.sl (.int .i64)), some (.sl (.int .i64)), some (.st (.pair (.sl (.int .i64)) (.pair (.sl (.int .i64)) .unit)))], .bool⟩),
    (9, ⟨[some (.st (.pair (.sl (.int .i64)) (.pair (.sl (.int .i64)) .unit))), some (.st (.pair (.sl (.int .i64)) (.pair (.sl (.int .i64)) .unit))), some (.sl (.sl (.int .i64))), some (.int .u8)], .bool⟩),
    (10, ⟨[], .bool⟩),
    (11, ⟨[some (.st (.pair (.sl (.int .i64)) (.pair (.sl (.int .i64)) .unit)))], .bool⟩),
    (12, ⟨[some (.int .i64), some (.st (.pair (.sl (.int .i64)) (.pair (.sl (.int .i64)) .unit)))], .bool⟩),
    (13, ⟨[some (.int .i64), some (.st (.pair (.sl (.int .i64)) (.pair (.sl (.int .i64)) .unit)))], .bool⟩),
    (14, ⟨[some (.st (.pair (.sl (.int .i64)) (.pair (.sl (.int .i64)) .unit))), some (.int .i64)], (.int .i64)⟩),
    (15, ⟨[some (.st (.pair (.sl (.int .i64)) (.pair (.sl (.int .i64)) .unit))), some (.int .i64)], (.int .i64)⟩),
    (16, ⟨[some (.sl (.int .i64)), some (.sl (.int .i64))], .bool⟩),
    (17, ⟨[some (.st (.pair (.sl (.int .i64)) (.pair (.sl (.int .i64)) .unit))), some (.int .i64)], (.sl (.int .i64))⟩),
    (18, ⟨[some (.st (.pair (.sl (.int .i64)) (.pair (.sl (.int .i64)) .unit))), some (.int .i64)], (.sl (.int .i64))⟩),
    (19, ⟨[some (.st (.pair (.sl (.int .i64)) (.pair (.sl (.int .i64)) .unit))), some (.st (.pair (.sl (.int .i64)) (.pair (.sl (.int .i64)) .unit)))], .bool⟩),
    (20, ⟨[some (.st (.pair (.sl (.int .i64)) (.pair (.sl (.int .i64)) .unit)))], (.st (.pair (.sl (.int .i64)) (.pair (.sl (.int .i64)) .unit)))⟩),
    (21, ⟨[some (.st (.pair (.sl (.int .i64)) (.pair (.sl (.int .i64)) .unit)))], (.st (.pair (.sl (.int .i64)) (.pair (.sl (.int .i64)) .unit)))⟩),
    (22, ⟨[some (.st (.pair (.sl (.int .i64)) (.pair (.sl (.int .i64)) .unit))), some (.st (.pair (.sl (.int .i64)) (.pair (.sl (.int .i64)) .unit)))], .bool⟩),
    (23, ⟨[some (.st (.pair (.sl (.int .i64)) (.pair (.sl (.int .i64)) .unit))), some (.st (.pair (.sl (.int .i64)) (.pair (.sl (.int .i64)) .unit)))], .bool⟩),
    (24, ⟨[some (.st (.pair (.sl (.int .i64)) (.pair (.sl (.int .i64)) .unit))), some (.int .i64)], (.st (.pair (.sl (.int .i64)) (.pair (.sl (.int .i64)) .unit)))⟩),
    (25, ⟨[some (.st (.pair (.sl (.int .i64)) (.pair (.sl (.int .i64)) .unit))), some (.int .i64)], (.st (.pair (.sl (.int .i64)) (.pair (.sl (.int .i64)) .unit)))⟩),
    (26, ⟨[some (.sl (.int .i64)), some (.st (.pair (.sl (.int .i64)) (.pair (.sl (.int .i64)) .unit)))], (.st (.pair (.sl (.int .i64)) (.pair (.sl (.int .i64)) .unit)))⟩),
    (27, ⟨[some (.sl (.int .i64)), some (.st (.pair (.sl (.int .i64)) (.pair (.sl (.int .i64)) .unit)))], (.st (.pair (.sl (.int .i64)) (.pair (.sl (.int .i64)) .unit)))⟩),
    (28, ⟨[some (.st (.pair (.sl (.int .i64)) (.pair (.sl (.int .i64)) .unit))), some (.st (.pair (.sl (.int .i64)) (.pair (.sl (.int .i64)) .unit))), some (.sl (.sl (.int .i64)))], (.st (.pair (.sl (.int .i64)) (.pair (.sl (.int .i64)) .unit)))⟩),
    (29, ⟨[some (.st (.pair (.sl (.int .i64)) (.pair (.sl (.int .i64)) .unit))), some (.st (.pair (.sl (.int .i64)) (.pair (.sl (.int .i64)) .unit))), some (.sl (.sl (.int .i64)))], (.st (.pair (.sl (.int .i64)) (.pair (.sl (.int .i64)) .unit)))⟩),
    (30, ⟨[some (.st (.pair (.sl (.int .i64)) (.pair (.sl (.int .i64)) .unit)))], .bool⟩),
    (31, ⟨[some (.st (.pair (.sl (.int .i64)) (.pair (.sl (.int .i64)) .unit))), some (.st (.pair (.sl (.int .i64)) (.pair (.sl (.int .i64)) .unit))), some (.int .i64)], .bool⟩),
    (32, ⟨[], (.sl (.sl (.int .i64)))⟩),
    (33, ⟨[some (.sl (.int .i64)), some (.sl (.int .i64))], (.st (.pair (.sl (.int .i64)) (.pair (.sl (.int .i64)) .unit)))⟩),
    (34, ⟨[some (.st (.pair (.sl (.int .i64)) (.pair (.sl (.int .i64)) .unit)))], .bool⟩),
    (35, ⟨[some (.sl (.int .i64))], (.int .i64)⟩),
    (36, ⟨[some (.sl (.int .i64))], (.int .i64)⟩),
    (37, ⟨[some (.st (.pair (.sl (.int .i64)) (.pair (.sl (.int .i64)) .unit))), some (.int .i64)], (.int .i64)⟩),
    (38, ⟨[none, some (.int .i64)], (.sl (.int .i64))⟩),
    (40, ⟨[some (.st (.pair (.sl (.int .i64)) (.pair (.sl (.int .i64)) .unit)))], (.st (.pair (.sl (.int .i64)) (.pair (.sl (.int .i64)) .unit)))⟩),
    (41, ⟨[some (.st (.pair (.sl (.int .i64)) (.pair (.sl (.int .i64)) .unit)))], (.st (.pair (.sl (.int .i64)) (.pair (.sl (.int .i64)) .unit)))⟩),
    (42, ⟨[some (.sl (.int .i64)), some (.sl (.int .i64))], .bool⟩),
    (43, ⟨[some (.sl (.sl (.int .i64)))], (.sl (.int .i64))⟩),
    (44, ⟨[some (.sl (.int .i64)), none], .bool⟩),
    (45, ⟨[some (.int .i64)], .bool⟩),
    (46, ⟨[some (.int .i64)], .bool⟩),
    (47, ⟨[some (.st (.pair (.sl (.int .i64)) (.pair (.sl (.int .i64)) .unit)))], (.st (.pair (.sl (.int .i64)) (.pair (.sl (.int .i64)) .unit)))⟩),
    (48, ⟨[some (.int .i64)], .bool⟩),
    (49, ⟨[some (.st (.pair (.sl (.int .i64)) (.pair (.sl (.int .i64)) .unit)))], (.st (.pair (.sl (.int .i64)) (.pair (.sl (.int .i64)) .unit)))⟩),
    (50, ⟨[some (.int .i64)], .bool⟩),
    (51, ⟨[none, none], (.tup .unit)⟩),
    (52, ⟨[some (.sl (.int .i64))], (.sl (.int .i64))⟩),
    (53, ⟨[some (.sl (.int .i64))], (.int .i64)⟩),
    (54, ⟨[some (.sl (.int .i64)), some (.int .i64)], .bool⟩),
    (55, ⟨[some (.sl (.int .i64)), some (.int .i64)], (.sl (.int .i64))⟩),
    (56, ⟨[some (.sl (.int .i64)), none], (.int .i64)⟩),
    (57, ⟨[some (.st (.pair (.int .i64) (.pair (.int .i64) (.pair .bool (.pair (.int .u8) .unit)))))], .str⟩),
    (58, ⟨[some (.st (.pair (.int .i64) (.pair (.int .i64) (.pair .bool (.pair (.int .u8) .unit)))))], (.tup .unit)⟩),
    (59, ⟨[some .str], .str⟩),
    (60, ⟨[some .str], (.tup .unit)⟩),
    (61, ⟨[some .str], .str⟩),
    (62, ⟨[some .str], (.tup .unit)⟩),
    (63, ⟨[some (.st (.pair .str (.pair (.int .u64) .unit)))], .str⟩),
    (64, ⟨[some (.st (.pair .str (.pair (.int .u64) .unit)))], (.tup .unit)⟩),
    (65, ⟨[none], .str⟩),
    (66, ⟨[none], (.tup .unit)⟩),
    (67, ⟨[none], .str⟩),
    (68, ⟨[none], (.tup .unit)⟩),
    (69, ⟨[none], (.int .i64)⟩),
    (70, ⟨[none], .str⟩),
    (71, ⟨[none], (.tup .unit)⟩),
    (72, ⟨[some (.int .u8)], .str⟩)]
  globs := []
  maps := []
  cls := [(39, ⟨[some (.st (.pair (.sl (.int .i64)) (.pair (.sl (.int .i64)) .unit)))], 51, [0]⟩)]
def ownT : List (Nat × List Nat) := [(4, [4]), (6, [8]), (8, [8, 9, 10, 54, 56]), (9, [10]), (10, [1, 3]), (18, [25]), (20, [2]), (21, [2]), (22, [5, 6]), (24, [4]), (25, [4, 36, 41]), (26, [4]), (27, [4, 25, 27]), (28, [6, 103]), (29, [6, 83]), (32, [16, 20]), (33, [4]), (38, [5, 16]), (40, [2]), (41, [2, 13, 19, 50]), (43, [33]), (47, [2]), (49, [2]), (52, [5]), (55, [20, 22, 25])]
def inlT : List Nat := [39, 51]
theorem tab_ok : tabB Try.prog tT = true := by kernel_rfl
theorem mixed : Try.prog.follows .mixedOrders = true := by kernel_rfl
theorem inl_ok : ∀ f, f ∈ inlT → Enters Try.prog f := by
  intro f hf
  simp only [inlT, List.mem_cons, List.not_mem_nil, or_false] at hf
  rcases hf with rfl | rfl
  · exact ⟨fun _ _ => by kernel_rfl⟩
  · exact ⟨fun _ _ => by kernel_rfl⟩

end Go.Proofs.Ytblibehfjjgdeaa
