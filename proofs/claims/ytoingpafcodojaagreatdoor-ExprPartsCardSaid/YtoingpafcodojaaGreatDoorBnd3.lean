/- Texts that the last one leans on: The types' table of this program, as literals. No condition. Rules for walking code over the abstract state. No condition. A row that is written no more is data wherever it is named. No condition. A walk by itself: tests are split (those that cannot be are left away), reckonings that stay within bounds, ends of drawing regions, calls met by the contracts named. No condition. Short words for steps of a walk (bundle.py puts them in, so that a claim stays small). Condition: none. A function whose first result is a row of its own, kept as a row. No condition. A function whose results keep their names: pointers to objects, rows. No condition. Data that reads as other data; a contract met with such arguments. No condition. A function of data whose result is flat, called with rows that stay with their names. No condition. Env.Get: a range over slices.Backward. Condition: none. What the lexer's text asks of the library: TrimLeft, HasPrefix, CutPrefix, Cut; ParseUint at bases 10 and 16. Conditions: ASCII sets; digits of the base; the listed variables. Numbers of 64 bits: every operator. Condition: none. Numbers of 64 bits: sums, comparisons, every operator by its sign. Condition: none. A name that is given up; a row under a new name. No condition. A function that may panic: the memory it was handed is then given up. Its first state may be told in other words. No condition. Plain law of the parser: the place grows and stays within the tokens; no more e -/
import Derived.Test.YtoingpafcodojaaGreatDoorRows
import Derived.RangeFuncNested
import Derived.RangeFuncBound
import Derived.RangeFuncCalls
import Derived.RangeFuncLeaves
import Derived.Shelf.Abstract
import Derived.Shelf.RegionOpen
import Derived.WalkKit
import Derived.OwnWalkIn
import Derived.TacticsInMore
import Derived.LoopNIn
import Derived.LoopIn
import Derived.Shelf.Strings.SlTrimAscii
import Derived.Shelf.Spec.BitsCarry
import Derived.Lib.Walk
import Derived.Lib.SliceRun
import Derived.Deep.LoopGhost
import Derived.Defers
import Derived.Recover
import Derived.Test.YtoingpafcodojaaGreatDoorBnd1
import Derived.Test.YtoingpafcodojaaGreatDoorBnd2
set_option linter.unusedVariables false
set_option linter.unusedSimpArgs false
set_option maxRecDepth 100000
namespace Go.Proofs.YtoingpafcodojaaGreatDoor

def lay : List (Nat × Lay) := [
 (1, ⟨1, 8, [.nilFunc], .other⟩),
 (2, ⟨1, 8, [.int .i64 0], .int .i64⟩),
 (3, ⟨1, 8, [.int .i64 0], .int .i64⟩),
 (4, ⟨1, 1, [.bool false], .bool⟩),
 (5, ⟨1, 1, [.int .u8 0], .int .u8⟩),
 (6, ⟨1, 1, [.int .u8 0], .int .u8⟩),
 (7, ⟨4, 24, [.int .i64 0, .int .i64 0, .bool false, .int .u8 0], .st [(0, 1, false), (1, 1, false), (2, 1, false), (3, 1, false)]⟩),
 (8, ⟨4, 24, [.int .i64 0, .int .i64 0, .bool false, .int .u8 0], .st [(0, 1, false), (1, 1, false), (2, 1, false), (3, 1, false)]⟩),
 (9, ⟨1, 16, [.string ⟨#[]⟩], .str⟩),
 (10, ⟨1, 16, [.string ⟨#[]⟩], .str⟩),
 (11, ⟨1, 16, [.string ⟨#[]⟩], .str⟩),
 (12, ⟨1, 8, [.int .u64 0], .int .u64⟩),
 (13, ⟨2, 24, [.string ⟨#[]⟩, .int .u64 0], .st [(0, 1, false), (1, 1, false)]⟩),
 (14, ⟨2, 24, [.string ⟨#[]⟩, .int .u64 0], .st [(0, 1, false), (1, 1, false)]⟩),
 (15, ⟨1, 8, [.pointer none], .other⟩),
 (16, ⟨1, 8, [.pointer none], .other⟩),
 (17, ⟨1, 8, [.pointer none], .other⟩),
 (18, ⟨1, 8, [.pointer none], .st [(0, 1, false)]⟩),
 (19, ⟨1, 8, [.pointer none], .st [(0, 1, false)]⟩),
 (20, ⟨1, 16, [.nilIface], .other⟩),
 (21, ⟨1, 4, [.int .i32 0], .int .i32⟩),
 (22, ⟨1, 24, [.slice none 0 0], .sl 112⟩),
 (23, ⟨1, 8, [.pointer none], .other⟩),
 (24, ⟨2, 16, [.int .i64 0, .int .i64 0], .st [(0, 1, false), (1, 1, false)]⟩),
 (25, ⟨2, 16, [.int .i64 0, .int .i64 0], .st [(0, 1, false), (1, 1, false)]⟩),
 (26, ⟨1, 8, [.int .i64 0], .int .i64⟩),
 (28, ⟨1, 8, [.nilFunc], .other⟩),
 (29, ⟨1, 24, [.slice none 0 0], .sl 104⟩),
 (30, ⟨1, 24, [.slice none 0 0], .sl 107⟩),
 (31, ⟨1, 24, [.slice none 0 0], .sl 127⟩),
 (32, ⟨1, 24, [.slice none 0 0], .sl 62⟩),
 (33, ⟨4, 96, [.slice none 0 0, .slice none 0 0, .slice none 0 0, .slice none 0 0], .st [(0, 1, false), (1, 1, false), (2, 1, false), (3, 1, false)]⟩),
 (34, ⟨4, 96, [.slice none 0 0, .slice none 0 0, .slice none 0 0, .slice none 0 0], .st [(0, 1, false), (1, 1, false), (2, 1, false), (3, 1, false)]⟩),
 (35, ⟨2, 16, [.int .i64 0, .int .i64 0], .arr 2 3⟩),
 (37, ⟨1, 8, [.nilFunc], .other⟩),
 (38, ⟨1, 8, [.nilFunc], .other⟩),
 (39, ⟨1, 24, [.slice none 0 0], .sl 82⟩),
 (40, ⟨1, 24, [.slice none 0 0], .sl 146⟩),
 (41, ⟨1, 24, [.slice none 0 0], .sl 77⟩),
 (42, ⟨1, 24, [.slice none 0 0], .sl 57⟩),
 (43, ⟨4, 96, [.slice none 0 0, .slice none 0 0, .slice none 0 0, .slice none 0 0], .st [(0, 1, false), (1, 1, false), (2, 1, false), (3, 1, false)]⟩),
 (44, ⟨4, 96, [.slice none 0 0, .slice none 0 0, .slice none 0 0, .slice none 0 0], .st [(0, 1, false), (1, 1, false), (2, 1, false), (3, 1, false)]⟩),
 (45, ⟨1, 24, [.slice none 0 0], .sl 69⟩),
 (46, ⟨1, 24, [.slice none 0 0], .sl 69⟩),
 (47, ⟨1, 24, [.slice none 0 0], .sl 113⟩),
 (49, ⟨1, 8, [.nilFunc], .other⟩),
 (50, ⟨1, 8, [.int .u64 0], .int .u64⟩),
 (52, ⟨1, 8, [.nilFunc], .other⟩),
 (53, ⟨1, 8, [.int .i64 0], .int .i64⟩),
 (54, ⟨1, 24, [.slice none 0 0], .sl 3⟩),
 (55, ⟨1, 24, [.slice none 0 0], .sl 251⟩),
 (56, ⟨8, 104, [.int .i64 0, .int .i64 0, .bool false, .string ⟨#[]⟩, .slice none 0 0, .int .i64 0, .int .i64 0, .slice none 0 0], .st [(0, 1, false), (1, 1, false), (2, 1, false), (3, 1, false), (4, 1, false), (5, 1, false), (6, 1, false), (7, 1, false)]⟩),
 (57, ⟨8, 104, [.int .i64 0, .int .i64 0, .bool false, .string ⟨#[]⟩, .slice none 0 0, .int .i64 0, .int .i64 0, .slice none 0 0], .st [(0, 1, false), (1, 1, false), (2, 1, false), (3, 1, false), (4, 1, false), (5, 1, false), (6, 1, false), (7, 1, false)]⟩),
 (59, ⟨1, 8, [.nilFunc], .other⟩),
 (60, ⟨1, 24, [.slice none 0 0], .sl 233⟩),
 (61, ⟨8, 104, [.int .i64 0, .int .i64 0, .bool false, .string ⟨#[]⟩, .slice none 0 0, .int .i64 0, .int .i64 0, .slice none 0 0], .st [(0, 1, false), (1, 1, false), (2, 1, false), (3, 1, false), (4, 1, false), (5, 1, false), (6, 1, false), (7, 1, false)]⟩),
 (62, ⟨8, 104, [.int .i64 0, .int .i64 0, .bool false, .string ⟨#[]⟩, .slice none 0 0, .int .i64 0, .int .i64 0, .slice none 0 0], .st [(0, 1, false), (1, 1, false), (2, 1, false), (3, 1, false), (4, 1, false), (5, 1, false), (6, 1, false), (7, 1, false)]⟩),
 (63, ⟨1, 8, [.nilFunc], .other⟩),
 (64, ⟨2, 32, [.string ⟨#[]⟩, .string ⟨#[]⟩], .arr 2 9⟩),
 (65, ⟨1, 24, [.slice none 0 0], .sl 9⟩),
 (67, ⟨1, 8, [.nilFunc], .other⟩),
 (68, ⟨2, 24, [.string ⟨#[]⟩, .int .u64 0], .st [(0, 1, false), (1, 1, false)]⟩),
 (69, ⟨2, 24, [.string ⟨#[]⟩, .int .u64 0], .st [(0, 1, false), (1, 1, false)]⟩),
 (70, ⟨1, 8, [.nilFunc], .other⟩),
 (71, ⟨1, 24, [.slice none 0 0], .sl 126⟩),
 (73, ⟨1, 8, [.nilFunc], .other⟩),
 (74, ⟨1, 8, [.nilFunc], .other⟩),
 (75, ⟨1, 8, [.int .i64 0], .int .i64⟩),
 (76, ⟨5, 72, [.int .i64 0, .string ⟨#[]⟩, .int .u64 0, .string ⟨#[]⟩, .slice none 0 0], .st [(0, 1, false), (1, 1, false), (2, 1, false), (3, 1, false), (4, 1, false)]⟩),
 (77, ⟨5, 72, [.int .i64 0, .string ⟨#[]⟩, .int .u64 0, .string ⟨#[]⟩, .slice none 0 0], .st [(0, 1, false), (1, 1, false), (2, 1, false), (3, 1, false), (4, 1, false)]⟩),
 (78, ⟨1, 8, [.nilFunc], .other⟩),
 (80, ⟨1, 8, [.nilFunc], .other⟩),
 (81, ⟨1, 8, [.nilFunc], .other⟩),
 (82, ⟨2, 24, [.string ⟨#[]⟩, .int .u64 0], .st [(0, 1, false), (1, 1, false)]⟩),
 (83, ⟨1, 8, [.nilFunc], .other⟩),
 (84, ⟨1, 8, [.nilFunc], .other⟩),
 (85, ⟨1, 24, [.slice none 0 0], .sl 137⟩),
 (87, ⟨1, 8, [.nilFunc], .other⟩),
 (88, ⟨3, 24, [.int .i64 0, .int .i64 0, .int .i64 0], .st [(0, 2, true), (2, 1, false)]⟩),
 (89, ⟨3, 24, [.int .i64 0, .int .i64 0, .int .i64 0], .st [(0, 2, true), (2, 1, false)]⟩),
 (90, ⟨1, 8, [.pointer none], .other⟩),
 (91, ⟨4, 48, [.slice none 0 0, .int .i64 0, .int .i64 0, .pointer none], .st [(0, 1, false), (1, 1, false), (2, 1, false), (3, 1, false)]⟩),
 (92, ⟨4, 48, [.slice none 0 0, .int .i64 0, .int .i64 0, .pointer none], .st [(0, 1, false), (1, 1, false), (2, 1, false), (3, 1, false)]⟩),
 (93, ⟨1, 24, [.slice none 0 0], .sl 110⟩),
 (95, ⟨1, 8, [.nilFunc], .other⟩),
 (96, ⟨1, 8, [.pointer none], .other⟩),
 (97, ⟨8, 144, [.slice none 0 0, .int .i64 0, .int .i64 0, .slice none 0 0, .slice none 0 0, .slice none 0 0, .slice none 0 0, .int .i64 0], .st [(0, 1, false), (1, 1, false), (2, 1, false), (3, 4, true), (7, 1, false)]⟩),
 (98, ⟨8, 144, [.slice none 0 0, .int .i64 0, .int .i64 0, .slice none 0 0, .slice none 0 0, .slice none 0 0, .slice none 0 0, .int .i64 0], .st [(0, 1, false), (1, 1, false), (2, 1, false), (3, 4, true), (7, 1, false)]⟩),
 (99, ⟨1, 8, [.nilFunc], .other⟩),
 (100, ⟨1, 8, [.nilFunc], .other⟩),
 (101, ⟨1, 8, [.nilFunc], .other⟩),
 (102, ⟨1, 8, [.nilFunc], .other⟩),
 (103, ⟨1, 8, [.nilFunc], .other⟩),
 (104, ⟨2, 24, [.string ⟨#[]⟩, .int .u64 0], .st [(0, 1, false), (1, 1, false)]⟩),
 (105, ⟨1, 24, [.slice none 0 0], .sl 155⟩),
 (106, ⟨3, 64, [.string ⟨#[]⟩, .slice none 0 0, .slice none 0 0], .st [(0, 1, false), (1, 1, false), (2, 1, false)]⟩),
 (107, ⟨3, 64, [.string ⟨#[]⟩, .slice none 0 0, .slice none 0 0], .st [(0, 1, false), (1, 1, false), (2, 1, false)]⟩),
 (108, ⟨1, 8, [.nilFunc], .other⟩),
 (109, ⟨5, 48, [.int .i64 0, .string ⟨#[]⟩, .int .u64 0, .int .i64 0, .int .i64 0], .st [(0, 1, false), (1, 1, false), (2, 1, false), (3, 1, false), (4, 1, false)]⟩),
 (110, ⟨5, 48, [.int .i64 0, .string ⟨#[]⟩, .int .u64 0, .int .i64 0, .int .i64 0], .st [(0, 1, false), (1, 1, false), (2, 1, false), (3, 1, false), (4, 1, false)]⟩),
 (111, ⟨1, 8, [.nilFunc], .other⟩),
 (112, ⟨2, 24, [.string ⟨#[]⟩, .int .u64 0], .st [(0, 1, false), (1, 1, false)]⟩),
 (113, ⟨2, 24, [.string ⟨#[]⟩, .int .u64 0], .st [(0, 1, false), (1, 1, false)]⟩),
 (114, ⟨1, 8, [.nilFunc], .other⟩),
 (115, ⟨2, 16, [.int .u64 0, .int .i64 0], .st [(0, 1, false), (1, 1, false)]⟩),
 (116, ⟨2, 16, [.int .u64 0, .int .i64 0], .st [(0, 1, false), (1, 1, false)]⟩),
 (117, ⟨1, 8, [.pointer none], .other⟩),
 (118, ⟨1, 8, [.map none], .map 3 116⟩),
 (119, ⟨3, 56, [.slice none 0 0, .slice none 0 0, .map none], .st [(0, 1, false), (1, 1, false), (2, 1, false)]⟩),
 (120, ⟨3, 56, [.slice none 0 0, .slice none 0 0, .map none], .st [(0, 1, false), (1, 1, false), (2, 1, false)]⟩),
 (121, ⟨1, 8, [.nilFunc], .other⟩),
 (122, ⟨1, 24, [.slice none 0 0], .sl 50⟩),
 (124, ⟨1, 8, [.nilFunc], .other⟩),
 (125, ⟨5, 72, [.int .i64 0, .string ⟨#[]⟩, .int .u64 0, .string ⟨#[]⟩, .slice none 0 0], .st [(0, 1, false), (1, 1, false), (2, 1, false), (3, 1, false), (4, 1, false)]⟩),
 (126, ⟨5, 72, [.int .i64 0, .string ⟨#[]⟩, .int .u64 0, .string ⟨#[]⟩, .slice none 0 0], .st [(0, 1, false), (1, 1, false), (2, 1, false), (3, 1, false), (4, 1, false)]⟩),
 (127, ⟨5, 72, [.int .i64 0, .string ⟨#[]⟩, .int .u64 0, .string ⟨#[]⟩, .slice none 0 0], .st [(0, 1, false), (1, 1, false), (2, 1, false), (3, 1, false), (4, 1, false)]⟩),
 (128, ⟨1, 8, [.nilFunc], .other⟩),
 (129, ⟨1, 8, [.nilFunc], .other⟩),
 (130, ⟨1, 8, [.nilFunc], .other⟩),
 (131, ⟨1, 8, [.nilFunc], .other⟩),
 (132, ⟨1, 8, [.pointer none], .other⟩),
 (133, ⟨3, 32, [.string ⟨#[]⟩, .int .i64 0, .int .i64 0], .st [(0, 1, false), (1, 2, true)]⟩),
 (134, ⟨3, 32, [.string ⟨#[]⟩, .int .i64 0, .int .i64 0], .st [(0, 1, false), (1, 2, true)]⟩),
 (135, ⟨1, 8, [.int .i64 0], .int .i64⟩),
 (136, ⟨5, 48, [.int .i64 0, .string ⟨#[]⟩, .int .u64 0, .int .i64 0, .int .i64 0], .st [(0, 1, false), (1, 1, false), (2, 1, false), (3, 2, true)]⟩),
 (137, ⟨5, 48, [.int .i64 0, .string ⟨#[]⟩, .int .u64 0, .int .i64 0, .int .i64 0], .st [(0, 1, false), (1, 1, false), (2, 1, false), (3, 2, true)]⟩),
 (139, ⟨1, 8, [.nilFunc], .other⟩),
 (140, ⟨1, 8, [.nilFunc], .other⟩),
 (141, ⟨1, 8, [.nilFunc], .other⟩),
 (142, ⟨1, 8, [.nilFunc], .other⟩),
 (143, ⟨1, 8, [.nilFunc], .other⟩),
 (144, ⟨1, 24, [.slice none 0 0], .sl 177⟩),
 (145, ⟨3, 64, [.string ⟨#[]⟩, .slice none 0 0, .slice none 0 0], .st [(0, 1, false), (1, 1, false), (2, 1, false)]⟩),
 (146, ⟨3, 64, [.string ⟨#[]⟩, .slice none 0 0, .slice none 0 0], .st [(0, 1, false), (1, 1, false), (2, 1, false)]⟩),
 (147, ⟨1, 8, [.nilFunc], .other⟩),
 (148, ⟨1, 8, [.nilFunc], .other⟩),
 (149, ⟨1, 8, [.nilFunc], .other⟩),
 (151, ⟨1, 8, [.nilFunc], .other⟩),
 (152, ⟨1, 8, [.nilFunc], .other⟩),
 (153, ⟨1, 24, [.slice none 0 0], .sl 183⟩),
 (154, ⟨9, 112, [.string ⟨#[]⟩, .int .i64 0, .int .i64 0, .string ⟨#[]⟩, .string ⟨#[]⟩, .int .i64 0, .int .i64 0, .bool false, .slice none 0 0], .st [(0, 1, false), (1, 1, false), (2, 1, false), (3, 1, false), (4, 1, false), (5, 1, false), (6, 1, false), (7, 1, false), (8, 1, false)]⟩),
 (155, ⟨9, 112, [.string ⟨#[]⟩, .int .i64 0, .int .i64 0, .string ⟨#[]⟩, .string ⟨#[]⟩, .int .i64 0, .int .i64 0, .bool false, .slice none 0 0], .st [(0, 1, false), (1, 1, false), (2, 1, false), (3, 1, false), (4, 1, false), (5, 1, false), (6, 1, false), (7, 1, false), (8, 1, false)]⟩),
 (156, ⟨1, 8, [.nilFunc], .other⟩),
 (157, ⟨1, 24, [.slice none 0 0], .sl 4⟩),
 (159, ⟨1, 8, [.nilFunc], .other⟩),
 (161, ⟨1, 8, [.nilFunc], .other⟩),
 (162, ⟨1, 8, [.nilFunc], .other⟩),
 (163, ⟨1, 8, [.nilFunc], .other⟩),
 (164, ⟨1, 8, [.nilFunc], .other⟩),
 (165, ⟨1, 8, [.nilFunc], .other⟩),
 (167, ⟨1, 8, [.nilFunc], .other⟩),
 (168, ⟨1, 8, [.nilFunc], .other⟩),
 (169, ⟨29, 464, [.string ⟨#[]⟩, .string ⟨#[]⟩, .string ⟨#[]⟩, .string ⟨#[]⟩, .string ⟨#[]⟩, .string ⟨#[]⟩, .string ⟨#[]⟩, .string ⟨#[]⟩, .string ⟨#[]⟩, .string ⟨#[]⟩, .string ⟨#[]⟩, .string ⟨#[]⟩, .string ⟨#[]⟩, .string ⟨#[]⟩, .string ⟨#[]⟩, .string ⟨#[]⟩, .string ⟨#[]⟩, .string ⟨#[]⟩, .string ⟨#[]⟩, .string ⟨#[]⟩, .string ⟨#[]⟩, .string ⟨#[]⟩, .string ⟨#[]⟩, .string ⟨#[]⟩, .string ⟨#[]⟩, .string ⟨#[]⟩, .string ⟨#[]⟩, .string ⟨#[]⟩, .string ⟨#[]⟩], .arr 29 9⟩),
 (170, ⟨1, 24, [.slice none 0 0], .sl 5⟩),
 (171, ⟨1, 8, [.nilFunc], .other⟩),
 (172, ⟨1, 8, [.nilFunc], .other⟩),
 (173, ⟨1, 8, [.nilFunc], .other⟩),
 (174, ⟨1, 8, [.int .i64 0], .int .i64⟩),
 (175, ⟨1, 24, [.slice none 0 0], .sl 198⟩),
 (176, ⟨9, 112, [.string ⟨#[]⟩, .int .i64 0, .int .i64 0, .string ⟨#[]⟩, .string ⟨#[]⟩, .int .i64 0, .int .i64 0, .bool false, .slice none 0 0], .st [(0, 1, false), (1, 1, false), (2, 1, false), (3, 1, false), (4, 1, false), (5, 1, false), (6, 1, false), (7, 1, false), (8, 1, false)]⟩),
 (177, ⟨9, 112, [.string ⟨#[]⟩, .int .i64 0, .int .i64 0, .string ⟨#[]⟩, .string ⟨#[]⟩, .int .i64 0, .int .i64 0, .bool false, .slice none 0 0], .st [(0, 1, false), (1, 1, false), (2, 1, false), (3, 1, false), (4, 1, false), (5, 1, false), (6, 1, false), (7, 1, false), (8, 1, false)]⟩),
 (178, ⟨1, 8, [.nilFunc], .other⟩),
 (179, ⟨1, 8, [.nilFunc], .other⟩),
 (180, ⟨1, 8, [.nilFunc], .other⟩),
 (181, ⟨1, 8, [.nilFunc], .other⟩),
 (182, ⟨2, 24, [.string ⟨#[]⟩, .int .i64 0], .st [(0, 1, false), (1, 1, false)]⟩),
 (183, ⟨2, 24, [.string ⟨#[]⟩, .int .i64 0], .st [(0, 1, false), (1, 1, false)]⟩),
 (184, ⟨1, 8, [.nilFunc], .other⟩),
 (185, ⟨1, 8, [.nilFunc], .other⟩),
 (186, ⟨1, 8, [.nilFunc], .other⟩),
 (187, ⟨1, 8, [.nilFunc], .other⟩),
 (188, ⟨1, 8, [.nilFunc], .other⟩),
 (189, ⟨1, 8, [.nilFunc], .other⟩),
 (191, ⟨1, 8, [.nilFunc], .other⟩),
 (192, ⟨1, 16, [.nilIface], .other⟩),
 (193, ⟨1, 16, [.nilIface], .other⟩),
 (195, ⟨1, 8, [.nilFunc], .other⟩),
 (197, ⟨1, 8, [.nilFunc], .other⟩),
 (198, ⟨2, 24, [.string ⟨#[]⟩, .int .i64 0], .st [(0, 1, false), (1, 1, false)]⟩),
 (199, ⟨1, 8, [.nilFunc], .other⟩),
 (200, ⟨1, 8, [.nilFunc], .other⟩),
 (201, ⟨1, 8, [.pointer none], .other⟩),
 (202, ⟨1, 8, [.nilFunc], .other⟩),
 (203, ⟨1, 8, [.nilFunc], .other⟩),
 (204, ⟨1, 8, [.nilFunc], .other⟩),
 (205, ⟨1, 8, [.nilFunc], .other⟩),
 (206, ⟨1, 8, [.nilFunc], .other⟩),
 (207, ⟨1, 8, [.nilFunc], .other⟩),
 (208, ⟨1, 8, [.nilFunc], .other⟩),
 (210, ⟨1, 8, [.nilFunc], .other⟩),
 (211, ⟨1, 8, [.nilFunc], .other⟩),
 (212, ⟨1, 8, [.nilFunc], .other⟩),
 (213, ⟨256, 256, [.bool false, .bool false, .bool false, .bool false, .bool false, .bool false, .bool false, .bool false, .bool false, .bool false, .bool false, .bool false, .bool false, .bool false, .bool false, .bool false, .bool false, .bool false, .bool false, .bool false, .bool false, .bool false, .bool false, .bool false, .bool false, .bool false, .bool false, .bool false, .bool false, .bool false, .bool false, .bool false, .bool false, .bool false, .bool false, .bool false, .bool false, .bool false, .bool false, .bool false, .bool false, .bool false, .bool false, .bool false, .bool false, .bool false, .bool false, .bool false, .bool false, .bool false, .bool false, .bool false, .bool false, .bool false, .bool false, .bool false, .bool false, .bool false, .bool false, .bool false, .bool false, .bool false, .bool false, .bool false, .bool false, .bool false, .bool false, .bool false, .bool false, .bool false, .bool false, .bool false, .bool false, .bool false, .bool false, .bool false, .bool false, .bool false, .bool false, .bool false, .bool false, .bool false, .bool false, .bool false, .bool false, .bool false, .bool false, .bool false, .bool false, .bool false, .bool false, .bool false, .bool false, .bool false, .bool false, .bool false, .bool false, .bool false, .bool false, .bool false, .bool false, .bool false, .bool false, .bool false, .bool false, .bool false, .bool false, .bool false, .bool false, .bool false, .bool false, .bool false, .bool false, .bool false, .bool false, .bool false, .bool false, .bool false, .bool false, .bool false, .bool false, .bool false, .bool false, .bool false, .bool false, .bool false, .bool false, .bool false, .bool false, .bool false, .bool false, .bool false, .bool false, .bool false, .bool false, .bool false, .bool false, .bool false, .bool false, .bool false, .bool false, .bool false, .bool false, .bool false, .bool false, .bool false, .bool false, .bool false, .bool false, .bool false, .bool false, .bool false, .bool false, .bool false, .bool false, .bool false, .bool false, .bool false, .bool false, .bool false, .bool false, .bool false, .bool false, .bool false, .bool false, .bool false, .bool false, .bool false, .bool false, .bool false, .bool false, .bool false, .bool false, .bool false, .bool false, .bool false, .bool false, .bool false, .bool false, .bool false, .bool false, .bool false, .bool false, .bool false, .bool false, .bool false, .bool false, .bool false, .bool false, .bool false, .bool false, .bool false, .bool false, .bool false, .bool false, .bool false, .bool false, .bool false, .bool false, .bool false, .bool false, .bool false, .bool false, .bool false, .bool false, .bool false, .bool false, .bool false, .bool false, .bool false, .bool false, .bool false, .bool false, .bool false, .bool false, .bool false, .bool false, .bool false, .bool false, .bool false, .bool false, .bool false, .bool false, .bool false, .bool false, .bool false, .bool false, .bool false, .bool false, .bool false, .bool false, .bool false, .bool false, .bool false, .bool false, .bool false, .bool false, .bool false, .bool false, .bool false, .bool false, .bool false, .bool false, .bool false, .bool false, .bool false, .bool false, .bool false, .bool false, .bool false, .bool false, .bool false, .bool false, .bool false, .bool false, .bool false], .arr 256 4⟩),
 (214, ⟨256, 256, [.bool false, .bool false, .bool false, .bool false, .bool false, .bool false, .bool false, .bool false, .bool false, .bool false, .bool false, .bool false, .bool false, .bool false, .bool false, .bool false, .bool false, .bool false, .bool false, .bool false, .bool false, .bool false, .bool false, .bool false, .bool false, .bool false, .bool false, .bool false, .bool false, .bool false, .bool false, .bool false, .bool false, .bool false, .bool false, .bool false, .bool false, .bool false, .bool false, .bool false, .bool false, .bool false, .bool false, .bool false, .bool false, .bool false, .bool false, .bool false, .bool false, .bool false, .bool false, .bool false, .bool false, .bool false, .bool false, .bool false, .bool false, .bool false, .bool false, .bool false, .bool false, .bool false, .bool false, .bool false, .bool false, .bool false, .bool false, .bool false, .bool false, .bool false, .bool false, .bool false, .bool false, .bool false, .bool false, .bool false, .bool false, .bool false, .bool false, .bool false, .bool false, .bool false, .bool false, .bool false, .bool false, .bool false, .bool false, .bool false, .bool false, .bool false, .bool false, .bool false, .bool false, .bool false, .bool false, .bool false, .bool false, .bool false, .bool false, .bool false, .bool false, .bool false, .bool false, .bool false, .bool false, .bool false, .bool false, .bool false, .bool false, .bool false, .bool false, .bool false, .bool false, .bool false, .bool false, .bool false, .bool false, .bool false, .bool false, .bool false, .bool false, .bool false, .bool false, .bool false, .bool false, .bool false, .bool false, .bool false, .bool false, .bool false, .bool false, .bool false, .bool false, .bool false, .bool false, .bool false, .bool false, .bool false, .bool false, .bool false, .bool false, .bool false, .bool false, .bool false, .bool false, .bool false, .bool false, .bool false, .bool false, .bool false, .bool false, .bool false, .bool false, .bool false, .bool false, .bool false, .bool false, .bool false, .bool false, .bool false, .bool false, .bool false, .bool false, .bool false, .bool false, .bool false, .bool false, .bool false, .bool false, .bool false, .bool false, .bool false, .bool false, .bool false, .bool false, .bool false, .bool false, .bool false, .bool false, .bool false, .bool false, .bool false, .bool false, .bool false, .bool false, .bool false, .bool false, .bool false, .bool false, .bool false, .bool false, .bool false, .bool false, .bool false, .bool false, .bool false, .bool false, .bool false, .bool false, .bool false, .bool false, .bool false, .bool false, .bool false, .bool false, .bool false, .bool false, .bool false, .bool false, .bool false, .bool false, .bool false, .bool false, .bool false, .bool false, .bool false, .bool false, .bool false, .bool false, .bool false, .bool false, .bool false, .bool false, .bool false, .bool false, .bool false, .bool false, .bool false, .bool false, .bool false, .bool false, .bool false, .bool false, .bool false, .bool false, .bool false, .bool false, .bool false, .bool false, .bool false, .bool false, .bool false, .bool false, .bool false, .bool false, .bool false, .bool false, .bool false, .bool false, .bool false, .bool false, .bool false, .bool false, .bool false, .bool false, .bool false], .arr 256 4⟩),
 (216, ⟨1, 8, [.nilFunc], .other⟩),
 (217, ⟨1, 8, [.nilFunc], .other⟩),
 (218, ⟨1, 8, [.pointer none], .other⟩),
 (220, ⟨1, 8, [.nilFunc], .other⟩),
 (221, ⟨1, 8, [.nilFunc], .other⟩),
 (222, ⟨5, 40, [.int .i64 0, .int .i64 0, .int .i64 0, .int .i64 0, .int .i64 0], .arr 5 3⟩),
 (223, ⟨2, 2, [.bool false, .bool false], .arr 2 4⟩),
 (224, ⟨1, 8, [.nilFunc], .other⟩),
 (225, ⟨1, 8, [.nilFunc], .other⟩),
 (226, ⟨1, 8, [.nilFunc], .other⟩),
 (228, ⟨1, 8, [.nilFunc], .other⟩),
 (229, ⟨1, 8, [.nilFunc], .other⟩),
 (230, ⟨1, 8, [.nilFunc], .other⟩),
 (231, ⟨1, 8, [.nilFunc], .other⟩),
 (232, ⟨2, 16, [.int .u64 0, .int .i64 0], .st [(0, 1, false), (1, 1, false)]⟩),
 (233, ⟨2, 16, [.int .u64 0, .int .i64 0], .st [(0, 1, false), (1, 1, false)]⟩),
 (234, ⟨1, 24, [.slice none 0 0], .sl 65⟩),
 (235, ⟨1, 8, [.nilFunc], .other⟩),
 (236, ⟨1, 8, [.nilFunc], .other⟩),
 (237, ⟨1, 8, [.nilFunc], .other⟩),
 (238, ⟨1, 8, [.nilFunc], .other⟩),
 (239, ⟨1, 8, [.nilFunc], .other⟩),
 (241, ⟨1, 8, [.nilFunc], .other⟩),
 (242, ⟨1, 8, [.nilFunc], .other⟩),
 (243, ⟨1, 8, [.nilFunc], .other⟩),
 (244, ⟨1, 8, [.int .u64 0], .int .u64⟩),
 (245, ⟨1, 8, [.int .i64 0], .int .i64⟩),
 (246, ⟨1, 8, [.nilFunc], .other⟩),
 (247, ⟨1, 8, [.pointer none], .other⟩),
 (248, ⟨1, 8, [.nilFunc], .other⟩),
 (249, ⟨1, 8, [.nilFunc], .other⟩),
 (250, ⟨1, 8, [.nilFunc], .other⟩),
 (251, ⟨2, 16, [.int .u64 0, .int .i64 0], .st [(0, 1, false), (1, 1, false)]⟩),
 (252, ⟨1, 8, [.nilFunc], .other⟩),
 (254, ⟨1, 8, [.nilFunc], .other⟩),
 (255, ⟨1, 8, [.nilFunc], .other⟩),
 (256, ⟨1, 8, [.nilFunc], .other⟩),
 (257, ⟨1, 8, [.nilFunc], .other⟩),
 (258, ⟨1, 4, [.int .u32 0], .int .u32⟩),
 (260, ⟨1, 8, [.nilFunc], .other⟩),
 (261, ⟨1, 8, [.nilFunc], .other⟩),
 (262, ⟨3, 48, [.string ⟨#[]⟩, .string ⟨#[]⟩, .nilIface], .st [(0, 1, false), (1, 1, false), (2, 1, false)]⟩),
 (263, ⟨3, 48, [.string ⟨#[]⟩, .string ⟨#[]⟩, .nilIface], .st [(0, 1, false), (1, 1, false), (2, 1, false)]⟩),
 (264, ⟨1, 8, [.nilFunc], .other⟩),
 (265, ⟨1, 8, [.nilFunc], .other⟩),
 (266, ⟨256, 256, [.int .u8 0, .int .u8 0, .int .u8 0, .int .u8 0, .int .u8 0, .int .u8 0, .int .u8 0, .int .u8 0, .int .u8 0, .int .u8 0, .int .u8 0, .int .u8 0, .int .u8 0, .int .u8 0, .int .u8 0, .int .u8 0, .int .u8 0, .int .u8 0, .int .u8 0, .int .u8 0, .int .u8 0, .int .u8 0, .int .u8 0, .int .u8 0, .int .u8 0, .int .u8 0, .int .u8 0, .int .u8 0, .int .u8 0, .int .u8 0, .int .u8 0, .int .u8 0, .int .u8 0, .int .u8 0, .int .u8 0, .int .u8 0, .int .u8 0, .int .u8 0, .int .u8 0, .int .u8 0, .int .u8 0, .int .u8 0, .int .u8 0, .int .u8 0, .int .u8 0, .int .u8 0, .int .u8 0, .int .u8 0, .int .u8 0, .int .u8 0, .int .u8 0, .int .u8 0, .int .u8 0, .int .u8 0, .int .u8 0, .int .u8 0, .int .u8 0, .int .u8 0, .int .u8 0, .int .u8 0, .int .u8 0, .int .u8 0, .int .u8 0, .int .u8 0, .int .u8 0, .int .u8 0, .int .u8 0, .int .u8 0, .int .u8 0, .int .u8 0, .int .u8 0, .int .u8 0, .int .u8 0, .int .u8 0, .int .u8 0, .int .u8 0, .int .u8 0, .int .u8 0, .int .u8 0, .int .u8 0, .int .u8 0, .int .u8 0, .int .u8 0, .int .u8 0, .int .u8 0, .int .u8 0, .int .u8 0, .int .u8 0, .int .u8 0, .int .u8 0, .int .u8 0, .int .u8 0, .int .u8 0, .int .u8 0, .int .u8 0, .int .u8 0, .int .u8 0, .int .u8 0, .int .u8 0, .int .u8 0, .int .u8 0, .int .u8 0, .int .u8 0, .int .u8 0, .int .u8 0, .int .u8 0, .int .u8 0, .int .u8 0, .int .u8 0, .int .u8 0, .int .u8 0, .int .u8 0, .int .u8 0, .int .u8 0, .int .u8 0, .int .u8 0, .int .u8 0, .int .u8 0, .int .u8 0, .int .u8 0, .int .u8 0, .int .u8 0, .int .u8 0, .int .u8 0, .int .u8 0, .int .u8 0, .int .u8 0, .int .u8 0, .int .u8 0, .int .u8 0, .int .u8 0, .int .u8 0, .int .u8 0, .int .u8 0, .int .u8 0, .int .u8 0, .int .u8 0, .int .u8 0, .int .u8 0, .int .u8 0, .int .u8 0, .int .u8 0, .int .u8 0, .int .u8 0, .int .u8 0, .int .u8 0, .int .u8 0, .int .u8 0, .int .u8 0, .int .u8 0, .int .u8 0, .int .u8 0, .int .u8 0, .int .u8 0, .int .u8 0, .int .u8 0, .int .u8 0, .int .u8 0, .int .u8 0, .int .u8 0, .int .u8 0, .int .u8 0, .int .u8 0, .int .u8 0, .int .u8 0, .int .u8 0, .int .u8 0, .int .u8 0, .int .u8 0, .int .u8 0, .int .u8 0, .int .u8 0, .int .u8 0, .int .u8 0, .int .u8 0, .int .u8 0, .int .u8 0, .int .u8 0, .int .u8 0, .int .u8 0, .int .u8 0, .int .u8 0, .int .u8 0, .int .u8 0, .int .u8 0, .int .u8 0, .int .u8 0, .int .u8 0, .int .u8 0, .int .u8 0, .int .u8 0, .int .u8 0, .int .u8 0, .int .u8 0, .int .u8 0, .int .u8 0, .int .u8 0, .int .u8 0, .int .u8 0, .int .u8 0, .int .u8 0, .int .u8 0, .int .u8 0, .int .u8 0, .int .u8 0, .int .u8 0, .int .u8 0, .int .u8 0, .int .u8 0, .int .u8 0, .int .u8 0, .int .u8 0, .int .u8 0, .int .u8 0, .int .u8 0, .int .u8 0, .int .u8 0, .int .u8 0, .int .u8 0, .int .u8 0, .int .u8 0, .int .u8 0, .int .u8 0, .int .u8 0, .int .u8 0, .int .u8 0, .int .u8 0, .int .u8 0, .int .u8 0, .int .u8 0, .int .u8 0, .int .u8 0, .int .u8 0, .int .u8 0, .int .u8 0, .int .u8 0, .int .u8 0, .int .u8 0, .int .u8 0, .int .u8 0, .int .u8 0, .int .u8 0, .int .u8 0, .int .u8 0, .int .u8 0, .int .u8 0, .int .u8 0, .int .u8 0, .int .u8 0, .int .u8 0, .int .u8 0, .int .u8 0, .int .u8 0, .int .u8 0, .int .u8 0, .int .u8 0], .arr 256 5⟩),
 (267, ⟨2, 2, [.int .u8 0, .int .u8 0], .st [(0, 1, false), (1, 1, false)]⟩),
 (268, ⟨2, 2, [.int .u8 0, .int .u8 0], .st [(0, 1, false), (1, 1, false)]⟩),
 (269, ⟨32, 32, [.int .u8 0, .int .u8 0, .int .u8 0, .int .u8 0, .int .u8 0, .int .u8 0, .int .u8 0, .int .u8 0, .int .u8 0, .int .u8 0, .int .u8 0, .int .u8 0, .int .u8 0, .int .u8 0, .int .u8 0, .int .u8 0, .int .u8 0, .int .u8 0, .int .u8 0, .int .u8 0, .int .u8 0, .int .u8 0, .int .u8 0, .int .u8 0, .int .u8 0, .int .u8 0, .int .u8 0, .int .u8 0, .int .u8 0, .int .u8 0, .int .u8 0, .int .u8 0], .arr 16 268⟩),
 (270, ⟨1, 8, [.nilFunc], .other⟩),
 (271, ⟨1, 8, [.pointer none], .other⟩),
 (272, ⟨1, 8, [.pointer none], .other⟩),
 (273, ⟨1, 16, [.string ⟨#[]⟩], .st [(0, 1, false)]⟩),
 (274, ⟨1, 16, [.string ⟨#[]⟩], .st [(0, 1, false)]⟩),
 (275, ⟨1, 8, [.nilFunc], .other⟩),
 (276, ⟨24, 24, [.int .u8 0, .int .u8 0, .int .u8 0, .int .u8 0, .int .u8 0, .int .u8 0, .int .u8 0, .int .u8 0, .int .u8 0, .int .u8 0, .int .u8 0, .int .u8 0, .int .u8 0, .int .u8 0, .int .u8 0, .int .u8 0, .int .u8 0, .int .u8 0, .int .u8 0, .int .u8 0, .int .u8 0, .int .u8 0, .int .u8 0, .int .u8 0], .arr 24 5⟩),
 (277, ⟨1, 8, [.nilFunc], .other⟩),
 (278, ⟨1, 8, [.nilFunc], .other⟩),
 (280, ⟨1, 8, [.nilFunc], .other⟩),
 (281, ⟨1, 8, [.nilFunc], .other⟩),
 (282, ⟨20, 160, [.int .u64 0, .int .u64 0, .int .u64 0, .int .u64 0, .int .u64 0, .int .u64 0, .int .u64 0, .int .u64 0, .int .u64 0, .int .u64 0, .int .u64 0, .int .u64 0, .int .u64 0, .int .u64 0, .int .u64 0, .int .u64 0, .int .u64 0, .int .u64 0, .int .u64 0, .int .u64 0], .arr 20 50⟩),
 (283, ⟨65, 65, [.int .u8 0, .int .u8 0, .int .u8 0, .int .u8 0, .int .u8 0, .int .u8 0, .int .u8 0, .int .u8 0, .int .u8 0, .int .u8 0, .int .u8 0, .int .u8 0, .int .u8 0, .int .u8 0, .int .u8 0, .int .u8 0, .int .u8 0, .int .u8 0, .int .u8 0, .int .u8 0, .int .u8 0, .int .u8 0, .int .u8 0, .int .u8 0, .int .u8 0, .int .u8 0, .int .u8 0, .int .u8 0, .int .u8 0, .int .u8 0, .int .u8 0, .int .u8 0, .int .u8 0, .int .u8 0, .int .u8 0, .int .u8 0, .int .u8 0, .int .u8 0, .int .u8 0, .int .u8 0, .int .u8 0, .int .u8 0, .int .u8 0, .int .u8 0, .int .u8 0, .int .u8 0, .int .u8 0, .int .u8 0, .int .u8 0, .int .u8 0, .int .u8 0, .int .u8 0, .int .u8 0, .int .u8 0, .int .u8 0, .int .u8 0, .int .u8 0, .int .u8 0, .int .u8 0, .int .u8 0, .int .u8 0, .int .u8 0, .int .u8 0, .int .u8 0, .int .u8 0], .arr 65 5⟩),
 (284, ⟨1, 8, [.nilFunc], .other⟩),
 (285, ⟨1, 8, [.nilFunc], .other⟩),
 (286, ⟨1, 8, [.nilFunc], .other⟩),
 (287, ⟨32, 32, [.int .u8 0, .int .u8 0, .int .u8 0, .int .u8 0, .int .u8 0, .int .u8 0, .int .u8 0, .int .u8 0, .int .u8 0, .int .u8 0, .int .u8 0, .int .u8 0, .int .u8 0, .int .u8 0, .int .u8 0, .int .u8 0, .int .u8 0, .int .u8 0, .int .u8 0, .int .u8 0, .int .u8 0, .int .u8 0, .int .u8 0, .int .u8 0, .int .u8 0, .int .u8 0, .int .u8 0, .int .u8 0, .int .u8 0, .int .u8 0, .int .u8 0, .int .u8 0], .arr 32 5⟩),
 (288, ⟨64, 64, [.int .u8 0, .int .u8 0, .int .u8 0, .int .u8 0, .int .u8 0, .int .u8 0, .int .u8 0, .int .u8 0, .int .u8 0, .int .u8 0, .int .u8 0, .int .u8 0, .int .u8 0, .int .u8 0, .int .u8 0, .int .u8 0, .int .u8 0, .int .u8 0, .int .u8 0, .int .u8 0, .int .u8 0, .int .u8 0, .int .u8 0, .int .u8 0, .int .u8 0, .int .u8 0, .int .u8 0, .int .u8 0, .int .u8 0, .int .u8 0, .int .u8 0, .int .u8 0, .int .u8 0, .int .u8 0, .int .u8 0, .int .u8 0, .int .u8 0, .int .u8 0, .int .u8 0, .int .u8 0, .int .u8 0, .int .u8 0, .int .u8 0, .int .u8 0, .int .u8 0, .int .u8 0, .int .u8 0, .int .u8 0, .int .u8 0, .int .u8 0, .int .u8 0, .int .u8 0, .int .u8 0, .int .u8 0, .int .u8 0, .int .u8 0, .int .u8 0, .int .u8 0, .int .u8 0, .int .u8 0, .int .u8 0, .int .u8 0, .int .u8 0, .int .u8 0], .arr 64 5⟩),
 (289, ⟨4, 40, [.pointer none, .pointer none, .pointer none, .string ⟨#[]⟩], .st [(0, 1, false), (1, 1, false), (2, 1, false), (3, 1, false)]⟩),
 (290, ⟨4, 40, [.pointer none, .pointer none, .pointer none, .string ⟨#[]⟩], .st [(0, 1, false), (1, 1, false), (2, 1, false), (3, 1, false)]⟩),
 (291, ⟨0, 0, [], .arr 0 16⟩),
 (292, ⟨0, 0, [], .st [(0, 0, true)]⟩),
 (293, ⟨0, 0, [], .st [(0, 0, true)]⟩),
 (294, ⟨1, 1, [.int .u8 0], .int .u8⟩),
 (295, ⟨1, 1, [.int .u8 0], .int .u8⟩),
 (296, ⟨1, 8, [.nilFunc], .other⟩),
 (297, ⟨1, 4, [.int .i32 0], .int .i32⟩),
 (298, ⟨1, 4, [.int .i32 0], .int .i32⟩),
 (299, ⟨11, 48, [.int .u64 0, .int .u64 0, .int .u32 0, .int .u8 0, .int .u8 0, .int .u8 0, .int .u8 0, .nilFunc, .pointer none, .int .i32 0, .int .i32 0], .st [(0, 1, false), (1, 1, false), (2, 1, false), (3, 1, false), (4, 1, false), (5, 1, false), (6, 1, false), (7, 1, false), (8, 1, false), (9, 1, false), (10, 1, false)]⟩),
 (300, ⟨11, 48, [.int .u64 0, .int .u64 0, .int .u32 0, .int .u8 0, .int .u8 0, .int .u8 0, .int .u8 0, .nilFunc, .pointer none, .int .i32 0, .int .i32 0], .st [(0, 1, false), (1, 1, false), (2, 1, false), (3, 1, false), (4, 1, false), (5, 1, false), (6, 1, false), (7, 1, false), (8, 1, false), (9, 1, false), (10, 1, false)]⟩),
 (301, ⟨1, 8, [.pointer none], .other⟩)]
set_option maxRecDepth 100000 in
theorem lay_all : lay.map (fun p => layOf Tryz.prog p.1) = lay.map (fun p => some p.2) := by kernel_rfl
def layF (t : Nat) : Option Lay := findL lay t
theorem layF_ok : LOk Tryz.prog layF := fun t l h => by
 have := List.map_inj_left.1 lay_all (t, l) (findL_mem h)
 exact this
theorem mixed : Tryz.prog.follows .mixedOrders = true := by kernel_rfl
end Go.Proofs.YtoingpafcodojaaGreatDoor

namespace Go.Proofs.YtoingpafcodojaaGreatDoor
open Go.RowKit

abbrev di (n : Int) : D := .v (.int .i64 n)
abbrev du (n : Int) : D := .v (.int .u64 n)
abbrev db (b : Bool) : D := .v (.bool b)
abbrev ds (s : ByteArray) : D := .v (.string s)
abbrev dnil : D := .v (.slice none 0 0)
abbrev Ti (n : Int) : TV := .o (.c (.d (.v (.int .i64 n))))
abbrev Tu (n : Int) : TV := .o (.c (.d (.v (.int .u64 n))))
abbrev Tb (b : Bool) : TV := .o (.c (.d (.v (.bool b))))
abbrev c1 (x : D) : T1 := .c (.d x)
abbrev gD (l : List D) : T1 := .g (l.map .d)
def Γ0 : Glob := ⟨fun _ _ => True, fun _ _ _ => trivial, [], fun _ => none, fun _ h => by cases h⟩

section
variable {p q : Prop} {K : Bool → Prop}
theorem ex_dec [Decidable p] (ht : p → K true) (hf : ¬ p → K false) : ∃ b, decide p = b ∧ K b := by
 by_cases h : p
 ·exact ⟨true, decide_eq_true h, ht h⟩
 ·exact ⟨false, decide_eq_false h, hf h⟩
theorem ex_true [Decidable p] (h : p) (hk : K true) : ∃ b, decide p = b ∧ K b := ⟨true, decide_eq_true h, hk⟩
theorem ex_false [Decidable p] (h : ¬ p) (hk : K false) : ∃ b, decide p = b ∧ K b := ⟨false, decide_eq_false h, hk⟩
theorem ex_is {α : Type} {e : α} (z : α) {K : α → Prop} (he : e = z) (h : K z) : ∃ z, e = z ∧ K z := ⟨z, he, h⟩
end
theorem wrap_i64' {n : Int} (h1 : -9223372036854775808 ≤ n) (h2 : n ≤ 9223372036854775807) : IntKind.i64.wrap n = n := by rw [IntKind.wrap_i64]; omega
theorem wrap_un {k : IntKind} (hk : k.signed = false) {n : Int} (h1 : 0 ≤ n) (h2 : n < 2 ^ k.bits) : k.wrap n = n := by
 unfold IntKind.wrap
 simp only [hk, Bool.false_and, Bool.false_eq_true, if_false]
 exact Int.emod_eq_of_lt h1 h2
theorem ex_i64 {e : Int} (z : Int) {K : Int → Prop} (he : e = z) (h1 : -9223372036854775808 ≤ z) (h2 : z ≤ 9223372036854775807) (h : K z) : ∃ z, IntKind.i64.wrap e = z ∧ K z := ⟨z, by rw [he]; exact wrap_i64' h1 h2, h⟩
theorem ex_u64 {e : Int} (z : Int) {K : Int → Prop} (he : e = z) (h1 : 0 ≤ z) (h2 : z < 18446744073709551616) (h : K z) : ∃ z, IntKind.u64.wrap e = z ∧ K z := ⟨z, by rw [he]; exact wrap_un (by rfl) h1 h2, h⟩
theorem ex_u8 {e : Int} (z : Int) {K : Int → Prop} (he : e = z) (h1 : 0 ≤ z) (h2 : z < 256) (h : K z) : ∃ z, IntKind.u8.wrap e = z ∧ K z := ⟨z, by rw [he]; exact wrap_un (by rfl) h1 h2, h⟩
theorem ex_row {α : Type} {f : α → List D} {l : List α} {n : Int} (i : Nat) (x : α) (hn : n = i) (hx : l[i]? = some x) {K : List D → Prop} (h : K (f x)) : ∃ r, 0 ≤ n ∧ (l.map f)[n.toNat]? = some r ∧ K r := by
 subst hn
 exact ⟨f x, by omega, by simp [hx], h⟩
theorem ex_app {α : Type} {r1 r2 : List α} {b : Nat} (n m c : Nat) (h1 : r1.length = n) (h2 : r2.length = m) (hc : Nat.ble b c = true) (hb : (n + m) * c ≤ 140737488355328) {K : Prop} (h : K) : (r1.length + r2.length) * b ≤ 140737488355328 ∧ K := ⟨by
 rw [h1, h2]
 exact Nat.le_trans (Nat.mul_le_mul_left _ (Nat.le_of_ble_eq_true hc)) hb, h⟩
theorem ex_chr {s : ByteArray} {n : Int} (i : Nat) (b : UInt8) (hn : n = i) (hb : s.data.toList[i]? = some b) {K : UInt8 → Prop} (h : K b) : ∃ b, 0 ≤ n ∧ s.data.toList[n.toNat]? = some b ∧ K b := by
 subst hn
 exact ⟨b, by omega, by simpa using hb, h⟩
theorem at_some {α : Type} {l : List α} {i : Nat} (h : i < l.length) : l[i]? = some l[i] := List.getElem?_eq_getElem h
section
variable {P : Program} {Γ : Glob}
theorem ex_call {f : FuncId} {xs : List T1} {r : TV} (h : CallsA P Γ f xs r) {K : TV → Prop} (hk : K r) : ∃ r, CallsA P Γ f xs r ∧ K r := ⟨r, h, hk⟩
theorem ex_callM {f : FuncId} {m : List (Nat × Blk)} {nx : Nat} {xs : List T1} {r : TV} {upd : List (Nat × Blk)} {new : List Blk} (h : CallsM P Γ f m nx xs r upd new) {K : TV → List (Nat × Blk) → List Blk → Prop} (hk : K r upd new) : ∃ r upd new, CallsM P Γ f m nx xs r upd new ∧ K r upd new := ⟨r, upd, new, h, hk⟩
end
theorem ex_loop {X : Type} (f : X → St) (μ : X → Nat) (p : X → Prop) (x0 : X) {nx0 : Nat} {st : St} {V : (I : LoopI) → I.X → Prop} (h0 : p x0) (h1 : SLe nx0 (f x0) st) (h2 : ∀ x, p x → V ⟨X, f, μ, p⟩ x) :
  ∃ (I : LoopI) (x0 : I.X), I.p x0 ∧ SLe nx0 (I.f x0) st ∧ ∀ x, I.p x → V I x := ⟨⟨X, f, μ, p⟩, x0, h0, h1, h2⟩
theorem ex_join {X : Type} (f : X → St) (p : X → Prop) {A : JoinI → Prop} {B : (I : JoinI) → I.X → Prop} (h1 : A ⟨X, f, p⟩) (h2 : ∀ x, p x → B ⟨X, f, p⟩ x) : ∃ I : JoinI, A I ∧ ∀ x, I.p x → B I x := ⟨⟨X, f, p⟩, h1, h2⟩
theorem ex_meet {X : Type} {f : X → St} {p : X → Prop} {nx0 : Nat} {st : St} (x : X) (h0 : p x) (h2 : SLe nx0 (f x) st) : ∃ x, p x ∧ SLe nx0 (f x) st := ⟨x, h0, h2⟩
theorem ex_round {X : Type} {f : X → St} {μ : X → Nat} {p : X → Prop} {nx0 : Nat} {st : St} {x : X} (x' : X) (h0 : p x') (h1 : μ x' < μ x) (h2 : SLe nx0 (f x') st) : ∃ x', p x' ∧ μ x' < μ x ∧ SLe nx0 (f x') st := ⟨x', h0, h1, h2⟩
theorem CLe_nil {ι : Nat → Value} {S : Nat → Prop} {w : World} {s : Nat} {v : Value} (h : VC ι S w (.d (.v (.slice none 0 0))) v) : VC ι S w (.d (.sl s [])) v := by
 have h' : Imm S w _ v := h
 cases h'
 exact Imm.nil
theorem TLe.nil {s : Nat} : TLe (.o (.c (.d (.v (.slice none 0 0))))) (.o (.c (.d (.sl s [])))) := fun ι _ _ _ h => CLe_nil (ι := ι) h
theorem flat_end {S : Nat → Prop} {w w' : World} {r : TV} {v : Value} (hs : ∀ b, S b → b < w.heap.size) (hb : Below w.heap.size w w') (hv : V ι0 S w' r v) : ∃ x S', Ending.returned v = .returned x ∧ Below w.heap.size w w' ∧ (∀ b, S b → S' b) ∧ (∀ b, S' b → S b ∨ w.heap.size ≤ b) ∧ (∀ b, S' b → b < w'.heap.size) ∧ V ι0 S' w' r x :=
 ⟨v, S, rfl, hb, fun _ h => h, fun _ h => .inl h, fun b h => Nat.lt_of_lt_of_le (hs b h) hb.size, hv⟩
theorem CallsM.more {P : Program} {Γ : Glob} {f : FuncId} {m m' : List (Nat × Blk)} {nx : Nat} {xs : List T1} {r : TV} {upd : List (Nat × Blk)} {new : List Blk} (h : CallsM P Γ f m nx xs r upd new) (hm : ∀ p ∈ m, p ∈ m') : CallsM P Γ f m' nx xs r upd new :=
 ⟨h.1, fun ι S w vs hs hG hb hd hv => (h.2 ι S w vs hs hG (fun p hp => hb p (hm p hp)) (fun p hp q hq => hd p (hm p hp) q (hm q hq)) hv).mono fun e w' hX => by
  have conv : ∀ (tv : TV) (x : Value) (ι' : Nat → Value) (S' : Nat → Prop) (w' : World), After ι S w nx ⟨tv, m.map (·.1), upd, new⟩ x ι' S' w' → After ι S w nx ⟨tv, m'.map (·.1), upd, new⟩ x ι' S' w' := fun tv x ι' S' w' A =>
   ⟨A.val, A.keep, A.smono, A.sgrow, A.slt, A.os, A.tape, A.output, A.size, A.heap, A.updok, A.newok, A.newblk, A.newdst⟩
  rcases hX with ⟨x, ι', S', he, A⟩ | ⟨v, ι', S', hr, he, A⟩
  ·exact .inl ⟨x, ι', S', he, conv _ _ _ _ _ A⟩
  ·exact .inr ⟨v, ι', S', hr, he, conv _ _ _ _ _ A⟩⟩
theorem CallsM.of0 {P : Program} {Γ : Glob} {f : FuncId} {m : List (Nat × Blk)} {nx : Nat} {xs : List T1} {r : TV} {upd : List (Nat × Blk)} {new : List Blk} (h : CallsM P Γ0 f m nx xs r upd new) : CallsM P Γ f m nx xs r upd new := ⟨h.1, fun ι S w vs hs _ hb hd hv => h.2 ι S w vs hs trivial hb hd hv⟩
end Go.Proofs.YtoingpafcodojaaGreatDoor

namespace Go.Proofs.YtoingpafcodojaaGreatDoor
open Go.RowKit

def stC (k : Nat) (d : D) : CV → CV
 | .row j => match Nat.beq j k with
  | true => .d d
  | false => .row j
 | x => x
def stT (k : Nat) (d : D) : T1 → T1
 | .c x => .c (stC k d x)
 | .g l => .g (l.map (stC k d))
 | .f h a l => .f h a (l.map (stC k d))
def stV (k : Nat) (d : D) : TV → TV
 | .o x => .o (stT k d x)
 | .tup l => .tup (l.map (stT k d))
 | x => x
def stB (k : Nat) (d : D) : Blk → Blk
 | .obj l t => .obj (l.map (stC k d)) t
 | x => x
def rpC (k : Nat) : CV → Bool
 | .rptr j _ _ _ => Nat.beq j k
 | .mp j => Nat.beq j k
 | .rsl j _ _ _ => Nat.beq j k
 | .ptr j _ => Nat.beq j k
 | _ => false
def rpT (k : Nat) : T1 → Bool
 | .c x => rpC k x
 | .g l => l.any (rpC k)
 | .f _ _ l => l.any (rpC k)
def rpV (k : Nat) : TV → Bool
 | .o x => rpT k x
 | .tup l => l.any (rpT k)
 | _ => false
def rpB (k : Nat) : Blk → Bool
 | .obj l _ => l.any (rpC k)
 | _ => false
def stX (k : Nat) (d : D) (_ : Nat) (x : TV) : TV := match rpV k x with
 | true => .no
 | false => stV k d x
def stM (k : Nat) (d : D) (j : Nat) (x : Blk) : Blk := match Nat.beq j k || rpB k x with
 | true => .dead
 | false => stB k d x
def stillSt (k : Nat) (d : D) (s : St) : St := ⟨s.tm.map fun p => (p.1, stX k d p.1 p.2), s.mem.map fun p => (p.1, stM k d p.1 p.2), s.nx⟩
theorem findL_map {α β : Type} (F : Nat → α → β) : ∀ (l : List (Nat × α)) (t : Nat), findL (l.map fun p => (p.1, F p.1 p.2)) t = (findL l t).map (F t)
 | [], t => rfl
 | (j, v) :: l, t => by
  simp only [List.map_cons, findL]
  split
  ·rename_i e; subst e; rfl
  ·exact findL_map F l t
section
variable {ι : Nat → Value} {S S' : Nat → Prop} {w : World} {k : Nat} {d : D}
theorem stC_ok (hS : ∀ b, S b → S' b) (hd : Imm S' w d (ι k)) {x : CV} {u : Value} (h : VC ι S w x u) : VC ι S' w (stC k d x) u := by
 cases x with
 | row j =>
  simp only [stC]
  split
  ·rename_i hb
   obtain rfl := Nat.eq_of_beq_eq_true hb
   rw [h.1]
   exact hd
  ·exact VC.mono (x := .row j) (fun _ _ => rfl) hS (fun _ _ => rfl) h
 | d x => exact VC.mono (x := .d x) (fun _ _ => rfl) hS (fun _ _ => rfl) h
 | ptr j o => exact VC.mono (x := .ptr j o) (fun _ _ => rfl) hS (fun _ _ => rfl) h
 | eptr cs => exact VC.mono (x := .eptr cs) (fun _ _ => rfl) hS (fun _ _ => rfl) h
 | rptr a b c e => exact VC.mono (x := .rptr a b c e) (fun _ _ => rfl) hS (fun _ _ => rfl) h
 | mp j => exact VC.mono (x := .mp j) (fun _ _ => rfl) hS (fun _ _ => rfl) h
 | rsl a b c e => exact VC.mono (x := .rsl a b c e) (fun _ _ => rfl) hS (fun _ _ => rfl) h
theorem stT_ok (hS : ∀ b, S b → S' b) (hd : Imm S' w d (ι k)) {x : T1} {u : Value} (h : V1 ι S w x u) : V1 ι S' w (stT k d x) u := by
 cases x with
 | c x => exact stC_ok hS hd h
 | g l =>
  obtain ⟨us, h1, h2⟩ := h
  exact ⟨us, h1, h2.mono (fun a b hab => stC_ok hS hd hab) |> All2.map_left⟩
 | f g a l =>
  obtain ⟨us, h1, h2⟩ := h
  exact ⟨us, h1, h2.mono (fun a b hab => stC_ok hS hd hab) |> All2.map_left⟩
theorem stV_ok (hS : ∀ b, S b → S' b) (hd : Imm S' w d (ι k)) {x : TV} {u : Value} (h : V ι S w x u) : V ι S' w (stV k d x) u := by
 cases x with
 | no => trivial
 | und => exact h
 | o x => exact stT_ok hS hd h
 | tup l =>
  obtain ⟨us, h1, h2⟩ := h
  exact ⟨us, h1, h2.mono (fun a b hab => stT_ok hS hd hab) |> All2.map_left⟩
 | pan v => exact h
end
theorem SLe.still {nx0 : Nat} {s : St} (k size : Nat) (e : TypeId) (rows : List (List D)) (hk : findL s.mem k = some (.row size e rows)) : SLe nx0 (stillSt k (.sl size rows) s) s := fun E a w he ⟨ι, S, I⟩ => by
 have hb0 := I.blk k _ hk
 have hlt := row_lt hb0
 have hS : ∀ b, S b → giveUp ι S [k] b := fun b hb => .inl hb
 have hd : Imm (giveUp ι S [k]) w (.sl size rows) (ι k) := row_imm hb0 hS (fun g hg => .inr ⟨k, by simp, hg⟩)
 have hmem : ∀ n b, findL (stillSt k (.sl size rows) s).mem n = some b → b.live = true → n ≠ k ∧ ∃ b0, findL s.mem n = some b0 ∧ b0.live = true ∧ b = stB k (.sl size rows) b0 := fun n b hb hl => by
  have hb : findL (s.mem.map fun p => (p.1, stM k (.sl size rows) p.1 p.2)) n = some b := hb
  rw [findL_map (stM k (.sl size rows))] at hb
  obtain ⟨b0, h1, h2⟩ := Option.map_eq_some_iff.1 hb
  unfold stM at h2
  split at h2
  ·subst h2; cases hl
  ·rename_i hf
   subst h2
   refine ⟨fun h => ?_, b0, h1, ?_, rfl⟩
   ·rw [Bool.or_eq_false_iff] at hf
    exact absurd h (Nat.ne_of_beq_eq_false hf.1)
   ·cases b0 <;> first | rfl | exact hl
 have hdead : ∀ n b, findL (stillSt k (.sl size rows) s).mem n = some b → b.live = false → b = .dead := fun n b _ hl => by cases b <;> first | rfl | cases hl
 have hS' : ∀ n b, findL s.mem n = some b → b.live = true → n ≠ k → ∀ g, blkOf (ι n) = some g → ¬ giveUp ι S [k] g := fun n b hb hl hn g hg hs => by
  rcases hs with hs | ⟨j, hj, hs⟩
  ·have h := I.blk n b hb
   exact (h.sep hl hg).2 hs
  ·obtain rfl : j = k := by simpa using hj
   exact hn (I.dst n j b _ g hb hk hl rfl hg hs)
 refine ⟨ι, giveUp ι S [k], I.os, I.tape, I.output, I.size, I.old, fun b hb => ?_, fun b hb => .inl (I.s0 b hb), fun b hb => ?_, fun t tv ht => ?_, fun n b hb => ?_, fun n b hb hl g hg => ?_, fun n n' b b' g hb hb' hl hl' hg hg' => ?_, I.dn, I.sz, E.Γ.mono (fun _ _ => rfl) hS I.gl, I.ik⟩
 ·rcases hb with hb | ⟨j, hj, hb⟩
  ·exact I.slt b hb
  ·obtain rfl : j = k := by simpa using hj
   exact (hlt b hb).1
 ·rcases hb with hb | ⟨j, hj, hb⟩
  ·exact I.sg b hb
  ·obtain rfl : j = k := by simpa using hj
   rcases I.mutb j _ hk rfl b hb with h | h
   ·exact .inr (.inr h)
   ·exact .inr (.inl h)
 ·have ht : findL (s.tm.map fun p => (p.1, stX k (.sl size rows) p.1 p.2)) t = some tv := ht
  rw [findL_map (stX k (.sl size rows))] at ht
  obtain ⟨tv0, h1, h2⟩ := Option.map_eq_some_iff.1 ht
  unfold stX at h2
  split at h2
  ·subst h2; trivial
  ·subst h2
   exact stV_ok hS hd (I.tms t tv0 h1)
 ·cases hl : b.live with
  | false => rw [hdead n b hb hl]; trivial
  | true =>
   obtain ⟨hn, b0, h1, h2, rfl⟩ := hmem n b hb hl
   have h := I.blk n b0 h1
   cases b0 with
   | dead => cases h2
   | obj cells tg =>
    obtain ⟨b2, arr, ty, e1, e2, e3, e4⟩ := h
    exact ⟨b2, arr, ty, e1, e2, All2.map_left (e3.mono fun a b hab => stC_ok hS hd hab), hS' n _ h1 rfl hn b2 (by rw [e1]; rfl)⟩
   | row size' e' rows' =>
    obtain ⟨cs, e1, e2, e3, e4⟩ := h
    exact ⟨cs, e1, e2.mono fun a b hab => Imm.mono (fun _ _ => rfl) hS hab, e3, fun g hg => hS' n _ h1 rfl hn g hg⟩
   | map es =>
    obtain ⟨b2, arr, clock, e1, e2, e3, e4⟩ := h
    exact ⟨b2, arr, clock, e1, e2, e3, hS' n _ h1 rfl hn b2 (by rw [e1]; rfl)⟩
 ·obtain ⟨hn, b0, h1, h2, rfl⟩ := hmem n b hb hl
  exact I.mutb n b0 h1 h2 g hg
 ·obtain ⟨hn, b0, h1, h2, rfl⟩ := hmem n b hb hl
  obtain ⟨hn', b0', h1', h2', rfl⟩ := hmem n' b' hb' hl'
  exact I.dst n n' b0 b0' g h1 h1' h2 h2' hg hg'
end Go.Proofs.YtoingpafcodojaaGreatDoor

namespace Go.Proofs.YtoingpafcodojaaGreatDoor
open Go.RowKit
theorem and_mk {a b : Prop} (h : a) (k : b) : a ∧ b := ⟨h, k⟩
end Go.Proofs.YtoingpafcodojaaGreatDoor

namespace Go.Proofs.YtoingpafcodojaaGreatDoor
set_option linter.unusedVariables false
set_option linter.unusedSimpArgs false
open Go.RowKit

theorem tT {p : Prop} [Decidable p] {K : Bool → Prop} (k : K true) (h : p := by first | decide | omega | assumption | (with_reducible exact rfl)) : ∃ b, decide p = b ∧ K b := ex_true h k
theorem tF {p : Prop} [Decidable p] {K : Bool → Prop} (k : K false) (h : ¬ p := by first | decide | omega | assumption | exact (fun h => h rfl)) : ∃ b, decide p = b ∧ K b := ex_false h k
theorem t8 {e : Int} {K : Int → Prop} (k : K e) (h1 : 0 ≤ e := by omega) (h2 : e < 256 := by omega) : ∃ z, IntKind.u8.wrap e = z ∧ K z := ex_u8 e rfl h1 h2 k
theorem tI {e : Int} {K : Int → Prop} (k : K e) (h1 : -9223372036854775808 ≤ e := by omega) (h2 : e ≤ 9223372036854775807 := by omega) : ∃ z, IntKind.i64.wrap e = z ∧ K z := ex_i64 e rfl h1 h2 k
theorem tU {e : Int} {K : Int → Prop} (k : K e) (h1 : 0 ≤ e := by omega) (h2 : e < 18446744073709551616 := by omega) : ∃ z, IntKind.u64.wrap e = z ∧ K z := ex_u64 e rfl h1 h2 k
theorem tA {a b : Prop} (k : b) (h : a := by first | omega | (with_reducible rfl) | (show drawOk _ _ _ = true; kernel_rfl)) : a ∧ b := ⟨h, k⟩
theorem tB {a b : Prop} (k : b) (h : a := by exact ⟨_, rfl⟩) : a ∧ b := ⟨h, k⟩
theorem tL {α β : Type} {f : α → β} {l : List α} {K : Nat → Prop} (k : K l.length) : ∃ z, (l.map f).length = z ∧ K z := ⟨_, List.length_map _, k⟩
theorem tN {α : Type} {K : Nat → Prop} (k : K 0) : ∃ z, ([] : List α).length = z ∧ K z := ⟨0, List.length_nil, k⟩
/-- As many steps as there are, one way. -/
structure Hd (H : Prop) : Prop where
  h : H
theorem qgs {G H : Prop} (k : H) (h : Hd H → G := by intro k; (first | refine tT ?_ | refine tF ?_ | refine t8 ?_ | refine tI ?_ | refine tU ?_ | refine tA ?_ | refine tB ?_ | refine tL ?_ | refine tN ?_); (repeat (first | refine tT ?_ | refine tF ?_ | refine t8 ?_ | refine tI ?_ | refine tU ?_ | refine tA ?_ | refine tB ?_ | refine tL ?_ | refine tN ?_)); exact k.h) : G := h ⟨k⟩
/-- One step. -/
theorem qg1 {G H : Prop} (k : H) (h : Hd H → G := by intro k; (first | refine tT ?_ | refine tF ?_ | refine t8 ?_ | refine tI ?_ | refine tU ?_ | refine tA ?_ | refine tB ?_ | refine tL ?_ | refine tN ?_); exact k.h) : G := h ⟨k⟩
theorem eD {p : Prop} [Decidable p] {K : Bool → Prop} (h1 : p → K true) (h2 : ¬ p → K false) : ∃ b, decide p = b ∧ K b := ex_dec h1 h2
theorem aI {e : Int} (z : Int) {K : Int → Prop} (k : K z) (he : e = z := by omega) (h1 : -9223372036854775808 ≤ z := by omega) (h2 : z ≤ 9223372036854775807 := by omega) : ∃ z, IntKind.i64.wrap e = z ∧ K z := ex_i64 z he h1 h2 k
theorem aU {e : Int} (z : Int) {K : Int → Prop} (k : K z) (he : e = z := by omega) (h1 : 0 ≤ z := by omega) (h2 : z < 18446744073709551616 := by omega) : ∃ z, IntKind.u64.wrap e = z ∧ K z := ex_u64 z he h1 h2 k
theorem aB {e : Int} (z : Int) {K : Int → Prop} (k : K z) (he : e = z := by omega) (h1 : 0 ≤ z := by omega) (h2 : z < 256 := by omega) : ∃ z, IntKind.u8.wrap e = z ∧ K z := ex_u8 z he h1 h2 k
theorem sS {nx0 : Nat} {s t : St} (h : s.le t := by repeat' (first | exact trivial | refine ⟨?_, ?_⟩ | exact rfl)) : SLe nx0 s t := SLe.of h
theorem sR {nx0 : Nat} (ps : List (Nat × Nat)) {s t : St} (h1 : leTR ps s.tm t.tm := by repeat' (first | exact trivial | refine ⟨?_, ?_⟩ | exact rfl)) (h2 : leMR ps s.mem t.mem := by repeat' (first | exact trivial | refine ⟨?_, ?_⟩ | exact rfl)) (hc : renChk nx0 ps = true := by rfl) : SLe nx0 s t := SLe.ren ps h1 h2 hc
/-- A list of blocks within another. -/
inductive SubL : List (Nat × Blk) → List (Nat × Blk) → Prop where
  | nil {m : List (Nat × Blk)} : SubL [] m
  | cons {a : Nat × Blk} {l m : List (Nat × Blk)} : SubL l m → SubL (a :: l) (a :: m)
  | skip {a : Nat × Blk} {l m : List (Nat × Blk)} : SubL l m → SubL l (a :: m)
theorem SubL.mem {l m : List (Nat × Blk)} (h : SubL l m) : ∀ p ∈ l, p ∈ m := by
  induction h with
  | nil => intro p hp; cases hp
  | cons _ ih =>
    intro p hp
    rcases List.mem_cons.1 hp with rfl | hp
    · exact List.mem_cons_self
    · exact List.mem_cons_of_mem _ (ih p hp)
  | skip _ ih => exact fun p hp => List.mem_cons_of_mem _ (ih p hp)
theorem sC {P : Program} {Γ : Glob} {f : FuncId} {m m' : List (Nat × Blk)} {nx : Nat} {xs : List T1} {r : TV} {upd : List (Nat × Blk)} {new : List Blk} (h : CallsM P Γ f m nx xs r upd new) {K : TV → List (Nat × Blk) → List Blk → Prop} (hk : K r upd new)
    (hs : SubL m m' := by repeat (first | exact SubL.nil | refine SubL.cons ?_ | refine SubL.skip ?_)) : ∃ r upd new, CallsM P Γ f m' nx xs r upd new ∧ K r upd new := ⟨r, upd, new, h.more hs.mem, hk⟩
end Go.Proofs.YtoingpafcodojaaGreatDoor

namespace Go.Proofs.YtoingpafcodojaaGreatDoor
open Go.RowKit

def retOkK (L : Nat → Option Lay) (rs : List ResultVar) (ns : List Nat) (nx : Nat) (r : TV) (upd : List (Nat × Blk)) (new : List Blk) (st : St) : Prop :=
 match rs.map (resC L st) with
 | some (.o (.c (.row k))) :: l => match eatT (findL st.mem) l, subMem (findL st.mem) ns, subMem (findL st.mem) [k] with
  | some (y :: ys, ks), some u, some n => (nodupB [k] && disj ks [k] && (ks.all fun k => Nat.ble nx k) && ([k].all fun k => Nat.ble nx k) && closB nx [k] u && closB nx [k] n) = true ∧ TLe (.tup (.c (.row nx) :: y :: ys)) r ∧ renM (expN nx [k]) u = upd ∧ (n.map fun p => p.2.ren (expN nx [k])) = new
  | _, _, _ => False
 | _ => False
def fnQK (L : Nat → Option Lay) (rs : List ResultVar) (ns : List Nat) (nx : Nat) (r : TV) (upd : List (Nat × Blk)) (new : List Blk) : Exit → St → Prop
 | .normal, st | .ret, st => retOkK L rs ns nx r upd new st
 | _, _ => False
theorem CallsA.toM {P : Program} {Γ : Glob} {f : FuncId} {xs : List T1} {r : TV} (h : CallsA P Γ f xs r) (hx : xs.all T1.pure = true) (hr : r.pure = true) (nx : Nat) : CallsM P Γ f [] nx xs r [] [] :=
 ⟨h.1, fun ι S w vs hs hG _ _ hv => (h.2 S w vs hs hG (hv.mono_mem fun a u ha hau => V1.mono (fun _ _ => rfl) (fun _ h => h) (fun k hk => by rw [T1.pure_men (List.all_eq_true.1 hx a ha) k] at hk; cases hk) hau)).mono fun e w' ⟨x, S', he, hb, hm, hg, hlt, hv⟩ =>
  .inl ⟨x, ι, S', he, ⟨V.mono (fun _ _ => rfl) (fun _ h => h) (fun k hk => by rw [TV.pure_men hr k] at hk; cases hk) hv, fun _ _ => rfl, hm, fun b hb => (hg b hb).elim .inl (fun h => .inr (.inl h)), hlt, hb.os, hb.tape, hb.output, hb.size, fun b hb' _ => hb.block b hb', (fun _ _ h => by simp at h), (fun _ _ h => by simp at h), (fun _ _ h => by simp at h), (fun _ _ _ _ _ h => by simp at h)⟩⟩⟩
end Go.Proofs.YtoingpafcodojaaGreatDoor

namespace Go.Proofs.YtoingpafcodojaaGreatDoor
open Go.RowKit

def refsC1 : CV → List Nat
 | .ptr k _ | .row k | .rptr k _ _ _ | .mp k | .rsl k _ _ _ => [k]
 | _ => []
def refsT : List T1 → List Nat
 | [] => []
 | .c x :: l => refsC1 x ++ refsT l
 | .g x :: l => x.flatMap refsC1 ++ refsT l
 | .f _ _ x :: l => x.flatMap refsC1 ++ refsT l
def retOkR (L : Nat → Option Lay) (rs : List ResultVar) (ns : List Nat) (nx : Nat) (r : TV) (upd : List (Nat × Blk)) (new : List Blk) (st : St) : Prop :=
 match plainT (rs.map (resC L st)) with
 | some ys => forceNs ((reach (findL st.mem) 60 (ns ++ refsT ys) []).filter fun k => Nat.ble nx k) fun src => match subMem (findL st.mem) ns, subMem (findL st.mem) src with
  | some u, some n => (nodupB src && disj [] src && (([] : List Nat).all fun k => Nat.ble nx k) && (src.all fun k => Nat.ble nx k) && closB nx src u && closB nx src n) = true ∧ ((refsT ys).all fun k => Nat.blt k nx || src.any (Nat.beq k)) = true ∧ TLe ((retT ys).ren (expN nx src)) r ∧ renM (expN nx src) u = upd ∧ (n.map fun p => p.2.ren (expN nx src)) = new
  | _, _ => False
 | none => False
def fnQR (L : Nat → Option Lay) (rs : List ResultVar) (ns : List Nat) (nx : Nat) (r : TV) (upd : List (Nat × Blk)) (new : List Blk) : Exit → St → Prop
 | .normal, st | .ret, st => retOkR L rs ns nx r upd new st
 | .panic ch, st => panIs r ch ∧ retOkP ns nx upd new st
 | _, _ => False
theorem results_okR {P : Program} {L : Nat → Option Lay} (hL : LOk P L) {E : Env} {ι : Nat → Value} {S : Nat → Prop} {st : St} {a : Act} {w : World} (I : Inv E ι S (findL st.tm) (findL st.mem) a w) {fn : Func} {ys : List T1}
  (hy : plainT (fn.results.toList.map (resC L st)) = some ys) : ∃ v, (results fn a.tmps).run P w = .ok v w ∧ V ι S w (retT ys) v := by
 have hone : ∀ rv tv, resC L st rv = some tv → ∃ v, (resF a.tmps rv).run P w = .ok v w ∧ V ι S w tv v := fun rv tv hrv => by
  cases rv with
  | tmp t => exact ⟨_, rfl, I.tms t tv hrv⟩
  | cell b t =>
   simp only [resC] at hrv
   split at hrv
   ·rename_i l k off hl hb
    split at hrv
    ·rename_i cells tg hk
     split at hrv
     ·rename_i hle
      obtain ⟨bk, hb1, hb2⟩ := I.tms b _ hb
      obtain ⟨b', arr, ty, h3, h4, h5, _⟩ := I.blk k _ hk
      obtain rfl : bk = b' := by rw [hb1] at h3; cases h3; rfl
      have hlen := h5.len
      have hle' := Nat.le_of_ble_eq_true hle
      have hr := run_load_range (P := P) (layOf_ok (hL _ _ hl)) (w := w) (g := bk) (f := off) (us := (arr.toList.drop off).take l.size) (by simp at hlen ⊢; omega) (fun j u hj => by
       obtain ⟨hj1, _⟩ := drop_take_get hj
       rw [cell_of_row w bk (off + j) arr ty.1 (0, 0) h4]
       simpa using hj1)
      rcases V_ofCells hrv ((h5.drop off).take l.size) with ⟨ha, hV⟩ | ⟨ha, u, hu, hV⟩
      ·exact ⟨_, by simp only [resF, hb2]; simp [asAddr, hr.1 ha], hV⟩
      ·exact ⟨_, by simp only [resF, hb2]; simp [asAddr, hr.2 ha u hu], hV⟩
     ·cases hrv
    ·cases hrv
   ·cases hrv
 have hvals : ∀ (l : List ResultVar) (ys : List T1), plainT (l.map (resC L st)) = some ys → ∃ vs, All2 (fun rv v => (resF a.tmps rv).run P w = .ok v w) l vs ∧ All2 (fun (a : Option TV) u => ∀ tv, a = some tv → V ι S w tv u) (l.map (resC L st)) vs := fun l => by
  induction l with
  | nil => intro ys _; exact ⟨[], .nil, .nil⟩
  | cons rv l ih =>
   intro ys h
   simp only [List.map_cons] at h
   cases hrv : resC L st rv with
   | none => rw [hrv] at h; simp [plainT] at h
   | some tv =>
    rw [hrv] at h
    cases tv with
    | no => simp [plainT] at h
    | und => simp [plainT] at h
    | tup l => simp [plainT] at h
    | pan v => simp [plainT] at h
    | o x =>
     simp only [plainT] at h
     obtain ⟨ys', h2, -⟩ := Option.map_eq_some_iff.1 h
     obtain ⟨vs, g1, g2⟩ := ih ys' h2
     obtain ⟨v, e1, e2⟩ := hone rv _ hrv
     refine ⟨v :: vs, .cons e1 g1, ?_⟩
     simp only [List.map_cons]
     refine .cons (fun tv htv => ?_) g2
     rw [hrv] at htv; cases htv
     exact e2
 obtain ⟨vs, g1, g2⟩ := hvals _ ys hy
 have hres : (results fn a.tmps).run P w = .ok (if h : vs.toArray.size = 1 then vs.toArray[0] else .tuple vs.toArray) w := by
  have h1 := mapM_run _ _ _ g1
  rw [results_F, Sem.run_bind, Array.mapM_eq_mapM_toList, run_map, h1]
  rfl
 refine ⟨_, hres, ?_⟩
 have hall := plainT_ok (S' := S) (fun b hb => hb) hy g2
 match ys, vs, hall with
 | [y], vs, hall =>
  obtain ⟨v, rfl, hv⟩ := hall.one_left
  exact hv
 | [], vs, hall =>
  obtain rfl := hall.nil_left
  exact ⟨[], rfl, .nil⟩
 | y :: z :: ys, vs, hall =>
  have : ¬ vs.toArray.size = 1 := by have := hall.len; simp at this ⊢; omega
  rw [dif_neg this]
  exact ⟨vs, rfl, hall⟩
end Go.Proofs.YtoingpafcodojaaGreatDoor

namespace Go.Proofs.YtoingpafcodojaaGreatDoor
open Go.RowKit

def DLe (d d' : D) : Prop := ∀ (S : Nat → Prop) (w : World) (u : Value), Imm S w d u → Imm S w d' u
theorem DLe.rfl {d : D} : DLe d d := fun _ _ _ h => h
theorem DLe.nil {s : Nat} : DLe dnil (.sl s []) := fun _ _ _ h => by cases h; exact Imm.nil
end Go.Proofs.YtoingpafcodojaaGreatDoor

namespace Go.Proofs.YtoingpafcodojaaGreatDoor
open Go.RowKit

def flatTV : TV → Bool
 | .o (.c (.d (.v _))) => true
 | .tup l => l.all fun x => match x with
  | .c (.d (.v _)) => true
  | _ => false
 | _ => false
end Go.Proofs.YtoingpafcodojaaGreatDoor

namespace Go.Proofs.YtoingpafcodojaaGreatDoor
open Go.RowKit Go.Shelf
attribute [local go_sem] Oper.semAt_some

abbrev BV := List UInt8 × Nat
abbrev evV (p : BV) : Value := .agg #[.string (bs p.1), .int .u64 p.2]
def backs (e : EV) (k : Nat) : List (Nat × BV) := (List.range k).map fun j => (e.length - 1 - j, e[e.length - 1 - j]?.getD ([], 0))
theorem backs_succ (e : EV) (k : Nat) : backs e (k + 1) = backs e k ++ [(e.length - 1 - k, e[e.length - 1 - k]?.getD ([], 0))] := by simp [backs, List.range_succ]
theorem backs_len (e : EV) (k : Nat) : (backs e k).length = k := by simp [backs]
set_option maxHeartbeats 4000000 in
theorem back1_in (F : Fence) (n : Nat) (h51 : F.fn 51) (hro : F.round = none) (hn : 1 ≤ n) (l Bs n₀ b off cap : Nat) (e : EV) (hreach : e.length * 24 ≤ 140737488351232) (hb : b < n₀) (hBn : Bs < n₀) (J Jx : List (Nat × BV) → World → Prop)
  (hY : ∀ pre x W, J pre W → pre.length < e.length → YieldAt F (n - 1) Tryz.prog l #[.int .i64 (x.1 : Int), evV x.2] W fun r W' =>
   (r = .returned (.bool true) ∧ J (pre ++ [x]) W' ∧ Below n₀ W W') ∨ (r = .returned (.bool false) ∧ Jx (pre ++ [x]) W'))
  (W : World) (hBs : W.cell? ⟨Bs, 0, none⟩ = some (.slice (some ⟨b, off, none⟩) e.length cap))
  (hc : ∀ j, j < e.length → W.cell? ⟨b, off + j * 2, none⟩ = some (.string (bs (e[j]?.getD ([], 0)).1)) ∧ W.cell? ⟨b, off + j * 2 + 1, none⟩ = some (.int .u64 (e[j]?.getD ([], 0)).2)) (h0 : J [] W) :
  CallsIn F n Tryz.prog 51 #[.func (.yield l) #[] #[], .pointer (some ⟨Bs, 0, none⟩)] W fun r W' => (∃ v, r = .returned v) ∧
   ((∃ ys, ys = backs e e.length ∧ J ys W') ∨ (∃ pre, (∃ k, k ≤ e.length ∧ pre = backs e k) ∧ Jx pre W')) := by
 refine callsIn_of_wp Tryz.func51 rfl h51 ?_ hro
 simp only [Tryz.ntmps51, List.size_toArray, List.length_cons, List.length_nil, Nat.reduceAdd, Nat.reduceSub, Array.replicate_succ, Array.replicate_zero, List.push_toArray, List.append_toArray, List.nil_append, List.cons_append]
 gi_wp2
 gi_loopw [3] (fun i wr => ∃ m : Nat, m ≤ e.length ∧ i = .int .i64 ((m : Int) - 1) ∧ J (backs e (e.length - m)) wr ∧ Below n₀ W wr)
  (fun i _ => (intOf i + 1).toNat)
 case atStart => exact ⟨e.length, Nat.le_refl _, rfl, by rw [Nat.sub_self]; exact h0, Below.refl _ _⟩
 case round =>
  obtain ⟨m, hm, rfl, hJs, hnx⟩ := hrel
  have hBs' := (hnx.cell (p := ⟨Bs, 0, none⟩) hBn).trans hBs
  cases m with
  | zero =>
   gi_wp2
   go_end0
   exact ⟨⟨_, rfl⟩, .inl ⟨_, rfl, hJs⟩⟩
  | succ m =>
   have e1 : ((m + 1 : Nat) : Int) - 1 = (m : Int) := by omega
   rw [e1]
   have hcx := hc m (by omega)
   have hcs := (hnx.cell (p := ⟨b, off + m * 2, none⟩) hb).trans hcx.1
   have hcn := (hnx.cell (p := ⟨b, off + m * 2 + 1, none⟩) hb).trans hcx.2
   obtain ⟨fn, tmps, assign, body, hy, hR⟩ := hY _ (m, e[m]?.getD ([], 0)) wr hJs (by rw [backs_len]; omega)
   dsimp only at hy
   have hbk : backs e (e.length - m) = backs e (e.length - (m + 1)) ++ [(m, e[m]?.getD ([], 0))] := by
    rw [show e.length - m = e.length - (m + 1) + 1 by omega, backs_succ, show e.length - 1 - (e.length - (m + 1)) = m by omega]
   gi_wp2
   refine hR.mono ?_
   rintro r W3 (⟨rfl, hJ3, hk3⟩ | ⟨rfl, hJx3⟩)
   ·gi_wp2
    go_roundw
    case rel => exact ⟨m, by omega, by simp, by rw [hbk]; exact hJ3, hnx.trans hk3⟩
    case measure => simp [intOf]
   ·gi_wp2
    refine bodyPost_ret (results_none rfl _ _ _) rfl ?_
    exact ⟨⟨_, rfl⟩, .inr ⟨_, ⟨e.length - m, by omega, hbk.symm⟩, hJx3⟩⟩
set_option maxHeartbeats 2000000 in
theorem back1_nil_in (F : Fence) (n : Nat) (h51 : F.fn 51) (hro : F.round = none) (l Bs : Nat) (a : Option Addr) (cap : Nat) (J : List (Nat × BV) → World → Prop) (W : World) (hBs : W.cell? ⟨Bs, 0, none⟩ = some (.slice a 0 cap)) (h0 : J [] W) :
  CallsIn F n Tryz.prog 51 #[.func (.yield l) #[] #[], .pointer (some ⟨Bs, 0, none⟩)] W fun r W' => (∃ v, r = .returned v) ∧ J [] W' := by
 refine callsIn_of_wp Tryz.func51 rfl h51 ?_ hro
 simp only [Tryz.ntmps51, List.size_toArray, List.length_cons, List.length_nil, Nat.reduceAdd, Nat.reduceSub, Array.replicate_succ, Array.replicate_zero, List.push_toArray, List.append_toArray, List.nil_append, List.cons_append]
 gi_wp2
 gi_loopw [3] (fun i wr => i = .int .i64 (-1) ∧ J [] wr) (fun _ _ => 0)
 case atStart => exact ⟨rfl, h0⟩
 case round =>
  obtain ⟨rfl, hJs⟩ := hrel
  gi_wp2
  go_end0
  exact ⟨⟨_, rfl⟩, hJs⟩
set_option maxHeartbeats 2000000 in
theorem backward_in (F : Fence) (n : Nat) (h34 : F.fn 34) (hro : F.round = none) (a : Option Addr) (len cap : Nat) (w : World) :
  CallsIn F n Tryz.prog 34 #[.slice a len cap] w fun r w' => r = .returned (.func (.func 51) #[] #[.pointer (some ⟨w.heap.size, 0, none⟩)]) ∧ w' = w.alloc (.cells #[.slice a len cap] 46) := by
 refine callsIn_of_wp Tryz.func34 rfl h34 ?_ hro
 simp only [Tryz.ntmps34, List.size_toArray, List.length_cons, List.length_nil, Nat.reduceAdd, Nat.reduceSub, Array.replicate_succ, Array.replicate_zero, List.push_toArray, List.append_toArray, List.nil_append, List.cons_append]
 gi_wp2
 go_ret
 exact ⟨rfl, rfl⟩
def Vars (n₀ : Nat) (W : World) (a : Option Addr) (e : EV) : Prop :=
 e = [] ∨ ∃ b off, a = some ⟨b, off, none⟩ ∧ b < n₀ ∧ ∀ j, j < e.length → W.cell? ⟨b, off + j * 2, none⟩ = some (.string (bs (e[j]?.getD ([], 0)).1)) ∧ W.cell? ⟨b, off + j * 2 + 1, none⟩ = some (.int .u64 (e[j]?.getD ([], 0)).2)
theorem Vars.below {n₀ : Nat} {A B : World} (h : Below n₀ A B) {a : Option Addr} {e : EV} : Vars n₀ A a e → Vars n₀ B a e
 | .inl e => .inl e
 | .inr ⟨b, off, e, hb, hc⟩ => .inr ⟨b, off, e, hb, fun j hj => ⟨(h.cell (p := ⟨b, off + j * 2, none⟩) hb).trans (hc j hj).1, (h.cell (p := ⟨b, off + j * 2 + 1, none⟩) hb).trans (hc j hj).2⟩⟩
theorem Vars.mono {n₀ n₁ : Nat} {A : World} (h : n₀ ≤ n₁) {a : Option Addr} {e : EV} : Vars n₀ A a e → Vars n₁ A a e
 | .inl e => .inl e
 | .inr ⟨b, off, e, hb, hc⟩ => .inr ⟨b, off, e, Nat.lt_of_lt_of_le hb h, hc⟩
theorem back_stops (F : Fence) (n : Nat) (h51 : F.fn 51) (hro : F.round = none) (hn : 1 ≤ n) (Bs n₀ : Nat) (a : Option Addr) (cap : Nat) (e : EV) (hreach : e.length * 24 ≤ 140737488351232) (w : World) (hBs : Bs < n₀) (hn₀ : n₀ ≤ w.heap.size)
  (hc : w.cell? ⟨Bs, 0, none⟩ = some (.slice a e.length cap)) (hI : Vars n₀ w a e) :
  SeqStopsK F n Tryz.prog 51 #[.pointer (some ⟨Bs, 0, none⟩)] (fun x : Nat × BV => #[Value.int .i64 (x.1 : Int), evV x.2]) (Below n₀) (fun ys => ys = backs e e.length)
   (fun pre => ∃ k, k ≤ e.length ∧ pre = backs e k) e.length w := fun l J Jx W hW _ _ hY h0 => by
 have hc' := (hW.cell (p := ⟨Bs, 0, none⟩) (show Bs < _ by omega)).trans hc
 rcases hI.below (hW.mono hn₀) with rfl | ⟨b, off, rfl, hb, hcs⟩
 ·exact (back1_nil_in F n h51 hro l Bs a cap J W hc' h0).mono fun e W' ⟨he, hj⟩ => ⟨he, .inl ⟨_, rfl, hj⟩⟩
 ·exact back1_in F n h51 hro hn l Bs n₀ b off cap e hreach hb hBs J Jx hY W hc' hcs h0
set_option maxHeartbeats 4000000 in
theorem get_in (F : Fence) (n : Nat) (h16 : F.fn 16) (h34 : F.fn 34) (h51 : F.fn 51) (hro : F.round = none) (hn : 3 ≤ n) (a : Option Addr) (cap : Nat) (e : EV) (nm : List UInt8) (hreach : e.length * 24 ≤ 140737488351232) (w : World) (hI : Vars w.heap.size w a e) :
  CallsIn F n Tryz.prog 16 #[.slice a e.length cap, .string (bs nm)] w fun r W' =>
   ((r = .returned (.tuple #[.int .u64 0, .bool false]) ∧ ∀ p ∈ backs e e.length, p.2.1 ≠ nm) ∨ (∃ ini last, (∃ k, k ≤ e.length ∧ ini ++ [last] = backs e k) ∧ r = .returned (.tuple #[.int .u64 (last.2.2 : Int), .bool true]) ∧ last.2.1 = nm ∧ ∀ p ∈ ini, p.2.1 ≠ nm)) ∧ Below w.heap.size w W' := by
 have h1 : 1 ≤ n := by omega
 refine callsIn_of_wp_marks Tryz.func16 rfl h16 ?_ hro
 simp only [Tryz.ntmps16, List.size_toArray, List.length_cons, List.length_nil, Nat.reduceAdd, Nat.reduceSub, Array.replicate_succ, Array.replicate_zero, List.push_toArray, List.append_toArray, List.nil_append, List.cons_append]
 gi_wp2_with (gi_at_call 34; refine (backward_in F (n - 1) h34 hro _ _ _ _).mono ?_; rintro r w' ⟨rfl, rfl⟩)
 obtain ⟨w3, hw3⟩ : ∃ w3, ((w.alloc (.cells #[.string (bs nm)] 9)).alloc (.cells #[.int .u64 0] 50)).alloc (.cells #[.bool false] 4) = w3 := ⟨_, rfl⟩
 have bN : Boxed w3 w.heap.size 9 (.string (bs nm)) := by rw [← hw3]; exact ((Boxed.new w _ _).alloc _).alloc _
 have bR : Boxed w3 (w.heap.size + 1) 50 (.int .u64 0) := by
  have := (Boxed.new (w.alloc (.cells #[.string (bs nm)] 9)) 50 (.int .u64 0)).alloc (.cells #[.bool false] 4)
  rw [World.size_alloc, hw3] at this
  exact this
 have bB : Boxed w3 (w.heap.size + 2) 4 (.bool false) := by
  have := Boxed.new ((w.alloc (.cells #[.string (bs nm)] 9)).alloc (.cells #[.int .u64 0] 50)) 4 (.bool false)
  rw [World.size_alloc, World.size_alloc, hw3] at this
  exact this
 have hB3 : Below w.heap.size w w3 := by rw [← hw3]; exact (((Below.refl _ w).alloc (Nat.le_refl _) _).alloc (by simp) _).alloc (by simp; omega) _
 have hs3 : w3.heap.size = w.heap.size + 3 := by rw [← hw3]; simp
 rw [hw3]
 have bS := Boxed.new w3 46 (.slice a e.length cap)
 obtain ⟨w4, hw4⟩ : ∃ w4, w3.alloc (.cells #[.slice a e.length cap] 46) = w4 := ⟨_, rfl⟩
 have hB4 : Below w.heap.size w w4 := by rw [← hw4]; exact hB3.alloc (by omega) _
 have hs4 : w4.heap.size = w.heap.size + 4 := by rw [← hw4, World.size_alloc, hs3]
 replace bN : Boxed w4 w.heap.size 9 (.string (bs nm)) := by rw [← hw4]; exact bN.alloc _
 replace bR : Boxed w4 (w.heap.size + 1) 50 (.int .u64 0) := by rw [← hw4]; exact bR.alloc _
 replace bB : Boxed w4 (w.heap.size + 2) 4 (.bool false) := by rw [← hw4]; exact bB.alloc _
 rw [hs3, hw4] at bS
 rw [hw4]
 simp only [Nat.add_assoc, Nat.reduceAdd]
 refine wpIn_rangeFunc_ownH hro h1 (gf := 51) (lb := #[.pointer (some ⟨w.heap.size + 3, 0, none⟩)]) rfl h51 (enters_of Tryz.func51 (by kernel_rfl) rfl)
  (back_stops F (n - 1) h51 hro (by omega) (w.heap.size + 3) (w.heap.size + 4) a cap e hreach w4 (by omega) (by omega) bS.cell ((hI.below hB4).mono (by omega))) belowK_t (belowK_b (by omega)) (Below.refl _ _) (fun _ => rfl)
  (fun pre W => ((∀ p ∈ pre, p.2.1 ≠ nm) ∧ Boxed W w.heap.size 9 (.string (bs nm)) ∧ Boxed W (w.heap.size + 1) 50 (.int .u64 0) ∧ Boxed W (w.heap.size + 2) 4 (.bool false) ∧ Boxed W (w.heap.size + 3) 46 (.slice a e.length cap)) ∧ Below w.heap.size w W)
  (fun c pre W => (c = .ret ∧ ∃ ini last, pre = ini ++ [last] ∧ (∀ p ∈ ini, p.2.1 ≠ nm) ∧ last.2.1 = nm ∧ Boxed W (w.heap.size + 1) 50 (.int .u64 (last.2.2 : Int)) ∧ Boxed W (w.heap.size + 2) 4 (.bool true)) ∧ Below w.heap.size w W)
  (OwnFrom.and (fun s A B row hs hg hr => ⟨hs.1, hs.2.1.kept hg (fun e => by have := (hr _ e.symm).1; omega), hs.2.2.1.kept hg (fun e => by have := (hr _ e.symm).1; omega), hs.2.2.2.1.kept hg (fun e => by have := (hr _ e.symm).1; omega), hs.2.2.2.2.kept hg (fun e => by have := (hr _ e.symm).1; omega)⟩) (ownFrom_below (Nat.le_refl _) (by omega)))
  (fun c => OwnFrom.and (fun s A B row hs hg hr => by obtain ⟨hc, ini, last, e1, e2, e3, e4, e5⟩ := hs; exact ⟨hc, ini, last, e1, e2, e3, e4.kept hg (fun e => by have := (hr _ e.symm).1; omega), e5.kept hg (fun e => by have := (hr _ e.symm).1; omega)⟩) (ownFrom_below (Nat.le_refl _) (by omega)))
  ⟨⟨by simp, bN, bR, bB, bS⟩, hB4⟩
  (fun x a' W => ∃ Bx, w.heap.size + 4 ≤ Bx ∧ W.heap[Bx]? = some (.cells #[.string (bs x.2.1), .int .u64 (x.2.2 : Int)] 69 (0, 0)) ∧
   a' = { tmps := #[.slice a e.length cap, .string (bs nm), undef, .pointer (some ⟨w.heap.size, 0, none⟩), .pointer (some ⟨w.heap.size + 1, 0, none⟩), .pointer (some ⟨w.heap.size + 2, 0, none⟩), undef, .pointer (some ⟨Bx, 0, none⟩), .slice a e.length cap, .func (.func 51) #[] #[.pointer (some ⟨w.heap.size + 3, 0, none⟩)], .int .i64 (x.1 : Int), evV x.2, undef, undef, undef, undef, undef, undef], defers := [] })
  ?hAx ?assign ?body ?done ?stop
 case hAx =>
  rintro x a' s A B row ⟨Bx, h1, h2, h3⟩ hg hr
  refine ⟨Bx, h1, (hg.block Bx (Array.getElem?_eq_some_iff.1 h2).1 (fun e' => ?_)).trans h2, h3⟩
  obtain ⟨_, o, ho, hc⟩ := hr Bx e'.symm
  rw [h2] at ho
  cases ho
  cases hc
 case assign =>
  rintro l pre x W K ⟨⟨hp, cN, cR, cB, cS⟩, hB⟩ hK
  have hlt := cS.lt
  gi_wp2
  exact hK _ _ ((KeepsOthers.alloc _ _).from _) ((Below.refl _ W).alloc (by omega) _) ⟨⟨hp, cN.alloc _, cR.alloc _, cB.alloc _, cS.alloc _⟩, hB.alloc (by omega) _⟩ ⟨W.heap.size, by omega, World.alloc_heap_new W _, rfl⟩
 case body =>
  rintro l pre x a' W hl ⟨r, hr⟩ ⟨⟨hp, cN, cR, cB, cS⟩, hB⟩ ⟨Bx, hBx, hX, rfl⟩ hlt
  have c0 : W.cell? ⟨Bx, 0, none⟩ = some (.string (bs x.2.1)) := by simp [World.cell?, hX]
  have c1 : W.cell? ⟨Bx, 1, none⟩ = some (.int .u64 (x.2.2 : Int)) := by simp [World.cell?, hX]
  have hN := cN.cell
  have hRc := cR.cell
  have hRf := cR.frozen
  have hBc := cB.cell
  have hBf := cB.frozen
  gi_wp2
  ·have hx : x.2.1 = nm := by (rename_i hh; simpa using hh)
   exact ⟨((KeepsOthers.setCell W ⟨w.heap.size + 1, 0, none⟩ (.int .u64 (x.2.2 : Int))).trans (KeepsOthers.setCell _ ⟨w.heap.size + 2, 0, none⟩ (.bool true))).from _, ⟨rfl, pre, x, rfl, hp, hx, (cR.set _).other (by omega) _, (cB.other (by omega) _).set _⟩, (hB.setCell (p := ⟨w.heap.size + 1, 0, none⟩) (by simp) _).setCell (p := ⟨w.heap.size + 2, 0, none⟩) (by simp) _⟩
  ·have hx : ¬ x.2.1 = nm := by (rename_i hh; simpa using hh)
   exact ⟨KeepsFrom.refl _ _, Below.refl _ _, ⟨fun p hp' => (List.mem_append.1 hp').elim (hp p) (fun e => by simp at e; subst e; exact hx), cN, cR, cB, cS⟩, hB⟩
 case done =>
  rintro D ys W hD rfl ⟨⟨hne, cN, cR, cB, cS⟩, hB⟩ hK
  have hRc := cR.cell
  have hRf := cR.frozen
  have hBc := cB.cell
  have hBf := cB.frozen
  gi_wp2
  have hK' := ((KeepsOthers.setCell W ⟨w.heap.size + 1, 0, none⟩ (.int .u64 0)).trans (KeepsOthers.setCell _ ⟨w.heap.size + 2, 0, none⟩ (.bool false))).same D _ hK rfl
  have bR2 := ((cR.set (.int .u64 0)).other (by omega : w.heap.size + 1 ≠ w.heap.size + 2) (.bool false))
  have bB2 := ((cB.other (by omega : w.heap.size + 2 ≠ w.heap.size + 1) (.int .u64 0)).set (.bool false))
  refine ⟨by simp, .inl ⟨_, _, rfl, run_takeDeferred hK', ?_⟩⟩
  have hc5 := cell_kept bR2.cell (grownBy_putObj' _ D (.deferred none)) (fun r e => by cases e; exact ⟨_, hK', rfl⟩)
  have hc6 := cell_kept bB2.cell (grownBy_putObj' _ D (.deferred none)) (fun r e => by cases e; exact ⟨_, hK', rfl⟩)
  refine ⟨.tuple #[.int .u64 0, .bool false], ?_, .inl ⟨rfl, hne⟩, ((hB.setCell (p := ⟨w.heap.size + 1, 0, none⟩) (by simp) _).setCell (p := ⟨w.heap.size + 2, 0, none⟩) (by simp) _).trans (belowK_b (w := w) (Nat.le_refl _) _ D _ _ (by omega) hK' rfl rfl)⟩
  simp [results, Tryz.f16, go_sem, hc5, hc6]
 case stop =>
  rintro D c pre W hD ⟨k, hk, rfl⟩ ⟨⟨rfl, ini, last, e1, e2, e3, e4, e5⟩, hB⟩ hK
  gi_wp2
  refine ⟨by simp, .inl ⟨_, _, rfl, run_takeDeferred hK, ?_⟩⟩
  have hc5 := cell_kept e4.cell (grownBy_putObj' _ D (.deferred none)) (fun r e => by cases e; exact ⟨_, hK, rfl⟩)
  have hc6 := cell_kept e5.cell (grownBy_putObj' _ D (.deferred none)) (fun r e => by cases e; exact ⟨_, hK, rfl⟩)
  refine ⟨.tuple #[.int .u64 (last.2.2 : Int), .bool true], ?_, .inr ⟨ini, last, ⟨k, hk, e1.symm⟩, rfl, e3, e2⟩, hB.trans (belowK_b (w := w) (Nat.le_refl _) W D _ _ (by omega) hK rfl rfl)⟩
  simp [results, Tryz.f16, go_sem, hc5, hc6]
theorem backs_none {e : EV} {nm : List UInt8} (h : ∀ p ∈ backs e e.length, p.2.1 ≠ nm) : getE e nm = none := by
 rcases hg : getE e nm with _ | n
 ·rfl
 ·obtain ⟨p, hp, h1, h2⟩ := getE_mem hg
  obtain ⟨j, hj, hjp⟩ := List.mem_iff_getElem.1 hp
  refine absurd h1 (h (j, p) (List.mem_map.2 ⟨e.length - 1 - j, List.mem_range.2 (by omega), ?_⟩))
  rw [show e.length - 1 - (e.length - 1 - j) = j by omega, List.getElem?_eq_getElem hj, hjp]
  rfl
theorem backs_some {e : EV} {nm : List UInt8} {ini : List (Nat × BV)} {last : Nat × BV} {k : Nat} (hk : k ≤ e.length) (h : ini ++ [last] = backs e k) (hl : last.2.1 = nm) (hi : ∀ p ∈ ini, p.2.1 ≠ nm) : getE e nm = some last.2.2 := by
 obtain ⟨k, rfl⟩ : ∃ k', k = k' + 1 := by
  cases k with
  | zero => simp [backs] at h
  | succ k' => exact ⟨k', rfl⟩
 rw [backs_succ] at h
 obtain ⟨rfl, e5⟩ := List.append_inj' h rfl
 obtain rfl : last = (e.length - 1 - k, e[e.length - 1 - k]?.getD ([], 0)) := by simpa using e5
 obtain ⟨m, hm⟩ : ∃ m, e.length - 1 - k = m := ⟨_, rfl⟩
 rw [hm] at hl ⊢
 have hml : m < e.length := by omega
 have hsplit : e = e.take m ++ e[m] :: e.drop (m + 1) := by rw [← List.drop_eq_getElem_cons hml, List.take_append_drop]
 rw [List.getElem?_eq_getElem hml] at hl ⊢
 have hl : e[m].1 = nm := hl
 have hd : getE (e.drop (m + 1)) nm = none := by
  rcases hg : getE (e.drop (m + 1)) nm with _ | n
  ·rfl
  ·obtain ⟨p, hp, h1, h2⟩ := getE_mem hg
   obtain ⟨j, hj, hjp⟩ := List.mem_iff_getElem.1 hp
   rw [List.length_drop] at hj
   rw [List.getElem_drop] at hjp
   refine absurd h1 (hi (m + 1 + j, p) (List.mem_map.2 ⟨e.length - 1 - (m + 1 + j), List.mem_range.2 (by omega), ?_⟩))
   rw [show e.length - 1 - (e.length - 1 - (m + 1 + j)) = m + 1 + j by omega, List.getElem?_eq_getElem (by omega), hjp]
   rfl
 obtain ⟨v, hv⟩ : ∃ v, e[m] = v := ⟨_, rfl⟩
 show getE e nm = some e[m].2
 rw [hv] at hsplit hl ⊢
 rw [hsplit, getE_app, show getE (v :: e.drop (m + 1)) nm = (match getE (e.drop (m + 1)) nm with | some n => some n | none => if v.1 = nm then some v.2 else none) from rfl, hd]
 dsimp only
 rw [if_pos hl]
def evD (p : BV) : List D := [ds (bs p.1), du p.2]
def getT : Option Nat → TV
 | none => .tup [c1 (du 0), c1 (db false)]
 | some n => .tup [c1 (du n), c1 (db true)]
theorem evD_len (e : EV) : ∀ r ∈ e.map evD, r.length = 2 := fun r hr => by
 obtain ⟨p, _, rfl⟩ := List.mem_map.1 hr
 rfl
theorem vars_of {S : Nat → Prop} {w : World} {e : EV} {u : Value} (hS : ∀ b, S b → b < w.heap.size) (h : V1 ι0 S w (c1 (.sl 2 (e.map evD))) u) : ∃ a cap, u = .slice a e.length cap ∧ Vars w.heap.size w a e := by
 have h' : Imm S w (.sl 2 (e.map evD)) u := h
 obtain ⟨rows, hrows⟩ : ∃ rows, e.map evD = rows := ⟨_, rfl⟩
 rw [hrows] at h'
 have hel : e.length = rows.length := by rw [← hrows, List.length_map]
 cases h' with
 | nil =>
  have : e = [] := List.length_eq_zero_iff.1 hel
  subst this
  exact ⟨none, 0, rfl, .inl rfl⟩
 | @sl0 _ cap a =>
  have : e = [] := List.length_eq_zero_iff.1 hel
  subst this
  exact ⟨some a, cap, rfl, .inl rfl⟩
 | @sl _ _ g f cap us hs hc hr h1 h2 =>
  refine ⟨some ⟨g, f, none⟩, cap, by rw [hel], .inr ⟨g, f, rfl, hS g hs, fun j hj => ?_⟩⟩
  have hj2 : e[j]? = some e[j] := List.getElem?_eq_getElem hj
  have hrow : rows[j]? = some (evD e[j]) := by rw [← hrows, List.getElem?_map, hj2]; rfl
  have hlen : ∀ r ∈ rows, r.length = 2 := by rw [← hrows]; exact evD_len e
  have f0 := flatten_get hlen hrow (j := 0) (d := ds (bs e[j].1)) rfl
  have f1 := flatten_get hlen hrow (j := 1) (d := du e[j].2) rfl
  have g0 := h1 _ _ f0
  have g1 := h1 _ _ f1
  have k0 := h2 _ _ f0
  have k1 := h2 _ _ f1
  rw [hj2]
  generalize us (j * 2 + 0) = u0 at *
  generalize us (j * 2 + 1) = u1 at *
  cases k0
  cases k1
  exact ⟨g0, g1⟩
theorem get_c (Γ : Glob) (e : EV) (nm : List UInt8) (hl : e.length ≤ 1000000) : CallsA Tryz.prog Γ 16 [c1 (.sl 2 (e.map evD)), c1 (ds (bs nm))] (getT (getE e nm)) :=
 ⟨⟨_, Tryz.func16, by kernel_rfl, rfl⟩, fun S w vs hS hG hvs => by
  obtain ⟨u, vs, rfl, e0, hvs⟩ := hvs.cons_left
  obtain ⟨v, rfl, e1⟩ := hvs.one_left
  obtain ⟨a, cap, rfl, hI⟩ := vars_of hS e0
  have e1 : Imm S w (ds (bs nm)) v := e1
  cases e1
  refine (callsIn_wide (n := 3)).1 ((get_in Fence.wide 3 trivial trivial trivial rfl (by omega) a cap e nm (by omega) w hI).mono fun r W' ⟨h, hb⟩ => ?_)
  rcases h with ⟨rfl, h⟩ | ⟨ini, last, ⟨k, hk, h1⟩, rfl, h2, h3⟩
  ·rw [backs_none h]
   exact flat_end hS hb ⟨[_, _], rfl, .cons (Imm.v rfl) (.cons (Imm.v rfl) .nil)⟩
  ·rw [backs_some hk h1 h2 h3]
   exact flat_end hS hb ⟨[_, _], rfl, .cons (Imm.v rfl) (.cons (Imm.v rfl) .nil)⟩⟩
end Go.Proofs.YtoingpafcodojaaGreatDoor

namespace Go.Proofs.YtoingpafcodojaaGreatDoor
open Go.RowKit

def ErrAt (w : World) (b : Nat) : Prop := ∃ ev, w.cell? ⟨b, 0, none⟩ = some ev ∧ (ev = .nilIface ∨ ∃ te pe, ev = .iface te pe)
theorem one_arg {S : Nat → Prop} {w : World} {a : T1} {vs : List Value} (h : All2 (V1 ι0 S w) [a] vs) : ∃ u, vs = [u] ∧ V1 ι0 S w a u := by
 obtain ⟨u, rfl, e⟩ := h.one_left
 exact ⟨u, rfl, e⟩
theorem two_args {S : Nat → Prop} {w : World} {a b : T1} {vs : List Value} (h : All2 (V1 ι0 S w) [a, b] vs) : ∃ u v, vs = [u, v] ∧ V1 ι0 S w a u ∧ V1 ι0 S w b v := by
 obtain ⟨u, vs, rfl, e0, h⟩ := h.cons_left
 obtain ⟨v, rfl, e1⟩ := h.one_left
 exact ⟨u, v, rfl, e0, e1⟩
theorem open_v {S : Nat → Prop} {w : World} {v u : Value} (h : V1 ι0 S w (c1 (.v v)) u) : u = v := by
 have h' : Imm S w _ u := h
 cases h'; rfl
theorem three_args {S : Nat → Prop} {w : World} {a b c : T1} {vs : List Value} (h : All2 (V1 ι0 S w) [a, b, c] vs) : ∃ u v x, vs = [u, v, x] ∧ V1 ι0 S w a u ∧ V1 ι0 S w b v ∧ V1 ι0 S w c x := by
 obtain ⟨u, vs, rfl, e0, h⟩ := h.cons_left
 obtain ⟨v, x, rfl, e1, e2⟩ := two_args h
 exact ⟨u, v, x, rfl, e0, e1, e2⟩
def signsAt (w : World) (g : Nat) : Prop := ∀ j l, signsL[j]? = some l → w.cell? ⟨g, j, none⟩ = some (.string (bs l))
def ΓL : Glob := ⟨fun S w => (ErrAt w 2 ∧ S 2) ∧ (ErrAt w 3 ∧ S 3) ∧ (∃ m, w.cell? ⟨1, 0, none⟩ = some (.int .i64 m) ∧ S 1) ∧ signsAt w 0 ∧ S 0,
 fun {S S' w w'} hw hS ⟨⟨⟨ev, h1, h2⟩, h3⟩, ⟨⟨er, h4, h5⟩, h6⟩, ⟨m, h7, h8⟩, h9, h10⟩ => ⟨⟨⟨ev, by rw [cell_same (hw _ h3)]; exact h1, h2⟩, hS _ h3⟩, ⟨⟨er, by rw [cell_same (hw _ h6)]; exact h4, h5⟩, hS _ h6⟩, ⟨m, by rw [cell_same (hw _ h8)]; exact h7, hS _ h8⟩, fun j l hj => by rw [cell_same (hw _ h10)]; exact h9 j l hj, hS _ h10⟩,
 [], fun g => match Nat.beq g 0 with
  | true => some (signsL.map fun l => ds (bs l))
  | false => none,
 fun {S w g cs} hG hg => by
  split at hg
  ·rename_i hb
   obtain rfl := Nat.eq_of_beq_eq_true hb
   cases hg
   obtain ⟨-, -, -, h9, h10⟩ := hG
   refine ⟨fun j => .string (bs (signsL.getD j [])), fun _ => h10, fun j d hj => ?_⟩
   rw [List.getElem?_map] at hj
   obtain ⟨l, h1, rfl⟩ := Option.map_eq_some_iff.1 hj
   have : signsL.getD j [] = l := by rw [List.getD, h1]; rfl
   dsimp only
   rw [this]
   exact ⟨h9 j l h1, Imm.v rfl⟩
  ·cases hg⟩
theorem CallsA.gL {f : FuncId} {xs : List T1} {r : TV} (h : CallsA Tryz.prog Γ0 f xs r) : CallsA Tryz.prog ΓL f xs r := ⟨h.1, fun S w vs hS _ hv => h.2 S w vs hS trivial hv⟩
theorem trimLeft_c (Γ : Glob) (r cs : List UInt8) (hcs : cs.length < 4294967281) (ha : (cs.all fun b => decide (b.toNat < 128)) = true) :
  CallsA Tryz.prog Γ 76 [c1 (ds (bs r)), c1 (ds (bs cs))] (Tstr (bs (r.dropWhile (cs.contains ·)))) :=
 ⟨⟨_, Tryz.func76, by kernel_rfl, rfl⟩, fun S w vs hS hG hvs => by
  obtain ⟨u, v, rfl, e1, e2⟩ := two_args hvs
  obtain rfl := open_v e1
  obtain rfl := open_v e2
  refine (Any.strings_TrimLeft_laid Tryz.lays161 (by kernel_rfl) (bs r) (bs cs) w (by rw [bs_size]; exact hcs) (fun j b hb => of_decide_eq_true (List.all_eq_true.1 ha b (List.mem_of_getElem? hb)))).mono fun e w' ⟨he, hb⟩ => ?_
  subst he
  exact flat_end hS hb (Imm.v rfl)⟩
theorem prefix_c (Γ : Glob) (r p : List UInt8) : CallsA Tryz.prog Γ 53 [c1 (ds (bs r)), c1 (ds (bs p))] (Tb (Lib.hasPrefix r p)) :=
 ⟨⟨_, Tryz.func53, by kernel_rfl, rfl⟩, fun S w vs hS hG hvs => by
  obtain ⟨u, v, rfl, e1, e2⟩ := two_args hvs
  obtain rfl := open_v e1
  obtain rfl := open_v e2
  refine (Tryz.strings_HasPrefix (bs r) (bs p) w).mono fun e w' ⟨he, hb⟩ => ?_
  subst he; subst hb
  exact flat_end hS (Below.refl _ _) (Imm.v rfl)⟩
theorem lprefix_c (Γ : Glob) (r p : List UInt8) : CallsA Tryz.prog Γ 77 [c1 (ds (bs r)), c1 (ds (bs p))] (Tb (Lib.hasPrefix r p)) :=
 ⟨⟨_, Tryz.func77, by kernel_rfl, rfl⟩, fun S w vs hS hG hvs => by
  obtain ⟨u, v, rfl, e1, e2⟩ := two_args hvs
  obtain rfl := open_v e1
  obtain rfl := open_v e2
  refine (Tryz.stringslite_HasPrefix (bs r) (bs p) w).mono fun e w' ⟨he, hb⟩ => ?_
  subst he; subst hb
  exact flat_end hS (Below.refl _ _) (Imm.v rfl)⟩
theorem cut_c (r p : List UInt8) (hr : r.length < 4294967281) : CallsA Tryz.prog ΓL 54 [c1 (ds (bs r)), c1 (ds (bs p))] (.tup [c1 (ds (bs (Lib.cut r p).1)), c1 (ds (bs (Lib.cut r p).2.1)), c1 (db (Lib.cut r p).2.2)]) :=
 ⟨⟨_, Tryz.func54, by kernel_rfl, rfl⟩, fun S w vs hS hG hvs => by
  obtain ⟨u, v, rfl, e1, e2⟩ := two_args hvs
  obtain rfl := open_v e1
  obtain rfl := open_v e2
  obtain ⟨-, -, ⟨m, hm, -⟩, -⟩ := hG
  refine (Tryz.strings_Cut (bs r) (bs p) m w (by rw [bs_size]; exact hr) hm).mono fun e w' ⟨he, n, hb⟩ => ?_
  subst he; subst hb
  exact flat_end hS ((Below.refl _ _).trans ⟨rfl, rfl, rfl, Nat.le_refl _, fun _ _ => rfl⟩) ⟨[_, _, _], rfl, .cons (Imm.v rfl) (.cons (Imm.v rfl) (.cons (Imm.v rfl) .nil))⟩⟩
theorem ext_drop (r : List UInt8) (n : Nat) (h : n ≤ r.length) : (bs r).extract (n : Int).toNat ((bs r).size : Int).toNat = bs (r.drop n) := by
 apply ByteArray.ext
 rw [ByteArray.data_extract, Int.toNat_natCast, Int.toNat_natCast, bs_size]
 apply Array.ext'
 simp only [List.extract_toArray, List.extract_eq_take_drop]
 exact List.take_of_length_le (by simp)
theorem ext_take (r : List UInt8) (n : Nat) : (bs r).extract (0 : Int).toNat (n : Int).toNat = bs (r.take n) := by
 apply ByteArray.ext
 rw [ByteArray.data_extract, Int.toNat_natCast]
 apply Array.ext'
 simp [List.extract_eq_take_drop]
end Go.Proofs.YtoingpafcodojaaGreatDoor

namespace Go.Proofs.YtoingpafcodojaaGreatDoor
open Go.RowKit

abbrev owT (p : Nat × Nat) : TV := .tup [c1 (du p.1), c1 (di p.2)]
theorem told_c (z : Int) (b : Bool) : CallsA Tryz.prog Γ0 158 [c1 (.v (.int .u64 z)), c1 (db b)] (.tup [c1 (.v (.int .u64 (if b then z else 0))), c1 (di (if b then 0 else 5))]) := by
 cases b
 ·
  refine fn_rule (C := ⟨Tryz.prog, layF, Tryz.f158.ntmps, Γ0, 0, [], []⟩) layF_ok mixed Tryz.func158 rfl (by kernel_rfl) rfl rfl rfl ?_
  repeat' (first | refine qgs ?_ | refine eD ?_ ?_ <;> intro)
  exact TLe.rfl
 ·
  refine fn_rule (C := ⟨Tryz.prog, layF, Tryz.f158.ntmps, Γ0, 0, [], []⟩) layF_ok mixed Tryz.func158 rfl (by kernel_rfl) rfl rfl rfl ?_
  repeat' (first | refine qgs ?_ | refine eD ?_ ?_ <;> intro)
  exact TLe.rfl
theorem wtruth_c (b : Bool) : CallsA Tryz.prog Γ0 72 [c1 (db b)] (.o (c1 (du (yes b).1))) := by
 cases b
 ·
  refine fn_rule (C := ⟨Tryz.prog, layF, Tryz.f72.ntmps, Γ0, 0, [], []⟩) layF_ok mixed Tryz.func72 rfl (by kernel_rfl) rfl rfl rfl ?_
  repeat' (first | refine qgs ?_ | refine eD ?_ ?_ <;> intro)
  exact TLe.rfl
 ·
  refine fn_rule (C := ⟨Tryz.prog, layF, Tryz.f72.ntmps, Γ0, 0, [], []⟩) layF_ok mixed Tryz.func72 rfl (by kernel_rfl) rfl rfl rfl ?_
  repeat' (first | refine qgs ?_ | refine eD ?_ ?_ <;> intro)
  exact TLe.rfl
theorem wsub_c (a b : Nat) (ha : a < 18446744073709551616) (hb : b < 18446744073709551616) : CallsA Tryz.prog Γ0 128 [c1 (du a), c1 (du b)] (owT (subW a b)) := by
 unfold subW
 by_cases h : a < b
 ·rw [if_pos h]
  have ht := told_c (IntKind.u64.wrap ((a : Int) - b)) false
  refine fn_rule (C := ⟨Tryz.prog, layF, Tryz.f128.ntmps, Γ0, 0, [], []⟩) layF_ok mixed Tryz.func128 rfl (by kernel_rfl) rfl rfl rfl ?_
  repeat' (first | refine ex_call ht ?_ | refine (ex_is (IntKind.u64.wrap ((a : Int) - b)) rfl) ?_ | refine qg1 ?_ | refine eD ?_ ?_ <;> intro)
  exact TLe.rfl
 ·rw [if_neg h]
  have ht := told_c ((a - b : Nat) : Int) true
  refine fn_rule (C := ⟨Tryz.prog, layF, Tryz.f128.ntmps, Γ0, 0, [], []⟩) layF_ok mixed Tryz.func128 rfl (by kernel_rfl) rfl rfl rfl ?_
  repeat' (first | refine ex_call ht ?_ | refine aI ((a - b : Nat) : Int) ?_ | refine aU ((a - b : Nat) : Int) ?_ | refine aB ((a - b : Nat) : Int) ?_ | refine qg1 ?_ | refine eD ?_ ?_ <;> intro)
  exact TLe.rfl
theorem wmul_c (a b : Nat) (ha : a < 18446744073709551616) (hb : b < 18446744073709551616) : CallsA Tryz.prog Γ0 129 [c1 (du a), c1 (du b)] (owT (numW (a * b))) := by
 have hm : CallsA Tryz.prog Γ0 159 [c1 (du a), c1 (du b)] (.tup [c1 (du (a * b / 18446744073709551616 : Nat)), c1 (du (a * b % 18446744073709551616 : Nat))]) :=
  ⟨⟨_, Tryz.func159, by kernel_rfl, rfl⟩, fun S w vs hS hG hvs => by
   obtain ⟨u, v, rfl, e1, e2⟩ := two_args hvs
   obtain rfl := open_v e1
   obtain rfl := open_v e2
   refine (Tryz.bits_Mul64 a b ha hb w).mono fun e w' ⟨he, hw⟩ => ?_
   subst he; subst hw
   exact flat_end hS (Below.refl _ _) ⟨[_, _], rfl, .cons (Imm.v rfl) (.cons (Imm.v rfl) .nil)⟩⟩
 unfold numW
 by_cases h : a * b < 18446744073709551616
 ·rw [if_pos h]
  rw [Nat.div_eq_of_lt h, Nat.mod_eq_of_lt h] at hm
  have ht := told_c ((a * b : Nat) : Int) true
  generalize a * b = c at *
  refine fn_rule (C := ⟨Tryz.prog, layF, Tryz.f129.ntmps, Γ0, 0, [], []⟩) layF_ok mixed Tryz.func129 rfl (by kernel_rfl) rfl rfl rfl ?_
  repeat' (first | refine ex_call ht ?_ | refine ex_call hm ?_ | refine qg1 ?_ | refine eD ?_ ?_ <;> intro)
  exact TLe.rfl
 ·rw [if_neg h]
  have hd : 0 < a * b / 18446744073709551616 := Nat.div_pos (by omega) (by omega)
  have ht := told_c ((a * b % 18446744073709551616 : Nat) : Int) false
  generalize a * b % 18446744073709551616 = c at *
  generalize a * b / 18446744073709551616 = d at *
  refine fn_rule (C := ⟨Tryz.prog, layF, Tryz.f129.ntmps, Γ0, 0, [], []⟩) layF_ok mixed Tryz.func129 rfl (by kernel_rfl) rfl rfl rfl ?_
  repeat' (first | refine ex_call ht ?_ | refine ex_call hm ?_ | refine qg1 ?_ | refine eD ?_ ?_ <;> intro)
  exact TLe.rfl
theorem wdiv_c (a b : Nat) (ha : a < 18446744073709551616) (hb : b < 18446744073709551616) : CallsA Tryz.prog Γ0 130 [c1 (du a), c1 (du b)] (owT (divW a b)) := by
 unfold divW
 by_cases h : b = 0
 ·subst h
  rw [if_pos rfl]
  refine fn_rule (C := ⟨Tryz.prog, layF, Tryz.f130.ntmps, Γ0, 0, [], []⟩) layF_ok mixed Tryz.func130 rfl (by kernel_rfl) rfl rfl rfl ?_
  repeat' (first | refine qgs ?_ | refine eD ?_ ?_ <;> intro)
  exact TLe.rfl
 ·rw [if_neg h]
  have h2 := Nat.div_le_self a b
  have h4 : (a : Int).tdiv (b : Int) = ((a / b : Nat) : Int) := rfl
  generalize a / b = q at *
  refine fn_rule (C := ⟨Tryz.prog, layF, Tryz.f130.ntmps, Γ0, 0, [], []⟩) layF_ok mixed Tryz.func130 rfl (by kernel_rfl) rfl rfl rfl ?_
  repeat' (first | refine (ex_u64 ((q : Nat) : Int) h4 (by omega) (by omega)) ?_ | refine qg1 ?_ | refine eD ?_ ?_ <;> intro)
  exact TLe.rfl
theorem wmod_c (a b : Nat) (ha : a < 18446744073709551616) (hb : b < 18446744073709551616) : CallsA Tryz.prog Γ0 131 [c1 (du a), c1 (du b)] (owT (remW a b)) := by
 unfold remW
 by_cases h : b = 0
 ·subst h
  rw [if_pos rfl]
  refine fn_rule (C := ⟨Tryz.prog, layF, Tryz.f131.ntmps, Γ0, 0, [], []⟩) layF_ok mixed Tryz.func131 rfl (by kernel_rfl) rfl rfl rfl ?_
  repeat' (first | refine qgs ?_ | refine eD ?_ ?_ <;> intro)
  exact TLe.rfl
 ·rw [if_neg h]
  have h2 := Nat.mod_lt a (Nat.pos_of_ne_zero h)
  have h4 : (a : Int).tmod (b : Int) = ((a % b : Nat) : Int) := rfl
  generalize a % b = q at *
  refine fn_rule (C := ⟨Tryz.prog, layF, Tryz.f131.ntmps, Γ0, 0, [], []⟩) layF_ok mixed Tryz.func131 rfl (by kernel_rfl) rfl rfl rfl ?_
  repeat' (first | refine (ex_is ((q : Nat) : Int) h4) ?_ | refine qg1 ?_ | refine eD ?_ ?_ <;> intro)
  exact TLe.rfl
theorem wshr_c (a n : Nat) (ha : a < 18446744073709551616) (hn : n < 18446744073709551616) : CallsA Tryz.prog Γ0 133 [c1 (du a), c1 (du n)] (owT (shrW a n)) := by
 unfold shrW
 by_cases h : 63 < n
 ·rw [if_pos h]
  have ht := told_c ((a : Int).fdiv (2 ^ (min ((n : Int)).toNat 64))) false
  refine fn_rule (C := ⟨Tryz.prog, layF, Tryz.f133.ntmps, Γ0, 0, [], []⟩) layF_ok mixed Tryz.func133 rfl (by kernel_rfl) rfl rfl rfl ?_
  repeat' (first | refine ex_call ht ?_ | refine (ex_is ((a : Int).fdiv (2 ^ (min ((n : Int)).toNat 64))) rfl) ?_ | refine qg1 ?_ | refine eD ?_ ?_ <;> intro)
  exact TLe.rfl
 ·rw [if_neg h]
  have ht := told_c ((a / 2 ^ n : Nat) : Int) true
  have he : (a : Int).fdiv (2 ^ (min ((n : Int)).toNat 64)) = ((a / 2 ^ n : Nat) : Int) := by
   rw [Int.toNat_natCast, Nat.min_eq_left (by omega), Int.fdiv_eq_ediv_of_nonneg _ (Int.pow_nonneg (by omega))]
   simp
  refine fn_rule (C := ⟨Tryz.prog, layF, Tryz.f133.ntmps, Γ0, 0, [], []⟩) layF_ok mixed Tryz.func133 rfl (by kernel_rfl) rfl rfl rfl ?_
  repeat' (first | refine ex_call ht ?_ | refine (ex_is ((a / 2 ^ n : Nat) : Int) he) ?_ | refine qg1 ?_ | refine eD ?_ ?_ <;> intro)
  exact TLe.rfl
theorem wshl_c (a n : Nat) (ha : a < 18446744073709551616) (hn : n < 18446744073709551616) : CallsA Tryz.prog Γ0 132 [c1 (du a), c1 (du n)] (owT (shlW a n)) := by
 unfold shlW
 obtain ⟨z, hz⟩ : ∃ z : Int, IntKind.u64.wrap ((a : Int) * 2 ^ (min ((n : Int)).toNat 64)) = z := ⟨_, rfl⟩
 by_cases h : 63 < n
 ·rw [if_pos h]
  have ht := told_c z false
  refine fn_rule (C := ⟨Tryz.prog, layF, Tryz.f132.ntmps, Γ0, 0, [], []⟩) layF_ok mixed Tryz.func132 rfl (by kernel_rfl) rfl rfl rfl ?_
  repeat' (first | refine ex_call ht ?_ | refine (ex_is z hz) ?_ | refine qg1 ?_ | refine eD ?_ ?_ <;> intro)
  exact TLe.rfl
 ·rw [if_neg h]
  have hn64 : min ((n : Int)).toNat 64 = n := by rw [Int.toNat_natCast]; omega
  rw [hn64, IntKind.wrap_u64] at hz
  have hz2 : z = ((a * 2 ^ n % 18446744073709551616 : Nat) : Int) := by rw [← hz]; simp
  obtain ⟨y, hy⟩ : ∃ y : Nat, a * 2 ^ n % 18446744073709551616 = y := ⟨_, rfl⟩
  rw [hy] at hz2
  subst hz2
  have hs : (((y : Nat) : Int)).fdiv (2 ^ (min ((n : Int)).toNat 64)) = ((y / 2 ^ n : Nat) : Int) := by
   rw [hn64, Int.fdiv_eq_ediv_of_nonneg _ (Int.pow_nonneg (by omega))]
   simp
  have hz' : IntKind.u64.wrap ((a : Int) * 2 ^ (min ((n : Int)).toNat 64)) = ((y : Nat) : Int) := by rw [hn64, IntKind.wrap_u64]; exact hz
  have hp : 0 < 2 ^ n := Nat.two_pow_pos n
  unfold numW
  by_cases hv : a * 2 ^ n < 18446744073709551616
  ·rw [if_pos hv]
   have hya : y = a * 2 ^ n := by rw [← hy, Nat.mod_eq_of_lt hv]
   have hq : y / 2 ^ n = a := by rw [hya, Nat.mul_div_cancel _ hp]
   have ht := told_c ((y : Nat) : Int) true
   rw [hq] at hs
   rw [← hya]
   clear hy hya hq hz hv
   refine fn_rule (C := ⟨Tryz.prog, layF, Tryz.f132.ntmps, Γ0, 0, [], []⟩) layF_ok mixed Tryz.func132 rfl (by kernel_rfl) rfl rfl rfl ?_
   repeat' (first | refine ex_call ht ?_ | refine (ex_is ((a : Nat) : Int) hs) ?_ | refine (ex_is ((y : Nat) : Int) hz') ?_ | refine qg1 ?_ | refine eD ?_ ?_ <;> intro)
   exact TLe.rfl
  ·rw [if_neg hv]
   have hyl : y < 18446744073709551616 := by rw [← hy]; exact Nat.mod_lt _ (by omega)
   have hq : y / 2 ^ n < a := Nat.div_lt_of_lt_mul (by rw [Nat.mul_comm]; omega)
   have ht := told_c ((y : Nat) : Int) false
   generalize y / 2 ^ n = q at *
   clear hy hz hv
   refine fn_rule (C := ⟨Tryz.prog, layF, Tryz.f132.ntmps, Γ0, 0, [], []⟩) layF_ok mixed Tryz.func132 rfl (by kernel_rfl) rfl rfl rfl ?_
   repeat' (first | refine ex_call ht ?_ | refine (ex_is ((q : Nat) : Int) hs) ?_ | refine (ex_is ((y : Nat) : Int) hz') ?_ | refine qg1 ?_ | refine eD ?_ ?_ <;> intro)
   exact TLe.rfl
end Go.Proofs.YtoingpafcodojaaGreatDoor

namespace Go.Proofs.YtoingpafcodojaaGreatDoor
open Go.RowKit Go.Shelf
attribute [local go_sem] Oper.semAt_some

theorem add64_run (a b : Nat) (ha : a < 18446744073709551616) (hb : b < 18446744073709551616) (w : World) :
  (callFunc 157 #[.int .u64 (a : Int), .int .u64 (b : Int), .int .u64 0]).run Tryz.prog w =
   .ok (.value (.tuple #[.int .u64 (((a + b) % 18446744073709551616 : Nat) : Int), .int .u64 (((a + b) / 18446744073709551616 : Nat) : Int)])) w := by
 have h := run_add64 (P := Tryz.prog) (a : Int) (b : Int) 0 (by omega) (by omega) (by omega) (by omega) w
 rw [run_callFunc_extern Tryz.func157 (by kernel_rfl) (by kernel_rfl) (by kernel_rfl) (e := add64Entry) (by kernel_rfl), h]
 simp only [Result.andThen]
 congr 5 <;> omega
theorem told_in (z : Int) (b : Bool) (w : World) : Calls Tryz.prog 158 #[.int .u64 z, .bool b] w fun e w' => e = .returned (.tuple #[.int .u64 (if b then z else 0), .int .i64 (if b then 0 else 5)]) ∧ Below w.heap.size w w' := by
 refine ((told_c z b).2 (fun _ => False) w [.int .u64 z, .bool b] (fun _ h => h.elim) trivial (.cons (Imm.v rfl) (.cons (Imm.v rfl) .nil))).mono fun e w' ⟨x, S', he, hb, _, _, _, us, hx, hv⟩ => ?_
 subst he
 obtain ⟨u, us, rfl, h1, hv⟩ := hv.cons_left
 obtain ⟨v, rfl, h2⟩ := hv.one_left
 obtain rfl := open_v h1
 obtain rfl := open_v h2
 subst hx
 refine ⟨?_, hb⟩
 cases b <;> rfl
set_option maxHeartbeats 1000000 in
theorem wadd_in (a b : Nat) (ha : a < 18446744073709551616) (hb : b < 18446744073709551616) (w : World) :
  Calls Tryz.prog 127 #[.int .u64 (a : Int), .int .u64 (b : Int)] w fun e w' => e = .returned (.tuple #[.int .u64 ((numW (a + b)).1 : Int), .int .i64 ((numW (a + b)).2 : Int)]) ∧ Below w.heap.size w w' := by
 have hadd := add64_run a b ha hb w
 obtain ⟨q, hq⟩ : ∃ q : Nat, (a + b) / 18446744073709551616 = q := ⟨_, rfl⟩
 obtain ⟨r, hr⟩ : ∃ r : Nat, (a + b) % 18446744073709551616 = r := ⟨_, rfl⟩
 have hq' : ((a : Int) + (b : Int)) / 18446744073709551616 = (q : Int) := by omega
 have hr' : ((a : Int) + (b : Int)) % 18446744073709551616 = (r : Int) := by omega
 refine (callsIn_wide (n := 3)).1 (callsIn_of_wp Tryz.func127 rfl trivial ?_ rfl)
 simp only [Tryz.ntmps127, List.size_toArray, List.length_cons, List.length_nil, Nat.reduceAdd, Nat.reduceSub, Array.replicate_succ, Array.replicate_zero, List.push_toArray, List.append_toArray, List.nil_append, List.cons_append]
 gi_wp2_with (simp only [hadd])
 refine ⟨trivial, ?_⟩
 gi_wp2
 refine ⟨trivial, ?_⟩
 by_cases h : a + b < 18446744073709551616
 ·have h0 : q = 0 := by rw [← hq]; exact Nat.div_eq_of_lt h
  have h1 : r = a + b := by rw [← hr]; exact Nat.mod_eq_of_lt h
  have hb : ((q : Int) == 0) = true := by rw [h0]; rfl
  rw [hb]
  refine (callsIn_wide.2 (told_in _ _ _)).mono ?_
  rintro e w' ⟨rfl, hb'⟩
  gi_wp2
  refine bodyPost_ret (v := .tuple #[.int .u64 (r : Int), .int .i64 0]) (by simp [results, Tryz.results127, go_sem]; omega) rfl ?_
  rw [show numW (a + b) = (a + b, 0) from if_pos h, h1]
  exact ⟨rfl, hb'⟩
 ·have h0 : 0 < q := by rw [← hq]; exact Nat.div_pos (by omega) (by omega)
  have hb : ((q : Int) == 0) = false := by
   rw [beq_eq_false_iff_ne]
   omega
  rw [hb]
  refine (callsIn_wide.2 (told_in _ _ _)).mono ?_
  rintro e w' ⟨rfl, hb'⟩
  gi_wp2
  refine bodyPost_ret (v := .tuple #[.int .u64 0, .int .i64 5]) (by simp [results, Tryz.results127, go_sem]) rfl ?_
  rw [show numW (a + b) = (0, 5) from if_neg h]
  exact ⟨rfl, hb'⟩
theorem wadd_c (a b : Nat) (ha : a < 18446744073709551616) (hb : b < 18446744073709551616) : CallsA Tryz.prog Γ0 127 [c1 (du a), c1 (du b)] (owT (numW (a + b))) :=
 ⟨⟨_, Tryz.func127, by kernel_rfl, rfl⟩, fun S w vs hS hG hvs => by
  obtain ⟨u, v, rfl, e1, e2⟩ := two_args hvs
  obtain rfl := open_v e1
  obtain rfl := open_v e2
  refine (wadd_in a b ha hb w).mono fun e w' ⟨he, hw⟩ => ?_
  subst he
  exact flat_end hS hw ⟨[_, _], rfl, .cons (Imm.v rfl) (.cons (Imm.v rfl) .nil)⟩⟩
theorem ofInt_and (a b : Nat) (ha : a < 18446744073709551616) (hb : b < 18446744073709551616) : IntKind.u64.wrap ((BitVec.ofInt IntKind.u64.bits (a : Int) &&& BitVec.ofInt IntKind.u64.bits (b : Int)).toNat : Int) = ((a &&& b : Nat) : Int) := by
 have h1 : BitVec.ofInt 64 (a : Int) = BitVec.ofNat 64 a := by simp
 have h2 : BitVec.ofInt 64 (b : Int) = BitVec.ofNat 64 b := by simp
 show IntKind.u64.wrap ((BitVec.ofInt 64 (a : Int) &&& BitVec.ofInt 64 (b : Int)).toNat : Int) = _
 rw [h1, h2, BitVec.toNat_and, BitVec.toNat_ofNat, BitVec.toNat_ofNat, Nat.mod_eq_of_lt (by omega), Nat.mod_eq_of_lt (by omega)]
 have : a &&& b ≤ a := Nat.and_le_left
 rw [IntKind.wrap_u64]
 omega
theorem ofInt_or (a b : Nat) (ha : a < 18446744073709551616) (hb : b < 18446744073709551616) : IntKind.u64.wrap ((BitVec.ofInt IntKind.u64.bits (a : Int) ||| BitVec.ofInt IntKind.u64.bits (b : Int)).toNat : Int) = ((a ||| b : Nat) : Int) := by
 have h1 : BitVec.ofInt 64 (a : Int) = BitVec.ofNat 64 a := by simp
 have h2 : BitVec.ofInt 64 (b : Int) = BitVec.ofNat 64 b := by simp
 show IntKind.u64.wrap ((BitVec.ofInt 64 (a : Int) ||| BitVec.ofInt 64 (b : Int)).toNat : Int) = _
 rw [h1, h2, BitVec.toNat_or, BitVec.toNat_ofNat, BitVec.toNat_ofNat, Nat.mod_eq_of_lt (by omega), Nat.mod_eq_of_lt (by omega)]
 have : a ||| b < 2 ^ 64 := Nat.or_lt_two_pow (by omega) (by omega)
 rw [IntKind.wrap_u64]
 omega
theorem bsw {a b : List UInt8} (h : bs a = bs b) : a = b := by
 have := congrArg (fun x : ByteArray => x.data.toList) h
 simpa [bs] using this
def opsL : List (List UInt8) := [[43], [45], [42], [47], [37], [60, 60], [62, 62], [38], [124], [61, 61], [33, 61], [60], [60, 61], [62], [62, 61], [38, 38], [124, 124]]
def cmpL : List (List UInt8) := [[61, 61], [33, 61], [60], [60, 61], [62], [62, 61], [38, 38], [124, 124]]
def cmpW (op : List UInt8) (a b : Nat) : Option Bool :=
 if op = [61, 61] then some (decide (a = b)) else if op = [33, 61] then some (!decide (a = b)) else if op = [60] then some (decide (a < b)) else if op = [60, 61] then some (decide (a ≤ b)) else
 if op = [62] then some (decide (b < a)) else if op = [62, 61] then some (decide (b ≤ a)) else if op = [38, 38] then some (!decide (a = 0) && !decide (b = 0)) else if op = [124, 124] then some (!decide (a = 0) || !decide (b = 0)) else none
def cmpT : Option Bool → TV
 | some b => .tup [c1 (du (yes b).1), c1 (db true)]
 | none => .tup [c1 (du 0), c1 (db false)]
theorem compared_c (op : List UInt8) (a b : Nat) (ha : a < 18446744073709551616) (hb : b < 18446744073709551616) : CallsA Tryz.prog Γ0 134 [c1 (ds (bs op)), c1 (du a), c1 (du b)] (cmpT (cmpW op a b)) := by
 have t1 := wtruth_c true
 have t0 := wtruth_c false
 by_cases hm : op ∈ cmpL
 ·simp only [cmpL, List.mem_cons, List.not_mem_nil, or_false] at hm
  rcases hm with rfl | rfl | rfl | rfl | rfl | rfl | rfl | rfl
  ·by_cases h : a = b
   ·rw [show cmpW [61, 61] a b = some true by simp [cmpW, h]]
    refine fn_rule (C := ⟨Tryz.prog, layF, Tryz.f134.ntmps, Γ0, 0, [], []⟩) layF_ok mixed Tryz.func134 rfl (by kernel_rfl) rfl rfl rfl ?_
    repeat' (first | refine ex_call t1 ?_ | refine qg1 ?_ | refine eD ?_ ?_ <;> intro)
    exact TLe.rfl
   ·rw [show cmpW [61, 61] a b = some false by simp [cmpW, h]]
    refine fn_rule (C := ⟨Tryz.prog, layF, Tryz.f134.ntmps, Γ0, 0, [], []⟩) layF_ok mixed Tryz.func134 rfl (by kernel_rfl) rfl rfl rfl ?_
    repeat' (first | refine ex_call t0 ?_ | refine qg1 ?_ | refine eD ?_ ?_ <;> intro)
    exact TLe.rfl
  ·by_cases h : a = b
   ·rw [show cmpW [33, 61] a b = some false by simp [cmpW, h]]
    refine fn_rule (C := ⟨Tryz.prog, layF, Tryz.f134.ntmps, Γ0, 0, [], []⟩) layF_ok mixed Tryz.func134 rfl (by kernel_rfl) rfl rfl rfl ?_
    repeat' (first | refine ex_call t0 ?_ | refine qg1 ?_ | refine eD ?_ ?_ <;> intro)
    exact TLe.rfl
   ·rw [show cmpW [33, 61] a b = some true by simp [cmpW, h]]
    refine fn_rule (C := ⟨Tryz.prog, layF, Tryz.f134.ntmps, Γ0, 0, [], []⟩) layF_ok mixed Tryz.func134 rfl (by kernel_rfl) rfl rfl rfl ?_
    repeat' (first | refine ex_call t1 ?_ | refine qg1 ?_ | refine eD ?_ ?_ <;> intro)
    exact TLe.rfl
  ·by_cases h : a < b
   ·rw [show cmpW [60] a b = some true by simp [cmpW, h]]
    refine fn_rule (C := ⟨Tryz.prog, layF, Tryz.f134.ntmps, Γ0, 0, [], []⟩) layF_ok mixed Tryz.func134 rfl (by kernel_rfl) rfl rfl rfl ?_
    repeat' (first | refine ex_call t1 ?_ | refine qg1 ?_ | refine eD ?_ ?_ <;> intro)
    exact TLe.rfl
   ·rw [show cmpW [60] a b = some false by simp [cmpW, h]]
    refine fn_rule (C := ⟨Tryz.prog, layF, Tryz.f134.ntmps, Γ0, 0, [], []⟩) layF_ok mixed Tryz.func134 rfl (by kernel_rfl) rfl rfl rfl ?_
    repeat' (first | refine ex_call t0 ?_ | refine qg1 ?_ | refine eD ?_ ?_ <;> intro)
    exact TLe.rfl
  ·by_cases h : a ≤ b
   ·rw [show cmpW [60, 61] a b = some true by simp [cmpW, h]]
    refine fn_rule (C := ⟨Tryz.prog, layF, Tryz.f134.ntmps, Γ0, 0, [], []⟩) layF_ok mixed Tryz.func134 rfl (by kernel_rfl) rfl rfl rfl ?_
    repeat' (first | refine ex_call t1 ?_ | refine qg1 ?_ | refine eD ?_ ?_ <;> intro)
    exact TLe.rfl
   ·rw [show cmpW [60, 61] a b = some false by simp [cmpW, h]]
    refine fn_rule (C := ⟨Tryz.prog, layF, Tryz.f134.ntmps, Γ0, 0, [], []⟩) layF_ok mixed Tryz.func134 rfl (by kernel_rfl) rfl rfl rfl ?_
    repeat' (first | refine ex_call t0 ?_ | refine qg1 ?_ | refine eD ?_ ?_ <;> intro)
    exact TLe.rfl
  ·by_cases h : b < a
   ·rw [show cmpW [62] a b = some true by simp [cmpW, h]]
    refine fn_rule (C := ⟨Tryz.prog, layF, Tryz.f134.ntmps, Γ0, 0, [], []⟩) layF_ok mixed Tryz.func134 rfl (by kernel_rfl) rfl rfl rfl ?_
    repeat' (first | refine ex_call t1 ?_ | refine qg1 ?_ | refine eD ?_ ?_ <;> intro)
    exact TLe.rfl
   ·rw [show cmpW [62] a b = some false by simp [cmpW, h]]
    refine fn_rule (C := ⟨Tryz.prog, layF, Tryz.f134.ntmps, Γ0, 0, [], []⟩) layF_ok mixed Tryz.func134 rfl (by kernel_rfl) rfl rfl rfl ?_
    repeat' (first | refine ex_call t0 ?_ | refine qg1 ?_ | refine eD ?_ ?_ <;> intro)
    exact TLe.rfl
  ·by_cases h : b ≤ a
   ·rw [show cmpW [62, 61] a b = some true by simp [cmpW, h]]
    refine fn_rule (C := ⟨Tryz.prog, layF, Tryz.f134.ntmps, Γ0, 0, [], []⟩) layF_ok mixed Tryz.func134 rfl (by kernel_rfl) rfl rfl rfl ?_
    repeat' (first | refine ex_call t1 ?_ | refine qg1 ?_ | refine eD ?_ ?_ <;> intro)
    exact TLe.rfl
   ·rw [show cmpW [62, 61] a b = some false by simp [cmpW, h]]
    refine fn_rule (C := ⟨Tryz.prog, layF, Tryz.f134.ntmps, Γ0, 0, [], []⟩) layF_ok mixed Tryz.func134 rfl (by kernel_rfl) rfl rfl rfl ?_
    repeat' (first | refine ex_call t0 ?_ | refine qg1 ?_ | refine eD ?_ ?_ <;> intro)
    exact TLe.rfl
  ·by_cases h : a = 0
   ·rw [show cmpW [38, 38] a b = some false by simp [cmpW, h]]
    refine fn_rule (C := ⟨Tryz.prog, layF, Tryz.f134.ntmps, Γ0, 0, [], []⟩) layF_ok mixed Tryz.func134 rfl (by kernel_rfl) rfl rfl rfl ?_
    repeat' (first | refine ex_call t0 ?_ | refine qg1 ?_ | refine eD ?_ ?_ <;> intro)
    exact TLe.rfl
   ·by_cases h2 : b = 0
    ·rw [show cmpW [38, 38] a b = some false by simp [cmpW, h2]]
     refine fn_rule (C := ⟨Tryz.prog, layF, Tryz.f134.ntmps, Γ0, 0, [], []⟩) layF_ok mixed Tryz.func134 rfl (by kernel_rfl) rfl rfl rfl ?_
     repeat' (first | refine ex_call t0 ?_ | refine qg1 ?_ | refine eD ?_ ?_ <;> intro)
     exact TLe.rfl
    ·rw [show cmpW [38, 38] a b = some true by simp [cmpW, h, h2]]
     refine fn_rule (C := ⟨Tryz.prog, layF, Tryz.f134.ntmps, Γ0, 0, [], []⟩) layF_ok mixed Tryz.func134 rfl (by kernel_rfl) rfl rfl rfl ?_
     repeat' (first | refine ex_call t1 ?_ | refine qg1 ?_ | refine eD ?_ ?_ <;> intro)
     exact TLe.rfl
  ·by_cases h : a = 0
   ·by_cases h2 : b = 0
    ·rw [show cmpW [124, 124] a b = some false by simp [cmpW, h, h2]]
     refine fn_rule (C := ⟨Tryz.prog, layF, Tryz.f134.ntmps, Γ0, 0, [], []⟩) layF_ok mixed Tryz.func134 rfl (by kernel_rfl) rfl rfl rfl ?_
     repeat' (first | refine ex_call t0 ?_ | refine qg1 ?_ | refine eD ?_ ?_ <;> intro)
     exact TLe.rfl
    ·rw [show cmpW [124, 124] a b = some true by simp [cmpW, h2]]
     refine fn_rule (C := ⟨Tryz.prog, layF, Tryz.f134.ntmps, Γ0, 0, [], []⟩) layF_ok mixed Tryz.func134 rfl (by kernel_rfl) rfl rfl rfl ?_
     repeat' (first | refine ex_call t1 ?_ | refine qg1 ?_ | refine eD ?_ ?_ <;> intro)
     exact TLe.rfl
   ·rw [show cmpW [124, 124] a b = some true by simp [cmpW, h]]
    refine fn_rule (C := ⟨Tryz.prog, layF, Tryz.f134.ntmps, Γ0, 0, [], []⟩) layF_ok mixed Tryz.func134 rfl (by kernel_rfl) rfl rfl rfl ?_
    repeat' (first | refine ex_call t1 ?_ | refine qg1 ?_ | refine eD ?_ ?_ <;> intro)
    exact TLe.rfl
 ·have hne : ∀ l, l ∈ cmpL → ¬ bs op = bs l := fun l hl he => hm (by rw [bsw he]; exact hl)
  have h0 : cmpW op a b = none := by
   simp only [cmpL, List.mem_cons, List.not_mem_nil, or_false, not_or] at hm
   obtain ⟨h1, h2, h3, h4, h5, h6, h7, h8⟩ := hm
   simp [cmpW, h1, h2, h3, h4, h5, h6, h7, h8]
  rw [h0]
  refine fn_rule (C := ⟨Tryz.prog, layF, Tryz.f134.ntmps, Γ0, 0, [], []⟩) layF_ok mixed Tryz.func134 rfl (by kernel_rfl) rfl rfl rfl ?_
  repeat' (first | refine ex_false (hne _ (by decide)) ?_ | refine qg1 ?_ | refine eD ?_ ?_ <;> intro)
  exact TLe.rfl
set_option maxHeartbeats 2000000 in
theorem wop_c (op : List UInt8) (a b : Nat) (ha : a < 18446744073709551616) (hb : b < 18446744073709551616) : CallsA Tryz.prog Γ0 98 [c1 (ds (bs op)), c1 (du a), c1 (du b)] (owT (opW op a b)) := by
 have hcmp := compared_c op a b ha hb
 by_cases hm : op ∈ opsL.take 9
 ·simp only [opsL, List.take_succ_cons, List.take_zero, List.mem_cons, List.not_mem_nil, or_false] at hm
  rcases hm with rfl | rfl | rfl | rfl | rfl | rfl | rfl | rfl | rfl
  ·have h := wadd_c a b ha hb
   rw [show opW [43] a b = numW (a + b) by simp [opW]]
   generalize numW (a + b) = p at *
   refine fn_rule (C := ⟨Tryz.prog, layF, Tryz.f98.ntmps, Γ0, 0, [], []⟩) layF_ok mixed Tryz.func98 rfl (by kernel_rfl) rfl rfl rfl ?_
   repeat' (first | refine ex_call h ?_ | refine qg1 ?_ | refine eD ?_ ?_ <;> intro)
   exact TLe.rfl
  ·have h := wsub_c a b ha hb
   rw [show opW [45] a b = subW a b by simp [opW]]
   generalize subW a b = p at *
   refine fn_rule (C := ⟨Tryz.prog, layF, Tryz.f98.ntmps, Γ0, 0, [], []⟩) layF_ok mixed Tryz.func98 rfl (by kernel_rfl) rfl rfl rfl ?_
   repeat' (first | refine ex_call h ?_ | refine qg1 ?_ | refine eD ?_ ?_ <;> intro)
   exact TLe.rfl
  ·have h := wmul_c a b ha hb
   rw [show opW [42] a b = numW (a * b) by simp [opW]]
   generalize numW (a * b) = p at *
   refine fn_rule (C := ⟨Tryz.prog, layF, Tryz.f98.ntmps, Γ0, 0, [], []⟩) layF_ok mixed Tryz.func98 rfl (by kernel_rfl) rfl rfl rfl ?_
   repeat' (first | refine ex_call h ?_ | refine qg1 ?_ | refine eD ?_ ?_ <;> intro)
   exact TLe.rfl
  ·have h := wdiv_c a b ha hb
   rw [show opW [47] a b = divW a b by simp [opW]]
   generalize divW a b = p at *
   refine fn_rule (C := ⟨Tryz.prog, layF, Tryz.f98.ntmps, Γ0, 0, [], []⟩) layF_ok mixed Tryz.func98 rfl (by kernel_rfl) rfl rfl rfl ?_
   repeat' (first | refine ex_call h ?_ | refine qg1 ?_ | refine eD ?_ ?_ <;> intro)
   exact TLe.rfl
  ·have h := wmod_c a b ha hb
   rw [show opW [37] a b = remW a b by simp [opW]]
   generalize remW a b = p at *
   refine fn_rule (C := ⟨Tryz.prog, layF, Tryz.f98.ntmps, Γ0, 0, [], []⟩) layF_ok mixed Tryz.func98 rfl (by kernel_rfl) rfl rfl rfl ?_
   repeat' (first | refine ex_call h ?_ | refine qg1 ?_ | refine eD ?_ ?_ <;> intro)
   exact TLe.rfl
  ·have h := wshl_c a b ha hb
   rw [show opW [60, 60] a b = shlW a b by simp [opW]]
   generalize shlW a b = p at *
   refine fn_rule (C := ⟨Tryz.prog, layF, Tryz.f98.ntmps, Γ0, 0, [], []⟩) layF_ok mixed Tryz.func98 rfl (by kernel_rfl) rfl rfl rfl ?_
   repeat' (first | refine ex_call h ?_ | refine qg1 ?_ | refine eD ?_ ?_ <;> intro)
   exact TLe.rfl
  ·have h := wshr_c a b ha hb
   rw [show opW [62, 62] a b = shrW a b by simp [opW]]
   generalize shrW a b = p at *
   refine fn_rule (C := ⟨Tryz.prog, layF, Tryz.f98.ntmps, Γ0, 0, [], []⟩) layF_ok mixed Tryz.func98 rfl (by kernel_rfl) rfl rfl rfl ?_
   repeat' (first | refine ex_call h ?_ | refine qg1 ?_ | refine eD ?_ ?_ <;> intro)
   exact TLe.rfl
  ·have h := ofInt_and a b ha hb
   rw [show opW [38] a b = (a &&& b, 0) by simp [opW]]
   generalize a &&& b = c at *
   refine fn_rule (C := ⟨Tryz.prog, layF, Tryz.f98.ntmps, Γ0, 0, [], []⟩) layF_ok mixed Tryz.func98 rfl (by kernel_rfl) rfl rfl rfl ?_
   repeat' (first | refine (ex_is ((c : Nat) : Int) h) ?_ | refine qg1 ?_ | refine eD ?_ ?_ <;> intro)
   exact TLe.rfl
  ·have h := ofInt_or a b ha hb
   rw [show opW [124] a b = (a ||| b, 0) by simp [opW]]
   generalize a ||| b = c at *
   refine fn_rule (C := ⟨Tryz.prog, layF, Tryz.f98.ntmps, Γ0, 0, [], []⟩) layF_ok mixed Tryz.func98 rfl (by kernel_rfl) rfl rfl rfl ?_
   repeat' (first | refine (ex_is ((c : Nat) : Int) h) ?_ | refine qg1 ?_ | refine eD ?_ ?_ <;> intro)
   exact TLe.rfl
 ·have hne : ∀ l, l ∈ opsL.take 9 → ¬ bs op = bs l := fun l hl he => hm (by rw [bsw he]; exact hl)
  have h0 : opW op a b = match cmpW op a b with | some c => yes c | none => (0, 4) := by
   simp only [opsL, List.take_succ_cons, List.take_zero, List.mem_cons, List.not_mem_nil, or_false, not_or] at hm
   obtain ⟨h1, h2, h3, h4, h5, h6, h7, h8, h9⟩ := hm
   have hch : ∀ (r : List UInt8 × Bool) (o : Option Bool) (z : Nat × Nat), z = (match o with | some c => yes c | none => (0, 4)) → (if op = r.1 then yes r.2 else z) = match (if op = r.1 then some r.2 else o) with | some c => yes c | none => (0, 4) := fun r o z hz => by
    by_cases hr : op = r.1
    ·rw [if_pos hr, if_pos hr]
    ·rw [if_neg hr, if_neg hr, hz]
   unfold opW cmpW
   rw [if_neg h1, if_neg h2, if_neg h3, if_neg h4, if_neg h5, if_neg h6, if_neg h7, if_neg h8, if_neg h9]
   exact hch ([61, 61], decide (a = b)) _ _ (hch ([33, 61], !decide (a = b)) _ _ (hch ([60], decide (a < b)) _ _ (hch ([60, 61], decide (a ≤ b)) _ _ (hch ([62], decide (b < a)) _ _ (hch ([62, 61], decide (b ≤ a)) _ _ (hch ([38, 38], !decide (a = 0) && !decide (b = 0)) _ _ (hch ([124, 124], !decide (a = 0) || !decide (b = 0)) none (0, 4) rfl)))))))
  rw [h0]
  cases hc : cmpW op a b with
  | some c =>
   rw [hc] at hcmp
   have hcmp : CallsA Tryz.prog Γ0 134 [c1 (ds (bs op)), c1 (du a), c1 (du b)] (.tup [c1 (du (yes c).1), c1 (db true)]) := hcmp
   refine fn_rule (C := ⟨Tryz.prog, layF, Tryz.f98.ntmps, Γ0, 0, [], []⟩) layF_ok mixed Tryz.func98 rfl (by kernel_rfl) rfl rfl rfl ?_
   repeat' (first | refine ex_call hcmp ?_ | refine ex_false (hne _ (by decide)) ?_ | refine qg1 ?_ | refine eD ?_ ?_ <;> intro)
   exact TLe.rfl
  | none =>
   rw [hc] at hcmp
   have hcmp : CallsA Tryz.prog Γ0 134 [c1 (ds (bs op)), c1 (du a), c1 (du b)] (.tup [c1 (du 0), c1 (db false)]) := hcmp
   refine fn_rule (C := ⟨Tryz.prog, layF, Tryz.f98.ntmps, Γ0, 0, [], []⟩) layF_ok mixed Tryz.func98 rfl (by kernel_rfl) rfl rfl rfl ?_
   repeat' (first | refine ex_call hcmp ?_ | refine ex_false (hne _ (by decide)) ?_ | refine qg1 ?_ | refine eD ?_ ?_ <;> intro)
   exact TLe.rfl
end Go.Proofs.YtoingpafcodojaaGreatDoor

namespace Go.Proofs.YtoingpafcodojaaGreatDoor
open Go.RowKit

theorem SLe.kill {nx0 : Nat} {tm : List (Nat × TV)} {mem : List (Nat × Blk)} {nx nx' : Nat} {t : St} (k : Nat) (h : SLe nx0 ⟨tm, mem, nx⟩ t) : SLe nx0 ⟨tm, (k, .dead) :: mem, nx'⟩ t := fun E a w he hR => by
 obtain ⟨ι, S, I⟩ := h E a w he hR
 have hcase : ∀ n b, findL ((k, Blk.dead) :: mem) n = some b → b.live = true → findL mem n = some b := fun n b hb hl => by
  simp only [findL] at hb
  split at hb
  ·cases hb; cases hl
  ·exact hb
 refine ⟨ι, S, I.os, I.tape, I.output, I.size, I.old, I.slt, I.s0, I.sg, I.tms, fun n b hb => ?_, fun n b hb hl => I.mutb n b (hcase n b hb hl) hl, fun n n' b b' g hb hb' hl hl' => I.dst n n' b b' g (hcase n b hb hl) (hcase n' b' hb' hl') hl hl', I.dn, I.sz, I.gl, I.ik⟩
 cases hl : b.live with
 | true => exact I.blk n b (hcase n b hb hl)
 | false => cases b <;> first | trivial | cases hl
end Go.Proofs.YtoingpafcodojaaGreatDoor

namespace Go.Proofs.YtoingpafcodojaaGreatDoor
open Go.RowKit

def deadM (ns : List Nat) : List (Nat × Blk) := ns.map fun k => (k, .dead)
def fnQP (L : Nat → Option Lay) (rs : List ResultVar) (ns : List Nat) (nx : Nat) (r : TV) (upd : List (Nat × Blk)) (new : List Blk) : Exit → St → Prop
 | .normal, st | .ret, st => retOkM L rs ns nx r upd new st
 | .panic ch, _ => panIs r ch ∧ upd = deadM ns ∧ new = []
 | _, _ => False
theorem SLe.rfl {nx0 : Nat} {s : St} : SLe nx0 s s := fun _ _ _ _ h => h
theorem fn_ruleP {C : Ctx} {f : FuncId} {fn : Func} {c : Code} (hL : LOk C.P C.L) (hm : C.P.follows .mixedOrders = true) (hf : C.P.funcs[f]? = some fn) (hb : fn.body = some c) (hname : (fn.name == "runtime.NumGoroutine") = false)
  (hn : fn.ntmps = C.n) {xs : List T1} (hx : Nat.ble xs.length C.n = true) {m : List (Nat × Blk)} (hml : (m.all fun p => Nat.blt p.1 C.nx0) = true) {r : TV} {upd : List (Nat × Blk)} {new : List Blk} {st0 : St} (h0 : SLe C.nx0 st0 ⟨argTm 0 xs, m, C.nx0⟩)
  (h : vc C c st0 (fnQP C.L fn.results.toList (m.map (·.1)) C.nx0 r upd new)) : CallsM C.P C.Γ f m C.nx0 xs r upd new := by
 refine ⟨⟨fn, hf, hname, by rw [hb]; rfl⟩, fun ι S w vs hS hG hblk hdst hvs => ?_⟩
 have hxl := Nat.le_of_ble_eq_true hx
 have hlen := hvs.len
 have hmlt : ∀ p ∈ m, p.1 < C.nx0 := fun p hp => Nat.lt_of_succ_le (Nat.le_of_ble_eq_true (List.all_eq_true.1 hml p hp))
 refine calls_of_wp hf hb ?_
 have hR : RS ⟨w, fun g => ∃ p ∈ m, p.2.live = true ∧ blkOf (ι p.1) = some g, S, C.n, C.Γ, ι, C.nx0, []⟩ ⟨argTm 0 xs, m, C.nx0⟩ { tmps := vs.toArray ++ Array.replicate (fn.ntmps - vs.toArray.size) undef, defers := [] } w := by
  refine ⟨ι, S, rfl, rfl, rfl, Nat.le_refl _, fun _ _ _ => rfl, hS, fun _ h => h, fun _ h => .inl h, fun t tv ht => ?_, fun k b hk => hblk _ (findL_mem hk), fun k b hk hl g hg => .inl ⟨(k, b), findL_mem hk, hl, hg⟩, fun k k' b b' g hk hk' hl hl' hg hg' => hdst _ (findL_mem hk) _ (findL_mem hk') g hl hl' hg hg', rfl, ?_, hG, fun _ _ => rfl⟩
  ·obtain ⟨x, rfl, _, hx⟩ := argTm_find xs 0 t tv ht
   rw [Nat.sub_zero] at hx
   obtain ⟨u, hu, hv⟩ := hvs.at_left hx
   have hlt := (List.getElem?_eq_some_iff.1 hu).1
   have : (vs.toArray ++ Array.replicate (fn.ntmps - vs.toArray.size) undef).getD t undef = u := by
    simp [Array.getElem?_append, hlt, hu]
    have h2 := (List.getElem?_eq_some_iff.1 hu).2
    exact h2
   show V ι S w (.o x) _
   dsimp only
   rw [this]
   exact hv
  ·simp; omega
 refine Code.wp_mono (fun e a w' hq => ?_) (vc_ok hL ⟨rfl, rfl, rfl⟩ hm c _ _ _ w h (h0 _ _ _ rfl hR))
 obtain ⟨st, hR', hq⟩ := hq
 have core := core_after (C := C) (m := m) (upd := upd) (new := new) (ι := ι) (S := S) (w := w) (w' := w') (st := st) (a := a) (dd := []) (en := C.n) hmlt
 have key : retOkM C.L fn.results.toList (m.map (·.1)) C.nx0 r upd new st → a.defers = [] ∧ ∃ v, (results fn a.tmps).run C.P w' = .ok v w' ∧ ((∃ x ι' S', Ending.returned v = .returned x ∧ After ι S w C.nx0 ⟨r, m.map (·.1), upd, new⟩ x ι' S' w') ∨ ∃ v0 ι' S', r = .pan v0 ∧ Ending.returned v = .panicked (panE v0) ∧ After ι S w C.nx0 ⟨.und, m.map (·.1), upd, new⟩ undef ι' S' w') := fun hret => by
  obtain ⟨ι1, S1, I⟩ := hR'
  unfold retOkM at hret
  split at hret
  ·rename_i ys ks u n src hy hex
   obtain ⟨hchk, hr, hu, hnw⟩ := hret
   obtain ⟨v, hres, hrows, hval⟩ := results_ok hL I hy
   obtain ⟨ι', S', A⟩ := core ι1 S1 r v ks u n src I hex hchk hu hnw hrows (fun ι' => hr _ _ _ _ (hval ι'))
   exact ⟨I.dn, v, hres, .inl ⟨v, ι', S', rfl, A⟩⟩
  ·exact hret.elim
 cases e with
 | normal => exact key hq
 | ret => exact key hq
 | panic ch =>
  obtain ⟨⟨v0, hr0, rfl⟩, hu, hnw⟩ := hq
  obtain ⟨ι1, S1, I⟩ := hR'
  refine ⟨I.dn, .inr ⟨v0, ι, S, hr0, rfl, rfl, fun _ _ => rfl, fun _ h => h, fun _ h => .inl h, fun b hb => Nat.lt_of_lt_of_le (hS b hb) I.size, I.os, I.tape, I.output, I.size, fun b hb hne => I.old b hb fun ⟨p, hp, _, hg⟩ => ?_, fun k b hk => ?_, fun i b hb => ?_, fun i b hb => ?_, fun i j b b' g hb => ?_⟩⟩
  ·refine hne p.1 ?_ hg
   rw [hu]
   simp only [deadM, List.map_map, List.mem_map]
   exact ⟨p, hp, rfl⟩
  ·have hk : (k, b) ∈ upd := hk
   rw [hu] at hk
   simp only [deadM, List.mem_map] at hk
   obtain ⟨_, _, he⟩ := hk
   cases he
   trivial
  ·have hb : new[i]? = some b := hb
   rw [hnw] at hb; simp at hb
  ·have hb : new[i]? = some b := hb
   rw [hnw] at hb; simp at hb
  ·have hb : new[i]? = some b := hb
   rw [hnw] at hb; simp at hb
 | _ => exact hq.elim
def T1Le (x y : T1) : Prop := ∀ (ι : Nat → Value) (S : Nat → Prop) (w : World) (v : Value), V1 ι S w x v → V1 ι S w y v
theorem T1Le.rfl {x : T1} : T1Le x x := fun _ _ _ _ h => h
theorem T1Le.g {l m : List D} (h : All2 DLe l m) : T1Le (gD l) (gD m) := fun ι S w v ⟨us, hu, hv⟩ => by
 refine ⟨us, hu, ?_⟩
 have hl : l.length = us.length := by have := hv.len; rwa [List.length_map] at this
 refine ⟨by rw [List.length_map, ← h.len]; exact hl, fun i a u ha hu' => ?_⟩
 rw [List.getElem?_map] at ha
 obtain ⟨d', hd', rfl⟩ := Option.map_eq_some_iff.1 ha
 obtain ⟨d, hd, hdd⟩ := h.at_right hd'
 have : VC ι S w (.d d) u := hv.get i _ u (by rw [List.getElem?_map, hd]; rfl) hu'
 exact hdd S w u this
theorem TLe.o {x y : T1} (h : T1Le x y) : TLe (.o x) (.o y) := h
theorem CallsM.argsLe {P : Program} {Γ : Glob} {f : FuncId} {m : List (Nat × Blk)} {nx : Nat} {xs ys : List T1} {r : TV} {upd : List (Nat × Blk)} {new : List Blk} (h : CallsM P Γ f m nx ys r upd new) (hx : All2 T1Le xs ys) : CallsM P Γ f m nx xs r upd new :=
 ⟨h.1, fun ι S w vs hS hG hb hd hv => h.2 ι S w vs hS hG hb hd ⟨by rw [← hx.len]; exact hv.len, fun i a u ha hu => by
  obtain ⟨x, hx', hxx⟩ := hx.at_right ha
  exact hxx ι S w u (hv.get i _ u hx' hu)⟩⟩
end Go.Proofs.YtoingpafcodojaaGreatDoor

namespace Go.Proofs.YtoingpafcodojaaGreatDoor

def TokOk (L : List TokP) : Prop := 0 < L.length ∧ ∀ i, i + 1 = L.length → (tk L i).k = 3
structure SOk (L : List TokP) (c : Nat) (s : PS) : Prop where
 i : s.i < L.length
 x : s.xs.length + c ≤ s.i
 t : s.ts.length + c ≤ s.i
def Up (L : List TokP) {α : Type} (x : PM α) (a b : Nat) : Prop := ∀ s c, SOk L (c + a) s → match x s with
 | .ok _ s' => SOk L (c + b) s' ∧ s.i ≤ s'.i
 | .err i e => s.i ≤ i ∧ i < L.length ∧ 0 < e ∧ e ≤ 10
section
variable {L : List TokP}
theorem SOk.less {c d : Nat} {s : PS} (h : SOk L c s) (hd : d ≤ c) : SOk L d s := ⟨h.i, by have := h.x; omega, by have := h.t; omega⟩
theorem Up.and {α β : Type} {x : PM α} {f : α → PM β} {a b c : Nat} (hx : Up L x a b) (hf : ∀ v, Up L (f v) b c) : Up L (x >>= f) a c := fun s d h => by
 have h1 := hx s d h
 show match PM.and x f s with
  | .ok _ s' => SOk L (d + c) s' ∧ s.i ≤ s'.i
  | .err i e => s.i ≤ i ∧ i < L.length ∧ 0 < e ∧ e ≤ 10
 unfold PM.and
 revert h1
 cases x s with
 | err i e => exact id
 | ok v s1 =>
  rintro ⟨h1, h2⟩
  have h3 := hf v s1 d h1
  revert h3
  dsimp only
  cases f v s1 with
  | err i e => rintro ⟨h3, h4⟩; exact ⟨by omega, h4⟩
  | ok w s2 => rintro ⟨h3, h4⟩; exact ⟨h3, by omega⟩
theorem Up.pure {α : Type} (v : α) (a : Nat) : Up L (pure v) a a := fun _ _ h => ⟨h, Nat.le_refl _⟩
theorem Up.less {α : Type} {x : PM α} {a b : Nat} (h : Up L x a b) {a' b' : Nat} (n : Nat) (ha : a + n ≤ a') (hb : b' ≤ b + n) : Up L x a' b' := fun s c hs => by
 have h1 := h s (c + n) (hs.less (by omega))
 revert h1
 cases x s with
 | err i e => exact id
 | ok v s1 => rintro ⟨h1, h2⟩; exact ⟨h1.less (by omega), h2⟩
theorem Up.fail {α : Type} {e : Nat} (h0 : 0 < e) (h1 : e ≤ 10) (a b : Nat) : Up L (failM e : PM α) a b := fun _ _ h => ⟨Nat.le_refl _, h.i, h0, h1⟩
theorem Up.look {α : Type} {f : PS → PM α} {a b : Nat} (h : ∀ s, Up L (f s) a b) : Up L (fun s => f s s) a b := fun s c hs => h s s c hs
theorem Up.at {α : Type} {p : Nat → Bool} {x y : PM α} {a b : Nat} (hx : Up L x a b) (hy : Up L y a b) : Up L (atM p x y) a b := fun s c hs => by
 unfold atM
 by_cases h : p s.i = true
 ·rw [if_pos h]; exact hx s c hs
 ·rw [if_neg h]; exact hy s c hs
theorem stepP_ok (hL : TokOk L) {s : PS} {c : Nat} (h : SOk L c s) (hk : (tk L s.i).k ≠ 3) : SOk L (c + 1) { s with i := s.i + 1 } := by
 have h1 := h.x
 have h2 := h.t
 have h3 := h.i
 have h4 := hL.2 s.i
 exact ⟨by show s.i + 1 < _; by_cases he : s.i + 1 = L.length; exact absurd (h4 he) hk; omega, by show s.xs.length + (c + 1) ≤ s.i + 1; omega, by show s.ts.length + (c + 1) ≤ s.i + 1; omega⟩
theorem Up.step {α : Type} (hL : TokOk L) {p : Nat → Bool} {f : Unit → PM α} {y : PM α} {a b : Nat} (hp : ∀ i, p i = true → (tk L i).k ≠ 3) (hx : Up L (f ()) (a + 1) b) (hy : Up L y a b) : Up L (atM p (stepM >>= f) y) a b := fun s c hs => by
 unfold atM
 by_cases h : p s.i = true
 ·rw [if_pos h]
  have := hx { s with i := s.i + 1 } c (stepP_ok hL hs (hp _ h))
  show match f () { s with i := s.i + 1 } with
   | .ok _ s' => SOk L (c + b) s' ∧ s.i ≤ s'.i
   | .err i e => s.i ≤ i ∧ i < L.length ∧ 0 < e ∧ e ≤ 10
  revert this
  cases f () { s with i := s.i + 1 } with
  | err i e => rintro ⟨h3, h4⟩; exact ⟨Nat.le_of_succ_le h3, h4⟩
  | ok w s2 => rintro ⟨h3, h4⟩; exact ⟨h3, Nat.le_of_succ_le h4⟩
 ·rw [if_neg h]; exact hy s c hs
theorem isV_k {i : Nat} {t : List UInt8} (h : isV L i t = true) : (tk L i).k ≠ 3 := by
 unfold isV at h
 rw [Bool.and_eq_true] at h
 simpa using h.1
theorem namedV_k {i : Nat} (h : namedV L i = true) : (tk L i).k ≠ 3 := by
 unfold namedV at h
 rw [Bool.and_eq_true] at h
 have := of_decide_eq_true h.1
 omega
theorem startsV_k {i : Nat} (h : startsV L i = true) : (tk L i).k ≠ 3 := by
 unfold startsV at h
 rw [Bool.or_eq_true] at h
 rcases h with h | h
 ·exact namedV_k h
 ·rw [Bool.and_eq_true] at h
  have := of_decide_eq_true h.1
  omega
theorem Up.take (hL : TokOk L) (t : List UInt8) (a : Nat) : Up L (takeM L t) a (a + 1) := fun s c hs => by
 unfold takeM
 by_cases h : isV L s.i t = true
 ·rw [if_pos h]; exact ⟨stepP_ok hL hs (isV_k h), Nat.le_succ _⟩
 ·rw [if_neg h]; exact ⟨Nat.le_refl _, hs.i, by decide, by decide⟩
theorem Up.name (hL : TokOk L) (a : Nat) : Up L (nameM L) a (a + 1) := fun s c hs => by
 unfold nameM
 by_cases h : namedV L s.i = true
 ·rw [if_pos h]; exact ⟨stepP_ok hL hs (namedV_k h), Nat.le_succ _⟩
 ·rw [if_neg h]; exact ⟨Nat.le_refl _, hs.i, by decide, by decide⟩
theorem Up.number (hL : TokOk L) (a : Nat) : Up L (numberM L) a (a + 1) := fun s c hs => by
 unfold numberM
 by_cases h : (tk L s.i).k = 1
 ·rw [if_pos h]; exact ⟨stepP_ok hL hs (by omega), Nat.le_succ _⟩
 ·rw [if_neg h]; exact ⟨Nat.le_refl _, hs.i, by decide, by decide⟩
theorem Up.room (n a : Nat) : Up L (roomM n) a a := fun s c hs => by
 unfold roomM
 by_cases h : 64 ≤ n
 ·rw [if_pos h]; exact ⟨Nat.le_refl _, hs.i, by decide, by decide⟩
 ·rw [if_neg h]; exact ⟨hs, Nat.le_refl _⟩
theorem Up.enter (m : Nat) (b : Bool) (a : Nat) : Up L (enterM m b) a a := fun s c hs => by
 unfold enterM
 by_cases h : b = false
 ·rw [if_pos h]; exact ⟨Nat.le_refl _, hs.i, by decide, by decide⟩
 ·rw [if_neg h]
  by_cases h2 : m = 0
  ·rw [if_pos h2]; exact ⟨Nat.le_refl _, hs.i, by decide, by decide⟩
  ·rw [if_neg h2]; exact ⟨hs, Nat.le_refl _⟩
theorem Up.put (x : EX) (a : Nat) : Up L (putM x) (a + 1) a := fun s c hs =>
 ⟨⟨hs.i, by have := hs.x; show (s.xs ++ [x]).length + _ ≤ s.i; rw [List.length_append, List.length_singleton]; omega, by have := hs.t; show s.ts.length + _ ≤ s.i; omega⟩, Nat.le_refl _⟩
theorem Up.lay (x : TY) (a : Nat) : Up L (layM x) (a + 1) a := fun s c hs =>
 ⟨⟨hs.i, by have := hs.x; show s.xs.length + _ ≤ s.i; omega, by have := hs.t; show (s.ts ++ [x]).length + _ ≤ s.i; rw [List.length_append, List.length_singleton]; omega⟩, Nat.le_refl _⟩
theorem Up.roomIf (p : Nat → Bool) (n a : Nat) : Up L (fun s => if p s.i = true then roomM n s else .ok () s) a a := fun s c hs => by
 dsimp only
 by_cases h : p s.i = true
 ·rw [if_pos h]; exact Up.room n a s c hs
 ·rw [if_neg h]; exact ⟨hs, Nat.le_refl _⟩
theorem Up.roomStep {α : Type} (hL : TokOk L) {p : Nat → Bool} {n : Nat} {f : Unit → PM α} {y : PM α} {a b : Nat} (hp : ∀ i, p i = true → (tk L i).k ≠ 3) (hx : Up L (f ()) (a + 1) b) (hy : Up L y a b) : Up L (atM p (roomM n >>= fun _ => stepM >>= f) y) a b := fun s c hs => by
 have h1 := Up.step hL hp hx hy s c hs
 unfold atM at h1 ⊢
 by_cases h : p s.i = true
 ·rw [if_pos h] at h1 ⊢
  by_cases hr : 64 ≤ n
  ·rw [and_err (i := s.i) (e := 10) (by unfold roomM; rw [if_pos hr]; rfl)]
   exact ⟨Nat.le_refl _, hs.i, by decide, by decide⟩
  ·rw [and_ok (s' := s) (v := ()) (by unfold roomM; rw [if_neg hr])]
   exact h1
 ·rw [if_neg h] at h1 ⊢
  exact h1
theorem up_un (hL : TokOk L) (m : Nat) {un ex : PM Int} (h1 : Up L un 0 0) (h2 : Up L ex 0 0) : Up L (unF L m un ex) 0 0 := by
 unfold unF
 refine Up.step hL (fun i h => isV_k h) ?_ (Up.step hL (fun i h => isV_k h) ?_ (Up.at ?_ ?_))
 ·exact (Up.look fun s => Up.enter _ _ _).and fun _ => (h1.less 1 (by omega) (Nat.le_refl _)).and fun k => Up.put _ _
 ·exact (Up.look fun s => Up.enter _ _ _).and fun _ => (h2.less 1 (by omega) (Nat.le_refl _)).and fun k => (Up.take hL _ _).and fun _ => (Up.pure _ _).less 0 (Nat.le_refl _) (by omega)
 ·exact (Up.name hL 0).and fun w => Up.put _ _
 ·exact (Up.number hL 0).and fun w => Up.put _ _
theorem up_line (hL : TokOk L) (lv : Nat) {x : PM Int} (hx : Up L x 0 0) : ∀ n left, Up L (lineN L lv x n left) 0 0
 | 0, left => Up.pure _ _
 | n + 1, left => by
  refine Up.look (f := fun s => fun s' => if opAt L lv s'.i = true then (stepM >>= fun _ => x >>= fun right => putM ⟨3, (tk L s.i).t, 0, [], [left, right]⟩ >>= fun k => lineN L lv x n k) s' else .ok left s') fun s => ?_
  refine Up.step hL (p := fun i => opAt L lv i) (fun i h => ?_) ?_ (Up.pure left 0)
  ·unfold opAt at h
   rw [Bool.and_eq_true] at h
   have := of_decide_eq_true h.1
   omega
  ·exact (hx.less 1 (by omega) (Nat.le_refl _)).and fun r => (Up.put _ 0).and fun k => up_line hL lv hx n k
theorem up_lineJ (hL : TokOk L) {un : PM Int} (hx : Up L un 0 0) : ∀ j, Up L (lineJ L un j) 0 0
 | 0 => hx
 | j + 1 => (up_lineJ hL hx j).and fun left => Up.look fun s => up_line hL _ (up_lineJ hL hx j) _ _
theorem up_unM (hL : TokOk L) : ∀ m, Up L (unM L m) 0 0
 | 0 => up_un hL 0 (Up.fail (by decide) (by decide) _ _) (Up.fail (by decide) (by decide) _ _)
 | m + 1 => up_un hL _ (up_unM hL m) (up_lineJ hL (up_unM hL m) 8)
theorem up_expr (hL : TokOk L) (m a : Nat) : Up L (exprM L m) a a := (up_lineJ hL (up_unM hL m) 8).less a (by omega) (by omega)
theorem up_bracket (hL : TokOk L) (m a : Nat) : Up L (bracketM L m) a (a + 2) := (Up.take hL _ a).and fun _ => (up_expr hL m _).and fun k => (Up.take hL _ _).and fun _ => Up.pure _ _
theorem up_array (hL : TokOk L) (m : Nat) (t : TY) : Up L (arrayM L m t) 1 0 :=
 (Up.lay t 0).and fun k => Up.at ((up_bracket hL m 0).and fun x => (Up.lay _ 0).less 1 (Nat.le_refl _) (by omega)) (Up.pure _ _)
theorem up_args (hL : TokOk L) (m : Nat) : ∀ n l, Up L (argsN L m n l) 0 0
 | 0, l => Up.pure _ _
 | n + 1, l => Up.step hL (fun i h => isV_k h) ((Up.roomIf (beginsV L ·) _ _).and fun _ => (up_expr hL m 1).and fun x => (up_args hL m n (l ++ [x])).less 0 (by omega) (Nat.le_refl _)) (Up.pure _ _)
theorem up_ref (hL : TokOk L) (m : Nat) : Up L (refM L m) 0 1 :=
 (Up.name hL 0).and fun w => Up.step hL (fun i h => isV_k h) ((up_expr hL m _).and fun x => (Up.look fun s => (up_args hL m _ _).less 2 (by omega) (Nat.le_refl _)).and fun l => (Up.take hL _ _).and fun _ => (Up.pure _ _).less 0 (Nat.le_refl _) (by omega)) (Up.pure _ _)
theorem up_inner (m : Nat) {kd : PM Int} (h : Up L kd 0 0) (a : Nat) : Up L (innerM L m kd) a a :=
 (Up.look fun s => Up.enter _ _ _).and fun _ => h.less a (by omega) (by omega)
theorem up_cases (hL : TokOk L) (m : Nat) {kd : PM Int} (h : Up L kd 0 0) : ∀ n l, Up L (casesN L m kd n l) 0 0
 | 0, l => Up.pure _ _
 | n + 1, l => Up.roomStep hL (fun i h => isV_k h) ((Up.number hL 1).and fun c => (Up.take hL t_colon _).and fun _ => (up_inner m h _).and fun k => (Up.take hL t_semi _).and fun _ => (up_cases hL m h n (l ++ [⟨c, k⟩])).less 0 (by omega) (Nat.le_refl _)) (Up.pure _ _)
theorem up_choice (hL : TokOk L) (m : Nat) {kd : PM Int} (h : Up L kd 0 0) (a : Nat) : Up L (choiceM L m kd) a a := by
 unfold choiceM
 exact (Up.take hL _ _).and fun _ => (up_expr hL m _).and fun x => (Up.take hL _ _).and fun _ => (Up.take hL _ _).and fun _ => (Up.look fun s => (up_cases hL m h _ _).less (a + 3) (by omega) (Nat.le_refl _)).and fun cs =>
  (Up.step hL (fun i h => isV_k h) ((Up.take hL _ _).and fun _ => (up_inner m h _).and fun k => (Up.take hL _ _).and fun _ => (Up.pure _ _).less 0 (Nat.le_refl _) (b' := 0 + (a + 3)) (by omega)) (Up.pure _ _)).and fun k =>
  (Up.take hL _ _).and fun _ => (Up.lay _ a).less 3 (by omega) (by omega)
theorem up_word (hL : TokOk L) (m : Nat) {kd : PM Int} (h : Up L kd 0 0) (w : List UInt8) : Up L (wordM L m kd w) 1 0 := by
 unfold wordM
 split
 ·rename_i k _
  refine (up_bracket hL m _).and fun x => ?_
  by_cases hk : k = 7 ∨ k = 8
  ·rw [if_pos hk]; exact (up_inner m h _).and fun i => (Up.lay _ 0).less 2 (by omega) (by omega)
  ·rw [if_neg hk]; exact (Up.pure _ _).and fun i => (Up.lay _ 0).less 2 (by omega) (by omega)
 ·repeat' split
  ·exact (up_inner m h _).and fun i => Up.lay _ 0
  ·exact Up.lay _ 0
  ·exact Up.lay _ 0
  ·exact (up_choice hL m h 0).less 1 (Nat.le_refl _) (by omega)
  ·exact up_array hL m _
theorem up_kindF (hL : TokOk L) (m : Nat) {kd : PM Int} (h : Up L kd 0 0) : Up L (kindF L m kd) 0 0 := by
 unfold kindF
 refine Up.at ((up_ref hL m).and fun t => up_array hL m t) (Up.look (f := fun s => atM (startsV L ·) (stepM >>= fun _ => wordM L m kd (tk L s.i).t) (failM 4)) fun s => ?_)
 exact Up.step hL (fun i h => startsV_k h) (up_word hL m h _) (Up.fail (by decide) (by decide) _ _)
theorem up_kind (hL : TokOk L) : ∀ m, Up L (kindM L m) 0 0
 | 0 => up_kindF hL 0 (Up.fail (by decide) (by decide) _ _)
 | m + 1 => up_kindF hL _ (up_kind hL m)
theorem up_derived (hL : TokOk L) (a : Nat) : Up L (derivedM L) a a := by
 unfold derivedM
 refine Up.look (f := fun s => atM (fun i => !decide ((tk L i).k = 3) && !decide (derOf (tk L i).t = 0)) (stepM >>= fun _ => takeM L t_lpar >>= fun _ => nameM L >>= fun a =>
   (if 3 ≤ derOf (tk L s.i).t then takeM L t_dots >>= fun _ => nameM L else pure []) >>= fun b => takeM L t_rpar >>= fun _ => pure (derOf (tk L s.i).t, a, b)) (failM 4)) fun s => ?_
 refine Up.step hL (fun i h => ?_) ((Up.take hL _ _).and fun _ => (Up.name hL _).and fun w => ?_) (Up.fail (by decide) (by decide) _ _)
 ·rw [Bool.and_eq_true] at h
  simpa using h.1
 ·by_cases hd : 3 ≤ derOf (tk L s.i).t
  ·rw [if_pos hd]
   exact ((Up.take hL _ _).and fun _ => Up.name hL _).and fun b => (Up.take hL _ _).and fun _ => (Up.pure _ _).less 0 (Nat.le_refl _) (by omega)
  ·rw [if_neg hd]
   exact (Up.pure _ _).and fun b => (Up.take hL _ _).and fun _ => (Up.pure _ _).less 0 (Nat.le_refl _) (by omega)
theorem up_field (hL : TokOk L) : Up L (fieldM L) 0 0 := by
 unfold fieldM
 exact (Up.name hL 0).and fun w => (Up.take hL _ _).and fun _ => ((up_kind hL 32).less 2 (by omega) (Nat.le_refl _)).and fun t =>
  (Up.step hL (fun i h => isV_k h) ((up_derived hL _).less 0 (Nat.le_refl _) (b' := 2) (by omega)) (Up.pure _ _)).and fun d =>
  (Up.step hL (fun i h => isV_k h) ((up_expr hL 32 _).less 0 (Nat.le_refl _) (b' := 2) (by omega)) (Up.pure _ _)).and fun x =>
  (Up.take hL _ _).and fun _ => (Up.pure _ _).less 0 (Nat.le_refl _) (by omega)
theorem up_subs (hL : TokOk L) : ∀ n l, Up L (subsN L n l) 0 0
 | 0, l => Up.pure _ _
 | n + 1, l => by
  rw [subsN]
  exact (Up.roomIf (namedV L ·) _ _).and fun _ => (Up.name hL _).and fun w => (Up.take hL _ _).and fun _ => (Up.number hL _).and fun b => (Up.take hL _ _).and fun _ =>
   Up.at ((up_subs hL n _).less 4 (by omega) (by omega)) ((Up.pure _ _).less 0 (Nat.le_refl _) (by omega))
theorem up_pack (hL : TokOk L) : Up L (packM L) 0 0 := by
 unfold packM
 refine (Up.take hL _ _).and fun _ => ?_
 intro s c hs
 dsimp only
 by_cases hk : (tk L s.i).k = 0
 ·rw [if_pos hk]
  cases integerV (tk L s.i).t with
  | none => exact ⟨Nat.le_refl _, hs.i, by decide, by decide⟩
  | some p =>
   obtain ⟨z, lt⟩ := p
   have := Up.step (L := L) hL (p := fun i => decide ((tk L i).k = 0)) (f := fun _ => takeM L t_lcur >>= fun _ => (fun s => subsN L (L.length - s.i + 1) [] s) >>= fun l => takeM L t_rcur >>= fun _ => pure (⟨[], -1, 0, [], [], -1, z, lt, l⟩ : IT)) (y := failM 4) (a := 1) (b := 0) (fun i h => by have := of_decide_eq_true h; omega)
    ((Up.take hL t_lcur 2).and fun _ => (Up.look fun s => (up_subs hL (L.length - s.i + 1) []).less (a' := 3) (b' := 3) 3 (by omega) (by omega)).and fun l => (Up.take hL t_rcur 3).and fun _ => (Up.pure (⟨[], -1, 0, [], [], -1, z, lt, l⟩ : IT) 4).less (b' := 0) 0 (Nat.le_refl _) (by omega)) (Up.fail (by decide) (by decide) _ _) s c hs
   unfold atM at this
   rw [if_pos (decide_eq_true hk)] at this
   exact this
 ·rw [if_neg hk]; exact ⟨Nat.le_refl _, hs.i, by decide, by decide⟩
theorem up_pars (hL : TokOk L) : ∀ n l, Up L (parsN L n l) 0 0
 | 0, l => Up.pure _ _
 | n + 1, l => Up.step hL (fun i h => isV_k h) ((Up.roomIf (namedV L ·) _ _).and fun _ => (Up.name hL _).and fun x => (up_pars hL n (l ++ [x])).less 2 (by omega) (by omega)) (Up.pure _ _)
theorem up_items (hL : TokOk L) : ∀ n l, Up L (itemsN L n l) 0 0
 | 0, l => Up.pure _ _
 | n + 1, l => Up.at ((Up.room _ _).and fun _ => (Up.at (up_pack hL) (up_field hL)).and fun x => up_items hL n _) (Up.pure _ _)
theorem up_record (hL : TokOk L) : Up L (recordM L) 0 0 := by
 unfold recordM
 exact (Up.take hL _ _).and fun _ => (Up.name hL _).and fun w =>
  (Up.step hL (fun i h => isV_k h) ((Up.name hL _).and fun x => (Up.look fun s => (up_pars hL _ _).less 4 (by omega) (Nat.le_refl _)).and fun l => (Up.take hL _ _).and fun _ => (Up.pure _ _).less 0 (Nat.le_refl _) (b' := 2) (by omega)) (Up.pure _ _)).and fun ps =>
  (Up.take hL _ _).and fun _ => (Up.look fun s => (up_items hL _ _).less 3 (by omega) (Nat.le_refl _)).and fun is => (Up.take hL _ _).and fun _ => (Up.pure _ _).less 0 (Nat.le_refl _) (by omega)
theorem up_const (hL : TokOk L) : Up L (constM L) 0 0 := by
 unfold constM
 exact (Up.take hL _ _).and fun _ => (Up.name hL _).and fun w => (Up.take hL _ _).and fun _ => (Up.number hL _).and fun n => (Up.take hL _ _).and fun _ => (Up.pure _ _).less 0 (Nat.le_refl _) (by omega)
theorem up_whole (hL : TokOk L) : ∀ n cs rs, Up L (wholeN L n cs rs) 0 0
 | 0, cs, rs => Up.pure _ _
 | n + 1, cs, rs => Up.at ((Up.room _ _).and fun _ => (up_const hL).and fun c => up_whole hL n _ _) (Up.at ((Up.room _ _).and fun _ => (up_record hL).and fun c => up_whole hL n _ _) (Up.at (Up.pure _ _) (Up.fail (by decide) (by decide) _ _)))
end
end Go.Proofs.YtoingpafcodojaaGreatDoor

namespace Go.Proofs.YtoingpafcodojaaGreatDoor
open Go.RowKit

theorem u8_all {p q : UInt8 → Bool} (h : ∀ n : Fin 256, p (UInt8.ofNat n.val) = q (UInt8.ofNat n.val)) (b : UInt8) : p b = q b := by
 have := h ⟨b.toNat, b.toNat_lt⟩
 rwa [show UInt8.ofNat (⟨b.toNat, b.toNat_lt⟩ : Fin 256).val = b by simp] at this
def digS : List UInt8 := [48, 49, 50, 51, 52, 53, 54, 55, 56, 57]
def hexS : List UInt8 := [48, 49, 50, 51, 52, 53, 54, 55, 56, 57, 97, 98, 99, 100, 101, 102, 65, 66, 67, 68, 69, 70]
def runS : List UInt8 := [65, 66, 67, 68, 69, 70, 71, 72, 73, 74, 75, 76, 77, 78, 79, 80, 81, 82, 83, 84, 85, 86, 87, 88, 89, 90, 97, 98, 99, 100, 101, 102, 103, 104, 105, 106, 107, 108, 109, 110, 111, 112, 113, 114, 115, 116, 117, 118, 119, 120, 121, 122, 95, 48, 49, 50, 51, 52, 53, 54, 55, 56, 57]
def blankS : List UInt8 := [32, 9, 10, 13]
theorem digS_eq (b : UInt8) : digS.contains b = isDig b := u8_all (p := digS.contains) (q := isDig) (by decide +kernel) b
theorem hexS_eq (b : UInt8) : hexS.contains b = isHex b := u8_all (p := hexS.contains) (q := isHex) (by decide +kernel) b
theorem runS_eq (b : UInt8) : runS.contains b = alnum b := u8_all (p := runS.contains) (q := alnum) (by decide +kernel) b
theorem blankS_eq (b : UInt8) : blankS.contains b = blank b := u8_all (p := blankS.contains) (q := blank) (by decide +kernel) b
theorem drop_len (p : UInt8 → Bool) : ∀ l : List UInt8, (l.dropWhile p).length + (l.takeWhile p).length = l.length
 | [] => rfl
 | a :: l => by
  rw [List.dropWhile_cons, List.takeWhile_cons]
  have := drop_len p l
  split <;> simp <;> omega
theorem take_all (p : UInt8 → Bool) : ∀ l : List UInt8, (l.takeWhile p).length = l.length ↔ l.all p = true
 | [] => by simp
 | a :: l => by
  have := take_all p l
  have h9 : (l.takeWhile p).length ≤ l.length := by have := drop_len p l; omega
  rw [List.takeWhile_cons, List.all_cons]
  split
  ·rename_i h
   rw [h, Bool.true_and, List.length_cons, List.length_cons, ← this]
   omega
  ·rename_i h
   simp [h]
theorem run_c (cs : List UInt8) (p : UInt8 → Bool) (hp : ∀ b, cs.contains b = p b) (hcs : cs.length < 4294967281) (ha : (cs.all fun b => decide (b.toNat < 128)) = true) (r : List UInt8) (hr : r.length ≤ 16384) :
  CallsA Tryz.prog Γ0 52 [c1 (ds (bs r)), c1 (ds (bs cs))] (Ti ((r.takeWhile p).length : Nat)) := by
 have hd := drop_len p r
 have hpe : (fun b => cs.contains b) = p := funext hp
 have ht := trimLeft_c Γ0 r cs hcs ha
 rw [hpe] at ht
 refine fn_rule (C := ⟨Tryz.prog, layF, Tryz.f52.ntmps, Γ0, 0, [], []⟩) layF_ok mixed Tryz.func52 rfl (by kernel_rfl) rfl rfl rfl ?_
 refine ex_call (ht) ?_
 refine ex_i64 ((r.takeWhile p).length : Nat) (by rw [bs_size, bs_size]; omega) (by omega) (by omega) ?_
 exact TLe.rfl
theorem runD_c (r : List UInt8) (hr : r.length ≤ 16384) : CallsA Tryz.prog Γ0 52 [c1 (ds (bs r)), c1 (ds (bs digS))] (Ti ((r.takeWhile isDig).length : Nat)) := run_c digS isDig digS_eq (by decide) (by decide) r hr
theorem runH_c (r : List UInt8) (hr : r.length ≤ 16384) : CallsA Tryz.prog Γ0 52 [c1 (ds (bs r)), c1 (ds (bs hexS))] (Ti ((r.takeWhile isHex).length : Nat)) := run_c hexS isHex hexS_eq (by decide) (by decide) r hr
theorem runR_c (r : List UInt8) (hr : r.length ≤ 16384) : CallsA Tryz.prog Γ0 52 [c1 (ds (bs r)), c1 (ds (bs runS))] (Ti ((r.takeWhile alnum).length : Nat)) := run_c runS alnum runS_eq (by decide) (by decide) r hr
theorem runB_c (r : List UInt8) (hr : r.length ≤ 16384) : CallsA Tryz.prog Γ0 52 [c1 (ds (bs r)), c1 (ds (bs blankS))] (Ti ((r.takeWhile blank).length : Nat)) := run_c blankS blank blankS_eq (by decide) (by decide) r hr
abbrev Sc (r : List UInt8) (p : Nat × Nat) : Blk := .obj [.d (ds (bs r)), .d (di (p.1 : Nat)), .d (di (p.2 : Nat))]
theorem byteRows_ln (l : List UInt8) : (byteRows l).length = l.length := by simp [byteRows]
theorem ex_byte {bs : List UInt8} {n : Int} (i : Nat) (x : UInt8) (hn : n = i) (hx : bs[i]? = some x) {K : List D → Prop} (h : K [.v (.int .u8 x.toNat)]) : ∃ r, 0 ≤ n ∧ (byteRows bs)[n.toNat]? = some r ∧ K r := by
 subst hn
 exact ⟨_, by omega, by simp [byteRows, hx], h⟩
theorem skip_c (r : List UInt8) (p : Nat × Nat) (n : Nat) (hr : r.length ≤ 16384) (hn : n ≤ r.length) (hp1 : p.1 ≤ 100000) (hp2 : p.2 ≤ 100000) :
  CallsM Tryz.prog Γ0 37 [(0, Sc r p)] 1 [.c (.ptr 0 0), c1 (di n)] (.tup []) [(0, Sc (r.drop n) ((r.take n).foldl skipP p))] [] := by
 obtain ⟨T, hT⟩ : ∃ T, r.take n = T := ⟨_, rfl⟩
 have hTl : T.length = n := by rw [← hT, List.length_take]; omega
 rw [hT]
 obtain ⟨Q, hQ⟩ : ∃ Q, T.foldl skipP p = Q := ⟨_, rfl⟩
 rw [hQ]
 have hrs := bs_size r
 refine fn_ruleM (C := ⟨Tryz.prog, layF, Tryz.f37.ntmps, Γ0, 1, [], []⟩) layF_ok mixed Tryz.func37 rfl (by kernel_rfl) rfl rfl rfl ?_
 refine ⟨by omega, by omega, by omega, ?_⟩
 rw [ext_take, hT]
 refine ex_is n (by rw [byteRows_ln]; exact hTl) ?_
 refine ex_loop (X := Nat × Nat × Nat) (fun ⟨q, u, v⟩ => ⟨[(0, .o (.c (.ptr 0 0))), (1, Ti n), (12, .o (c1 (.sl 1 (byteRows T)))), (13, Ti n), (14, Ti q)], [(0, .obj [.d (ds (bs r)), .d (di (u : Nat)), .d (di (v : Nat))])], 1⟩) (fun x => n - x.1)
  (fun ⟨q, u, v⟩ => q ≤ n ∧ u ≤ p.1 + q ∧ v ≤ p.2 + q + 1 ∧ (T.drop q).foldl skipP (u, v) = Q) (0, p.1, p.2) ⟨Nat.zero_le _, Nat.le_refl _, by show p.2 ≤ _; omega, hQ⟩ sS ?_
 rintro ⟨q, u, v⟩ ⟨hq, hu, hv, hs⟩
 refine ex_dec (fun h => ?_) (fun h => ?_)
 ·have hql : q < T.length := by omega
  have hc : T[q]? = some T[q] := at_some hql
  rw [List.drop_eq_getElem_cons hql, List.foldl_cons] at hs
  generalize T[q] = c at *
  refine ex_byte q c rfl hc ?_
  refine ex_i64 (((v + 1 : Nat) : Int)) (by first | rfl | omega | simp) (by omega) (by omega) ?_
  refine ex_chr 0 10 rfl rfl ?_
  refine ex_dec (fun h2 => ?_) (fun h2 => ?_)
  ·have hc10 : c = 10 := UInt8.toNat_inj.1 (Int.ofNat_inj.1 h2)
   rw [show skipP (u, v) c = (u + 1, 1) from if_pos hc10] at hs
   refine ex_i64 (((u + 1 : Nat) : Int)) (by first | rfl | omega | simp) (by omega) (by omega) ?_
   refine ex_i64 (((q + 1 : Nat) : Int)) (by first | rfl | omega | simp) (by omega) (by omega) ?_
   exact ex_round (q + 1, u + 1, 1) ⟨by omega, by omega, by omega, hs⟩ (by show _ - _ < _ - _; omega) sS
  ·have hc10 : c ≠ 10 := fun e => h2 (by rw [e])
   rw [show skipP (u, v) c = (u, v + 1) from if_neg hc10] at hs
   refine ex_i64 (((q + 1 : Nat) : Int)) (by first | rfl | omega | simp) (by omega) (by omega) ?_
   exact ex_round (q + 1, u, v + 1) ⟨by omega, by omega, by omega, hs⟩ (by show _ - _ < _ - _; omega) sS
 ·rw [List.drop_eq_nil_of_le (by omega), List.foldl_nil] at hs
  subst hs
  refine ⟨by omega, by omega, by omega, ?_⟩
  rw [ext_drop r n hn]
  exact ⟨rfl, TLe.rfl, rfl, rfl⟩
theorem cutpre_c (r p : List UInt8) : CallsA Tryz.prog Γ0 111 [c1 (ds (bs r)), c1 (ds (bs p))] (.tup [c1 (ds (bs (if Lib.hasPrefix r p then r.drop p.length else r))), c1 (db (Lib.hasPrefix r p))]) := by
 have hin : CallsA Tryz.prog Γ0 145 [c1 (ds (bs r)), c1 (ds (bs p))] (.tup [c1 (ds (bs (if Lib.hasPrefix r p then r.drop p.length else r))), c1 (db (Lib.hasPrefix r p))]) := by
  have hrs := bs_size r
  have hps := bs_size p
  refine fn_rule (C := ⟨Tryz.prog, layF, Tryz.f145.ntmps, Γ0, 0, [], []⟩) layF_ok mixed Tryz.func145 rfl (by kernel_rfl) rfl rfl rfl ?_
  refine ex_call (lprefix_c Γ0 r p) ?_
  rcases h : Lib.hasPrefix r p with _ | _
  ·repeat' (first | refine qgs ?_ | refine eD ?_ ?_ <;> intro)
   exact TLe.rfl
  ·have hl : p.length ≤ r.length := by
    obtain ⟨X, rfl⟩ := List.isPrefixOf_iff_prefix.1 h
    rw [List.length_append]; omega
   repeat' (first | refine qgs ?_ | refine eD ?_ ?_ <;> intro)
   rw [hps, ext_drop r p.length hl]
   exact TLe.rfl
 refine fn_rule (C := ⟨Tryz.prog, layF, Tryz.f111.ntmps, Γ0, 0, [], []⟩) layF_ok mixed Tryz.func111 rfl (by kernel_rfl) rfl rfl rfl ?_
 refine ex_call (hin) ?_
 exact TLe.rfl
theorem size_pos {l : List UInt8} (h : l ≠ []) : bs l ≠ ByteArray.empty := fun e => h (by
 have := congrArg ByteArray.size e
 rw [bs_size] at this
 exact List.length_eq_zero_iff.1 this)
def digF (s : List UInt8) : List UInt8 × Nat := if sixteen s then (s.drop 2, 16) else if s.all isDig then (s, 10) else ([], 0)
theorem digits_c (s : List UInt8) (hs : s.length ≤ 16384) : CallsA Tryz.prog Γ0 79 [c1 (ds (bs s))] (.tup [c1 (ds (bs (digF s).1)), c1 (di ((digF s).2 : Nat))]) := by
 have hsz := bs_size s
 have h1 := runD_c s hs
 have ha := take_all isDig s
 have hcut := cutpre_c s [48, 120]
 unfold digF sixteen
 rw [show [48, 120].isPrefixOf s = Lib.hasPrefix s [48, 120] from rfl]
 have hA : if s.all isDig then (s.takeWhile isDig).length = s.length else (s.takeWhile isDig).length ≠ s.length := by
  split
  ·rename_i h; exact ha.2 h
  ·rename_i h; exact fun e => h (ha.1 e)
 rcases hp : Lib.hasPrefix s [48, 120] with _ | _ <;> rw [hp] at hcut
 ·rcases hd : s.all isDig with _ | _ <;> rw [hd] at hA <;> simp only [if_true, if_false, Bool.false_eq_true] at hA
  all_goals
   refine fn_rule (C := ⟨Tryz.prog, layF, Tryz.f79.ntmps, Γ0, 0, [], []⟩) layF_ok mixed Tryz.func79 rfl (by kernel_rfl) rfl rfl rfl ?_
   repeat' (first | refine ex_call h1 ?_ | refine ex_call hcut ?_ | refine qg1 ?_ | refine eD ?_ ?_ <;> intro)
   exact TLe.rfl
 ·obtain ⟨x, hx⟩ : ∃ x, s.drop 2 = x := ⟨_, rfl⟩
  have hcut : CallsA Tryz.prog Γ0 111 [c1 (ds (bs s)), c1 (ds (bs [48, 120]))] (.tup [c1 (ds (bs x)), c1 (db true)]) := hx ▸ hcut
  have hxl : x.length = s.length - 2 := by rw [← hx, List.length_drop]
  have h2 := runH_c x (by omega)
  have ha2 := take_all isHex x
  have hxs := bs_size x
  rw [hx]
  have hA2 : if x.all isHex then (x.takeWhile isHex).length = x.length else (x.takeWhile isHex).length ≠ x.length := by
   split
   ·rename_i h; exact ha2.2 h
   ·rename_i h; exact fun e => h (ha2.1 e)
  rcases x with _ | ⟨c, y⟩
  ·rw [show (decide (2 < s.length)) = false from decide_eq_false (by simp at hxl; omega)]
   rcases hd : s.all isDig with _ | _ <;> rw [hd] at hA <;> simp only [if_true, if_false, Bool.false_eq_true] at hA
   all_goals
    refine fn_rule (C := ⟨Tryz.prog, layF, Tryz.f79.ntmps, Γ0, 0, [], []⟩) layF_ok mixed Tryz.func79 rfl (by kernel_rfl) rfl rfl rfl ?_
    repeat' (first | refine ex_call h1 ?_ | refine ex_call hcut ?_ | refine qg1 ?_ | refine eD ?_ ?_ <;> intro)
    exact TLe.rfl
  ·have hne := size_pos (l := c :: y) (by simp)
   rw [show (decide (2 < s.length)) = true from decide_eq_true (by simp at hxl; omega)]
   generalize c :: y = x at *
   rcases he : x.all isHex with _ | _ <;> rw [he] at hA2 <;> simp only [if_true, if_false, Bool.false_eq_true] at hA2
   ·rcases hd : s.all isDig with _ | _ <;> rw [hd] at hA <;> simp only [if_true, if_false, Bool.false_eq_true] at hA
    all_goals
     refine fn_rule (C := ⟨Tryz.prog, layF, Tryz.f79.ntmps, Γ0, 0, [], []⟩) layF_ok mixed Tryz.func79 rfl (by kernel_rfl) rfl rfl rfl ?_
     repeat' (first | refine ex_call h2 ?_ | refine ex_call h1 ?_ | refine ex_call hcut ?_ | refine qg1 ?_ | refine eD ?_ ?_ <;> intro)
     all_goals first | exact TLe.rfl | exact absurd ‹_› hne
   ·
    refine fn_rule (C := ⟨Tryz.prog, layF, Tryz.f79.ntmps, Γ0, 0, [], []⟩) layF_ok mixed Tryz.func79 rfl (by kernel_rfl) rfl rfl rfl ?_
    repeat' (first | refine ex_call h2 ?_ | refine ex_call h1 ?_ | refine ex_call hcut ?_ | refine qg1 ?_ | refine eD ?_ ?_ <;> intro)
    all_goals first | exact TLe.rfl | exact absurd ‹_› hne
end Go.Proofs.YtoingpafcodojaaGreatDoor

namespace Go.Proofs.YtoingpafcodojaaGreatDoor
open Go.RowKit

def passL (r : List UInt8) : Nat := if isCom r then (r.takeWhile notNl).length else (r.takeWhile blank).length
def passN : Nat → List UInt8 → Nat × Nat → List UInt8 × (Nat × Nat)
 | 0, r, p => (r, p)
 | n + 1, r, p => if passL r = 0 then (r, p) else passN n (r.drop (passL r)) ((r.take (passL r)).foldl skipP p)
def passF (r : List UInt8) (p : Nat × Nat) : List UInt8 × (Nat × Nat) := passN (r.length + 1) r p
theorem take_len (p : UInt8 → Bool) : ∀ l : List UInt8, l.take (l.takeWhile p).length = l.takeWhile p
 | [] => rfl
 | a :: l => by
  rw [List.takeWhile_cons]
  split
  ·rw [List.length_cons, List.take_succ_cons, take_len p l]
  ·rfl
theorem passL_le (r : List UInt8) : passL r ≤ r.length := by
 unfold passL
 have h1 := drop_len notNl r
 have h2 := drop_len blank r
 split <;> omega
def Bd (p : Nat × Nat) (n : Nat) : Prop := 1 ≤ p.1 ∧ 1 ≤ p.2 ∧ p.1 + n ≤ 16385 ∧ p.2 + n ≤ 16385
theorem skip_bd : ∀ (x : List UInt8) (p : Nat × Nat) (n : Nat), Bd p (x.length + n) → Bd (x.foldl skipP p) n
 | [], p, n, h => by rw [List.length_nil, Nat.zero_add] at h; exact h
 | b :: x, p, n, h => by
  rw [List.foldl_cons]
  refine skip_bd x _ n ?_
  obtain ⟨h1, h2, h3, h4⟩ := h
  rw [List.length_cons] at h3 h4
  unfold skipP
  split
  ·exact ⟨by show 1 ≤ p.1 + 1; omega, by show 1 ≤ 1; omega, by show p.1 + 1 + _ ≤ _; omega, by show 1 + _ ≤ _; omega⟩
  ·exact ⟨by show 1 ≤ p.1; omega, by show 1 ≤ p.2 + 1; omega, by show p.1 + _ ≤ _; omega, by show p.2 + 1 + _ ≤ _; omega⟩
theorem pass_step (r : List UInt8) (p : Nat × Nat) : lexF r p.1 p.2 = lexF (r.drop (passL r)) ((r.take (passL r)).foldl skipP p).1 ((r.take (passL r)).foldl skipP p).2 := by
 unfold passL
 split
 ·rename_i h
  rw [take_len, ← dropWhile_eq]
  exact lexF_com p h
 ·rw [take_len, ← dropWhile_eq]
  obtain ⟨X, hX, -⟩ := takeWhile_split blank r
  have hd : r.dropWhile blank = X := by
   rw [dropWhile_eq]
   conv => lhs; arg 2; rw [hX]
   rw [List.drop_left]
  rw [hd]
  conv => lhs; rw [hX]
  exact lexF_blank _ X p (takeWhile_all blank r)
def Due (r : List UInt8) : Prop := isCom r = false ∧ ∀ b, r[0]? = some b → blank b = false
theorem due_of {r : List UInt8} (h : passL r = 0) : Due r := by
 unfold passL at h
 split at h
 ·rename_i hc
  obtain ⟨X, rfl⟩ := isCom_eq hc
  rw [List.takeWhile_cons, if_pos (by decide)] at h
  cases h
 ·rename_i hc
  refine ⟨by simpa using hc, fun b hb => ?_⟩
  rcases r with _ | ⟨a, r⟩
  ·cases hb
  ·cases hb
   rw [List.takeWhile_cons] at h
   split at h
   ·cases h
   ·rename_i hn; simpa using hn
theorem passN_facts : ∀ (n : Nat) (r : List UInt8) (p : Nat × Nat), r.length < n → Bd p r.length →
  lexF r p.1 p.2 = lexF (passN n r p).1 (passN n r p).2.1 (passN n r p).2.2 ∧ Due (passN n r p).1 ∧ Bd (passN n r p).2 (passN n r p).1.length ∧ (passN n r p).1.length ≤ r.length := by
 intro n
 induction n with
 | zero => intro r p h; omega
 | succ n ih =>
  intro r p hl hb
  rw [passN]
  split
  ·rename_i h; exact ⟨rfl, due_of h, hb, Nat.le_refl _⟩
  ·rename_i h
   have hle := passL_le r
   have hd : (r.drop (passL r)).length = r.length - passL r := List.length_drop ..
   have ht : (r.take (passL r)).length = passL r := by rw [List.length_take]; omega
   obtain ⟨e1, e2, e3, e4⟩ := ih (r.drop (passL r)) ((r.take (passL r)).foldl skipP p) (by omega) (by rw [hd]; refine skip_bd _ _ _ ?_; rw [ht]; rw [show passL r + (r.length - passL r) = r.length by omega]; exact hb)
   exact ⟨by rw [pass_step r p]; exact e1, e2, e3, by omega⟩
theorem cut_nl : ∀ r : List UInt8, Lib.index r [10] = if 10 ∈ r then ((r.takeWhile notNl).length : Int) else -1
 | [] => rfl
 | a :: r => by
  rw [Lib.index, cut_nl r]
  by_cases h : a = 10
  ·subst h
   rw [show ([10] : List UInt8).isPrefixOf (10 :: r) = true from rfl, if_pos rfl, if_pos (by simp)]
   rfl
  ·have h' : ¬ (10 : UInt8) = a := fun e => h e.symm
   have hp : ([10] : List UInt8).isPrefixOf (a :: r) = false := by simp [List.isPrefixOf, h']
   have hn : notNl a = true := by simp [notNl, h]
   rw [hp, if_neg (by decide), List.takeWhile_cons, if_pos hn]
   by_cases h2 : 10 ∈ r
   ·have h4 : ¬ (((r.takeWhile notNl).length : Int) == -1) = true := by simp <;> omega
    rw [if_pos h2, if_neg h4, if_pos (show (10 : UInt8) ∈ a :: r by simp [h2]), List.length_cons]; rfl
   ·rw [if_neg h2, if_pos (show ((-1 : Int) == -1) = true from rfl), if_neg (show ¬ (10 : UInt8) ∈ a :: r by simp [h2, h'])]
theorem cut_fst (r : List UInt8) : (Lib.cut r [10]).1 = r.takeWhile notNl := by
 unfold Lib.cut
 rw [cut_nl]
 by_cases h : 10 ∈ r
 ·rw [if_pos h, if_pos (by omega)]
  exact take_len notNl r
 ·rw [if_neg h, if_neg (by omega)]
  show r = _
  have : (r.takeWhile notNl).length = r.length := (take_all notNl r).2 (by rw [List.all_eq_true]; intro c hc; simp [notNl]; intro e; exact h (e ▸ hc))
  conv => lhs; rw [← List.take_length (l := r), ← this]
  exact take_len notNl r
theorem pass_c (r : List UInt8) (p : Nat × Nat) (hb : Bd p r.length) :
  CallsM Tryz.prog ΓL 35 [(0, Sc r p)] 1 [.c (.ptr 0 0)] (.tup []) [(0, Sc (passF r p).1 (passF r p).2)] [] := by
 obtain ⟨R, hR⟩ : ∃ R, passF r p = R := ⟨_, rfl⟩
 rw [hR]
 refine fn_ruleM (C := ⟨Tryz.prog, layF, Tryz.f35.ntmps, ΓL, 1, [], []⟩) layF_ok mixed Tryz.func35 rfl (by kernel_rfl) rfl rfl rfl ?_
 refine ex_loop (X := Nat × List UInt8 × Nat × Nat) (fun ⟨m, x, u, v⟩ => ⟨[(0, .o (.c (.ptr 0 0)))], [(0, .obj [.d (ds (bs x)), .d (di (u : Nat)), .d (di (v : Nat))])], 1⟩) (fun x => x.1)
  (fun ⟨m, x, u, v⟩ => x.length < m ∧ Bd (u, v) x.length ∧ passN m x (u, v) = R) (r.length + 1, r, p) ⟨Nat.lt_succ_self _, hb, hR⟩ sS ?_
 rintro ⟨m, x, u, v⟩ ⟨hm, hbd, hs⟩
 obtain ⟨m, rfl⟩ : ∃ k, m = k + 1 := ⟨m - 1, by omega⟩
 obtain ⟨h1, h2, h3, h4⟩ := hbd
 dsimp only at h1 h2 h3 h4
 have hle := passL_le x
 have hsk := fun n hn => (skip_c x (u, v) n (by omega) hn (by show u ≤ _; omega) (by show v ≤ _; omega)).of0 (Γ := ΓL)
 rw [passN] at hs
 refine ex_call ((runB_c x (by omega)).gL) ?_
 refine ex_call (prefix_c ΓL x [47, 47]) ?_
 have fin : ∀ k : Nat, k = passL x → k ≠ 0 → (m, x.drop k, (x.take k).foldl skipP (u, v)).2.1.length < m ∧ Bd ((x.take k).foldl skipP (u, v)) (x.drop k).length ∧ passN m (x.drop k) ((x.take k).foldl skipP (u, v)) = R := by
  intro k hk h0
  subst hk
  rw [if_neg h0] at hs
  have hd : (x.drop (passL x)).length = x.length - passL x := List.length_drop ..
  have ht : (x.take (passL x)).length = passL x := by rw [List.length_take]; omega
  exact ⟨by show (x.drop (passL x)).length < m; omega, by rw [hd]; refine skip_bd _ _ _ ?_; rw [ht, show passL x + (x.length - passL x) = x.length by omega]; exact ⟨h1, h2, h3, h4⟩, hs⟩
 rcases hc : isCom x with _ | _
 ·rw [show Lib.hasPrefix x [47, 47] = false from hc]
  have hp : passL x = (x.takeWhile blank).length := by unfold passL; rw [hc]; rfl
  rw [← hp]
  repeat' (first | refine qgs ?_ | refine eD ?_ ?_ <;> intro)
  ·rename_i h0
   rw [if_pos (by omega)] at hs
   subst hs
   exact ⟨rfl, TLe.rfl, rfl, rfl⟩
  ·refine ex_callM (hsk (passL x) hle) ?_
   exact ex_round (m, x.drop (passL x), (x.take (passL x)).foldl skipP (u, v)) (fin (passL x) rfl (by omega)) (Nat.lt_succ_self _) sS
 ·rw [show Lib.hasPrefix x [47, 47] = true from hc]
  have hp : passL x = (x.takeWhile notNl).length := by unfold passL; rw [hc]; rfl
  have hp0 : passL x ≠ 0 := fun e => by
   have := (due_of e).1
   rw [hc] at this
   cases this
  have hcut := cut_c x [10] (by omega)
  rw [cut_fst] at hcut
  have hsz : (bs (x.takeWhile notNl)).size = passL x := by rw [bs_size, hp]
  generalize x.takeWhile notNl = y at *
  refine ex_call (hcut) ?_
  repeat' (first | refine qgs ?_ | refine eD ?_ ?_ <;> intro)
  rw [hsz]
  refine ex_callM (hsk (passL x) hle) ?_
  exact ex_round (m, x.drop (passL x), (x.take (passL x)).foldl skipP (u, v)) (fin (passL x) rfl hp0) (Nat.lt_succ_self _) sS
theorem lower_c (b : UInt8) : CallsA Tryz.prog Γ0 146 [c1 (.v (.int .u8 b.toNat))] (.o (c1 (.v (.int .u8 (bits .or .u8 b.toNat 32))))) :=
 ⟨⟨_, Tryz.func146, by kernel_rfl, rfl⟩, fun S w vs hS hG hvs => by
  obtain ⟨u, rfl, e1⟩ := one_arg hvs
  obtain rfl := open_v e1
  refine (Tryz.internal_strconv_lower b.toNat w).mono fun e w' ⟨he, hb⟩ => ?_
  subst he; subst hb
  exact flat_end hS (Below.refl _ _) (Imm.v rfl)⟩
theorem lower_hex (b : UInt8) : (!(isHex b && !isDig b) || decide (bits .or .u8 b.toNat 32 = (hexN b + 87 : Nat))) = true := u8_all (p := fun b => !(isHex b && !isDig b) || decide (bits .or .u8 b.toNat 32 = (hexN b + 87 : Nat))) (q := fun _ => true) (by decide +kernel) b
theorem hex_bound (b : UInt8) : (!isHex b || (decide (hexN b < 16) && (isDig b == decide (hexN b < 10)))) = true := u8_all (p := fun b => !isHex b || (decide (hexN b < 16) && (isDig b == decide (hexN b < 10)))) (q := fun _ => true) (by decide +kernel) b
abbrev rngE : Value := .iface 245 (.int .i64 1)
def tvP : Option Nat → TV
 | some n => .tup [c1 (du n), c1 (.v .nilIface)]
 | none => .tup [c1 (du 18446744073709551615), c1 (.v rngE)]
set_option maxHeartbeats 2000000 in
theorem ipu10_c (l : List UInt8) (h0 : l ≠ []) (hl : l.length ≤ 16384) (hh : ∀ b ∈ l, isHex b = true ∧ hexN b < 10) :
  CallsA Tryz.prog Γ0 112 [c1 (ds (bs l)), c1 (di 10), c1 (di 64)] (tvP (valF 10 0 l)) := by
 obtain ⟨R, hR⟩ : ∃ R, valF 10 0 l = R := ⟨_, rfl⟩
 rw [hR]
 have hsz := bs_size l
 have hne := size_pos h0
 have hpos := List.length_pos_iff.2 h0
 refine fn_rule (C := ⟨Tryz.prog, layF, Tryz.f112.ntmps, Γ0, 0, [], []⟩) layF_ok mixed Tryz.func112 rfl (by kernel_rfl) rfl rfl rfl ?_
 repeat' (first | refine qgs ?_ | refine eD ?_ ?_ <;> intro)
 refine ex_is 0 (by decide) ?_
 refine ex_is 18446744073709551615 (by decide) ?_
 refine ex_is l.length (by simp [byteRows]) ?_
 refine ex_loop (X := Nat × Nat) (fun ⟨q, n⟩ => ⟨[(1, Ti 10), (8, Tb false), (10, Tu 1844674407370955162), (11, Tu 18446744073709551615), (12, Tb false), (13, Tu n), (99, .o (c1 (.sl 1 (byteRows l)))), (100, Ti l.length), (101, Ti q)], [], 0⟩) (fun x => l.length - x.1) (fun ⟨q, n⟩ => q ≤ l.length ∧ n < 18446744073709551616 ∧ valF 10 n (l.drop q) = R) (0, 0) ⟨Nat.zero_le _, by decide, hR⟩ sS ?_
 rintro ⟨q, n⟩ ⟨hq, hn, hv⟩
 refine ex_dec (fun h => ?_) (fun h => ?_)
 ·have hql : q < l.length := by omega
  have hc : l[q]? = some l[q] := at_some hql
  have hm : l[q] ∈ l := List.getElem_mem hql
  rw [List.drop_eq_getElem_cons hql, valF] at hv
  generalize l[q] = c at *
  obtain ⟨h1, h2⟩ := hh c hm
  have h3 := lower_hex c
  have h4 := hex_bound c
  have hlow := lower_c c
  rw [h1] at h3 h4
  refine ex_byte q c rfl hc ?_
  have hcl := c.toNat_lt
  rcases hd : isDig c with _ | _ <;> rw [hd] at h3 h4
  ·have h6 : 10 ≤ hexN c ∧ hexN c < 16 := by simp at h4; omega
   exfalso; omega
  ·have h6 : hexN c < 10 := by simp at h4; omega
   have h7 : 48 ≤ c.toNat ∧ c.toNat ≤ 57 := by simp [isDig] at hd; omega
   have h8 : hexN c = c.toNat - 48 := by unfold hexN; rw [if_pos h7.2]
   rcases Nat.lt_or_ge (n * 10 + hexN c) 18446744073709551616 with h10 | h10
   ·rw [if_pos h10] at hv
    repeat' (first | refine aI ((q + 1 : Nat) : Int) ?_ | refine aU ((q + 1 : Nat) : Int) ?_ | refine aB ((q + 1 : Nat) : Int) ?_ | refine aI ((n * 10 + hexN c : Nat) : Int) ?_ | refine aU ((n * 10 + hexN c : Nat) : Int) ?_ | refine aB ((n * 10 + hexN c : Nat) : Int) ?_ | refine aI ((n * 10 : Nat) : Int) ?_ | refine aU ((n * 10 : Nat) : Int) ?_ | refine aB ((n * 10 : Nat) : Int) ?_ | refine aI ((hexN c : Nat) : Int) ?_ | refine aU ((hexN c : Nat) : Int) ?_ | refine aB ((hexN c : Nat) : Int) ?_ | refine qg1 ?_ | refine eD ?_ ?_ <;> intro)
    exact ex_round (q + 1, n * 10 + hexN c) ⟨by omega, by omega, hv⟩ (by show _ - _ < _ - _; omega) sS
   ·rw [if_neg (by omega)] at hv
    subst hv
    repeat' (first | refine aI ((q + 1 : Nat) : Int) ?_ | refine aU ((q + 1 : Nat) : Int) ?_ | refine aB ((q + 1 : Nat) : Int) ?_ | refine aI ((n * 10 + hexN c : Nat) : Int) ?_ | refine aU ((n * 10 + hexN c : Nat) : Int) ?_ | refine aB ((n * 10 + hexN c : Nat) : Int) ?_ | refine aI ((n * 10 : Nat) : Int) ?_ | refine aU ((n * 10 : Nat) : Int) ?_ | refine aB ((n * 10 : Nat) : Int) ?_ | refine aI ((hexN c : Nat) : Int) ?_ | refine aU ((hexN c : Nat) : Int) ?_ | refine aB ((hexN c : Nat) : Int) ?_ | refine qg1 ?_ | refine eD ?_ ?_ <;> intro)
    ·exact TLe.rfl
    ·refine ex_is ((n * 10 + hexN c : Nat) - 18446744073709551616 : Int) (by rw [IntKind.wrap_u64]; omega) ?_
     repeat' (first | refine qgs ?_ | refine eD ?_ ?_ <;> intro)
     exact TLe.rfl
 ·rw [List.drop_eq_nil_of_le (by omega), valF] at hv
  subst hv
  repeat' (first | refine qgs ?_ | refine eD ?_ ?_ <;> intro)
  exact TLe.rfl
set_option maxHeartbeats 2000000 in
theorem ipu16_c (l : List UInt8) (h0 : l ≠ []) (hl : l.length ≤ 16384) (hh : ∀ b ∈ l, isHex b = true ∧ hexN b < 16) :
  CallsA Tryz.prog Γ0 112 [c1 (ds (bs l)), c1 (di 16), c1 (di 64)] (tvP (valF 16 0 l)) := by
 obtain ⟨R, hR⟩ : ∃ R, valF 16 0 l = R := ⟨_, rfl⟩
 rw [hR]
 have hsz := bs_size l
 have hne := size_pos h0
 have hpos := List.length_pos_iff.2 h0
 refine fn_rule (C := ⟨Tryz.prog, layF, Tryz.f112.ntmps, Γ0, 0, [], []⟩) layF_ok mixed Tryz.func112 rfl (by kernel_rfl) rfl rfl rfl ?_
 repeat' (first | refine qgs ?_ | refine eD ?_ ?_ <;> intro)
 refine ex_is 0 (by decide) ?_
 refine ex_is 18446744073709551615 (by decide) ?_
 refine ex_is l.length (by simp [byteRows]) ?_
 refine ex_loop (X := Nat × Nat) (fun ⟨q, n⟩ => ⟨[(1, Ti 16), (8, Tb false), (10, Tu 1152921504606846976), (11, Tu 18446744073709551615), (12, Tb false), (13, Tu n), (99, .o (c1 (.sl 1 (byteRows l)))), (100, Ti l.length), (101, Ti q)], [], 0⟩) (fun x => l.length - x.1) (fun ⟨q, n⟩ => q ≤ l.length ∧ n < 18446744073709551616 ∧ valF 16 n (l.drop q) = R) (0, 0) ⟨Nat.zero_le _, by decide, hR⟩ sS ?_
 rintro ⟨q, n⟩ ⟨hq, hn, hv⟩
 refine ex_dec (fun h => ?_) (fun h => ?_)
 ·have hql : q < l.length := by omega
  have hc : l[q]? = some l[q] := at_some hql
  have hm : l[q] ∈ l := List.getElem_mem hql
  rw [List.drop_eq_getElem_cons hql, valF] at hv
  generalize l[q] = c at *
  obtain ⟨h1, h2⟩ := hh c hm
  have h3 := lower_hex c
  have h4 := hex_bound c
  have hlow := lower_c c
  rw [h1] at h3 h4
  refine ex_byte q c rfl hc ?_
  have hcl := c.toNat_lt
  rcases hd : isDig c with _ | _ <;> rw [hd] at h3 h4
  ·have h6 : 10 ≤ hexN c ∧ hexN c < 16 := by simp at h4; omega
   have h5 : bits .or .u8 c.toNat 32 = (hexN c + 87 : Nat) := by simpa using h3
   rw [h5] at hlow
   have h7 : ¬ (48 ≤ c.toNat ∧ c.toNat ≤ 57) := by simp [isDig] at hd; omega
   have h9 : c.toNat ≠ 95 := by intro e; simp [isHex, isDig, e] at h1
   repeat' (first | refine ex_call hlow ?_ | refine aI ((q + 1 : Nat) : Int) ?_ | refine aU ((q + 1 : Nat) : Int) ?_ | refine aB ((q + 1 : Nat) : Int) ?_ | refine aI ((n * 16 + hexN c : Nat) : Int) ?_ | refine aU ((n * 16 + hexN c : Nat) : Int) ?_ | refine aB ((n * 16 + hexN c : Nat) : Int) ?_ | refine aI ((n * 16 : Nat) : Int) ?_ | refine aU ((n * 16 : Nat) : Int) ?_ | refine aB ((n * 16 : Nat) : Int) ?_ | refine aI ((hexN c : Nat) : Int) ?_ | refine aU ((hexN c : Nat) : Int) ?_ | refine aB ((hexN c : Nat) : Int) ?_ | refine qg1 ?_ | refine eD ?_ ?_ <;> intro)
   all_goals first
    | (rw [if_neg (by omega)] at hv; subst hv; exact TLe.rfl)
    | (rw [if_pos (by omega)] at hv; exact ex_round (q + 1, n * 16 + hexN c) ⟨by omega, by omega, hv⟩ (by show _ - _ < _ - _; omega) sS)
  ·have h6 : hexN c < 10 := by simp at h4; omega
   have h7 : 48 ≤ c.toNat ∧ c.toNat ≤ 57 := by simp [isDig] at hd; omega
   have h8 : hexN c = c.toNat - 48 := by unfold hexN; rw [if_pos h7.2]
   repeat' (first | refine aI ((q + 1 : Nat) : Int) ?_ | refine aU ((q + 1 : Nat) : Int) ?_ | refine aB ((q + 1 : Nat) : Int) ?_ | refine aI ((n * 16 + hexN c : Nat) : Int) ?_ | refine aU ((n * 16 + hexN c : Nat) : Int) ?_ | refine aB ((n * 16 + hexN c : Nat) : Int) ?_ | refine aI ((n * 16 : Nat) : Int) ?_ | refine aU ((n * 16 : Nat) : Int) ?_ | refine aB ((n * 16 : Nat) : Int) ?_ | refine aI ((hexN c : Nat) : Int) ?_ | refine aU ((hexN c : Nat) : Int) ?_ | refine aB ((hexN c : Nat) : Int) ?_ | refine qg1 ?_ | refine eD ?_ ?_ <;> intro)
   ·rw [if_neg (by omega)] at hv
    subst hv
    exact TLe.rfl
   ·rw [if_pos (by omega)] at hv
    exact ex_round (q + 1, n * 16 + hexN c) ⟨by omega, by omega, hv⟩ (by show _ - _ < _ - _; omega) sS
 ·rw [List.drop_eq_nil_of_le (by omega), valF] at hv
  subst hv
  repeat' (first | refine qgs ?_ | refine eD ?_ ?_ <;> intro)
  exact TLe.rfl
end Go.Proofs.YtoingpafcodojaaGreatDoor

namespace Go.Proofs.YtoingpafcodojaaGreatDoor
open Go.RowKit

theorem five_args {S : Nat → Prop} {w : World} {a b c d e : T1} {vs : List Value} (h : All2 (V1 ι0 S w) [a, b, c, d, e] vs) : ∃ u v x y z, vs = [u, v, x, y, z] ∧ V1 ι0 S w a u ∧ V1 ι0 S w b v ∧ V1 ι0 S w c x ∧ V1 ι0 S w d y ∧ V1 ι0 S w e z := by
 obtain ⟨u, vs, rfl, e0, h⟩ := h.cons_left
 obtain ⟨v, vs, rfl, e1, h⟩ := h.cons_left
 obtain ⟨x, y, z, rfl, e2, e3, e4⟩ := three_args h
 exact ⟨u, v, x, y, z, rfl, e0, e1, e2, e3, e4⟩
theorem toerr_c (fn s : ByteArray) (base bits : Int) (hs : s.size ≤ 281474976710656) : CallsA Tryz.prog ΓL 113 [c1 (ds fn), c1 (ds s), c1 (di base), c1 (di bits), c1 (.v rngE)] (.o (c1 .err)) :=
 ⟨⟨_, Tryz.func113, by kernel_rfl, rfl⟩, fun S w vs hS hG hvs => by
  obtain ⟨u, v, x, y, z, rfl, e0, e1, e2, e3, e4⟩ := five_args hvs
  obtain rfl := open_v e0
  obtain rfl := open_v e1
  obtain rfl := open_v e2
  obtain rfl := open_v e3
  obtain rfl := open_v e4
  obtain ⟨-, ⟨⟨ev, h1, h2⟩, -⟩, -⟩ := hG
  refine (Tryz.strconv_toError_range fn s base bits ev w hs h1 h2).mono fun e w' ⟨N, he, _, _, hb⟩ => ?_
  subst he
  exact flat_end hS hb Imm.err⟩
def tvPu : Option Nat → TV
 | some n => .tup [c1 (du n), c1 (.v .nilIface)]
 | none => .tup [c1 (du 18446744073709551615), c1 .err]
theorem pu_c (base : Nat) (hb : base = 10 ∨ base = 16) (l : List UInt8) (h0 : l ≠ []) (hl : l.length ≤ 16384) (hh : ∀ b ∈ l, isHex b = true ∧ hexN b < base) :
  CallsA Tryz.prog ΓL 80 [c1 (ds (bs l)), c1 (di base), c1 (di 64)] (tvPu (valF base 0 l)) := by
 have hi : CallsA Tryz.prog ΓL 112 [c1 (ds (bs l)), c1 (di base), c1 (di 64)] (tvP (valF base 0 l)) := by
  rcases hb with rfl | rfl
  ·exact (ipu10_c l h0 hl hh).gL
  ·exact (ipu16_c l h0 hl hh).gL
 have hsz := bs_size l
 have he := toerr_c ⟨#[80, 97, 114, 115, 101, 85, 105, 110, 116]⟩ (bs l) base 64 (by omega)
 cases hv : valF base 0 l with
 | none =>
  rw [hv] at hi
  refine fn_rule (C := ⟨Tryz.prog, layF, Tryz.f80.ntmps, ΓL, 0, [], []⟩) layF_ok mixed Tryz.func80 rfl (by kernel_rfl) rfl rfl rfl ?_
  repeat' (first | refine ex_call he ?_ | refine ex_call hi ?_ | refine qg1 ?_ | refine eD ?_ ?_ <;> intro)
  exact TLe.rfl
 | some n =>
  rw [hv] at hi
  refine fn_rule (C := ⟨Tryz.prog, layF, Tryz.f80.ntmps, ΓL, 0, [], []⟩) layF_ok mixed Tryz.func80 rfl (by kernel_rfl) rfl rfl rfl ?_
  repeat' (first | refine ex_call he ?_ | refine ex_call hi ?_ | refine qg1 ?_ | refine eD ?_ ?_ <;> intro)
  exact TLe.rfl
def gT (k : Nat) (t : List UInt8) (n l c : Nat) : T1 := gD [di k, ds (bs t), du n, di l, di c]
def tvT : TR → TV
 | .ok k t n => .tup [gT k t n 0 0, c1 (di 0)]
 | .err e => .tup [gT 0 [] 0 0 0, c1 (di e)]
theorem number_c (s : List UInt8) (h0 : s ≠ []) (hs : s.length ≤ 16384) : CallsA Tryz.prog ΓL 55 [c1 (ds (bs s))] (tvT (numF s)) := by
 have hd := (digits_c s hs).gL
 unfold digF at hd
 unfold numF
 have fin : ∀ (l : List UInt8) (base : Nat), base ≠ 0 → CallsA Tryz.prog ΓL 79 [c1 (ds (bs s))] (.tup [c1 (ds (bs l)), c1 (di base)]) →
   CallsA Tryz.prog ΓL 80 [c1 (ds (bs l)), c1 (di base), c1 (di 64)] (tvPu (valF base 0 l)) →
   CallsA Tryz.prog ΓL 55 [c1 (ds (bs s))] (tvT (numR s (valF base 0 l))) := by
  intro l base hb hd hp
  cases hv : valF base 0 l with
  | none =>
   rw [hv] at hp
   refine fn_rule (C := ⟨Tryz.prog, layF, Tryz.f55.ntmps, ΓL, 0, [], []⟩) layF_ok mixed Tryz.func55 rfl (by kernel_rfl) rfl rfl rfl ?_
   repeat' (first | refine ex_call hp ?_ | refine ex_call hd ?_ | refine qg1 ?_ | refine eD ?_ ?_ <;> intro)
   exact TLe.rfl
  | some n =>
   rw [hv] at hp
   refine fn_rule (C := ⟨Tryz.prog, layF, Tryz.f55.ntmps, ΓL, 0, [], []⟩) layF_ok mixed Tryz.func55 rfl (by kernel_rfl) rfl rfl rfl ?_
   repeat' (first | refine ex_call hp ?_ | refine ex_call hd ?_ | refine qg1 ?_ | refine eD ?_ ?_ <;> intro)
   exact TLe.rfl
 rcases h6 : sixteen s with _ | _ <;> rw [h6] at hd
 ·rcases hA : s.all isDig with _ | _ <;> rw [hA] at hd
  ·have hd : CallsA Tryz.prog ΓL 79 [c1 (ds (bs s))] (.tup [c1 (ds (bs [])), c1 (di 0)]) := hd
   refine fn_rule (C := ⟨Tryz.prog, layF, Tryz.f55.ntmps, ΓL, 0, [], []⟩) layF_ok mixed Tryz.func55 rfl (by kernel_rfl) rfl rfl rfl ?_
   repeat' (first | refine ex_call hd ?_ | refine qg1 ?_ | refine eD ?_ ?_ <;> intro)
   exact TLe.rfl
  ·refine fin s 10 (by decide) hd (pu_c 10 (.inl rfl) s h0 hs (fun b hb => ?_))
   have h1 := List.all_eq_true.1 hA b hb
   have h2 := hex_bound b
   have h3 : isHex b = true := by unfold isHex; rw [h1]; rfl
   rw [h3, h1] at h2
   simp at h2
   exact ⟨h3, by omega⟩
 ·have h7 := h6
  unfold sixteen at h7
  simp only [Bool.and_eq_true, decide_eq_true_eq] at h7
  refine fin (s.drop 2) 16 (by decide) hd (pu_c 16 (.inr rfl) (s.drop 2) (fun e => ?_) (by rw [List.length_drop]; omega) (fun b hb => ?_))
  ·have := congrArg List.length e
   rw [List.length_drop] at this
   simp at this
   omega
  ·have h1 := List.all_eq_true.1 h7.2.2 b hb
   have h2 := hex_bound b
   rw [h1] at h2
   simp at h2
   exact ⟨h1, h2.1⟩
theorem token_c (r : List UInt8) (p : Nat × Nat) (hr : r.length ≤ 16384) :
  CallsM Tryz.prog ΓL 36 [(0, Sc r p)] 1 [.c (.ptr 0 0)] (tvT (tokF r)) [(0, Sc r p)] [] := by
 have hR := (runR_c r hr).gL
 have hsz := bs_size r
 have hdl := drop_len alnum r
 have htl := take_len alnum r
 unfold tokF
 rcases hw : r.takeWhile alnum with _ | ⟨b, w⟩ <;> rw [hw] at hR hdl htl
 ·dsimp only
  obtain ⟨R, hR2⟩ : ∃ R, signF r = R := ⟨_, rfl⟩
  rw [hR2]
  refine fn_ruleM (C := ⟨Tryz.prog, layF, Tryz.f36.ntmps, ΓL, 1, [], []⟩) layF_ok mixed Tryz.func36 rfl (by kernel_rfl) rfl rfl rfl ?_
  repeat' (first | refine ex_call hR ?_ | refine qg1 ?_ | refine eD ?_ ?_ <;> intro)
  refine ex_loop (X := Nat) (fun q => ⟨[(0, .o (.c (.ptr 0 0))), (2, .o (.c (.ptr 1 0))), (35, .o (.g (signsL.map fun l => .d (ds (bs l))))), (36, Ti q)], [(0, Sc r p), (1, .obj [.d (di 0), .d (ds (bs [])), .d (du 0), .d (di 0), .d (di 0)])], 2⟩) (fun q => 29 - q) (fun q => q ≤ 29 ∧ (signsL.drop q).find? (·.isPrefixOf r) = R) 0 ⟨by decide, hR2⟩ sS ?_
  rintro q ⟨hq, hs⟩
  refine ex_dec (fun h => ?_) (fun h => ?_)
  ·have hql : q < signsL.length := by rw [show signsL.length = 29 from rfl]; omega
   have hc : signsL[q]? = some signsL[q] := at_some hql
   have hix : List.take 1 (List.drop (((q : Nat) : Int).toNat * 1) (signsL.map fun l => CV.d (ds (bs l)))) = [CV.d (ds (bs signsL[q]))] := by
    rw [Int.toNat_natCast, Nat.mul_one, ← List.map_drop, List.drop_eq_getElem_cons hql, List.map_cons, List.take_succ_cons, List.take_zero]
   rw [List.drop_eq_getElem_cons hql, List.find?_cons] at hs
   generalize signsL[q] = c at *
   refine ⟨by omega, by omega, ex_is _ hix ?_⟩
   have hp := prefix_c ΓL r c
   rcases hpr : c.isPrefixOf r with _ | _
   ·rw [hpr] at hs
    rw [show Lib.hasPrefix r c = false from hpr] at hp
    refine ex_call (hp) ?_
    repeat' (first | refine aI ((q + 1 : Nat) : Int) ?_ | refine aU ((q + 1 : Nat) : Int) ?_ | refine aB ((q + 1 : Nat) : Int) ?_ | refine qg1 ?_ | refine eD ?_ ?_ <;> intro)
    exact ex_round (q + 1) ⟨by omega, hs⟩ (by show _ - _ < _ - _; omega) sS
   ·rw [hpr] at hs
    subst hs
    rw [show Lib.hasPrefix r c = true from hpr] at hp
    refine ex_call (hp) ?_
    repeat' (first | refine qgs ?_ | refine eD ?_ ?_ <;> intro)
    exact ⟨rfl, TLe.rfl, rfl, rfl⟩
  ·have : q = 29 := by omega
   subst this
   subst hs
   exact ⟨rfl, TLe.rfl, rfl, rfl⟩
 ·have hwl : (b :: w).length ≤ r.length := by omega
  have hD := (runD_c (b :: w) (by omega)).gL
  have hN := number_c (b :: w) (by simp) (by omega)
  have hE := ext_take r (b :: w).length
  rw [htl] at hE
  have hbd : 0 < (b :: w).length := by simp
  dsimp only
  rcases hb : isDig b with _ | _
  ·have hD0 : ((b :: w).takeWhile isDig).length = 0 := by rw [List.takeWhile_cons, hb]; rfl
   rw [hD0] at hD
   generalize b :: w = y at *
   by_cases h32 : y.length ≤ 32
   ·rw [if_neg (by decide), if_pos h32]
    refine fn_ruleM (C := ⟨Tryz.prog, layF, Tryz.f36.ntmps, ΓL, 1, [], []⟩) layF_ok mixed Tryz.func36 rfl (by kernel_rfl) rfl rfl rfl ?_
    repeat' (first | refine ex_call hR ?_ | refine qg1 ?_ | refine eD ?_ ?_ <;> intro)
    rw [hE]
    repeat' (first | refine ex_call hD ?_ | refine qg1 ?_ | refine eD ?_ ?_ <;> intro)
    exact ⟨rfl, TLe.rfl, rfl, rfl⟩
   ·rw [if_neg (by decide), if_neg h32]
    refine fn_ruleM (C := ⟨Tryz.prog, layF, Tryz.f36.ntmps, ΓL, 1, [], []⟩) layF_ok mixed Tryz.func36 rfl (by kernel_rfl) rfl rfl rfl ?_
    repeat' (first | refine ex_call hR ?_ | refine qg1 ?_ | refine eD ?_ ?_ <;> intro)
    rw [hE]
    repeat' (first | refine ex_call hD ?_ | refine qg1 ?_ | refine eD ?_ ?_ <;> intro)
    exact ⟨rfl, TLe.rfl, rfl, rfl⟩
  ·have hD0 : 0 < ((b :: w).takeWhile isDig).length := by rw [List.takeWhile_cons, hb]; simp
   rw [if_pos rfl]
   generalize b :: w = y at *
   generalize (y.takeWhile isDig).length = d at *
   rcases hn : numF y with ⟨k, t, n⟩ | e <;> rw [hn] at hN
   ·
    refine fn_ruleM (C := ⟨Tryz.prog, layF, Tryz.f36.ntmps, ΓL, 1, [], []⟩) layF_ok mixed Tryz.func36 rfl (by kernel_rfl) rfl rfl rfl ?_
    repeat' (first | refine ex_call hR ?_ | refine qg1 ?_ | refine eD ?_ ?_ <;> intro)
    rw [hE]
    repeat' (first | refine ex_call hN ?_ | refine ex_call hD ?_ | refine qg1 ?_ | refine eD ?_ ?_ <;> intro)
    exact ⟨rfl, TLe.rfl, rfl, rfl⟩
   ·
    refine fn_ruleM (C := ⟨Tryz.prog, layF, Tryz.f36.ntmps, ΓL, 1, [], []⟩) layF_ok mixed Tryz.func36 rfl (by kernel_rfl) rfl rfl rfl ?_
    repeat' (first | refine ex_call hR ?_ | refine qg1 ?_ | refine eD ?_ ?_ <;> intro)
    rw [hE]
    repeat' (first | refine ex_call hN ?_ | refine ex_call hD ?_ | refine qg1 ?_ | refine eD ?_ ?_ <;> intro)
    exact ⟨rfl, TLe.rfl, rfl, rfl⟩
end Go.Proofs.YtoingpafcodojaaGreatDoor

namespace Go.Proofs.YtoingpafcodojaaGreatDoor
open Go.RowKit

def tokD (t : TokP) : List D := [di t.k, ds (bs t.t), du t.n, di t.l, di t.c]
def lexT : LR → TV
 | .ok ts => .tup [c1 (.sl 5 (ts.map tokD)), gD [di 0, di 0], c1 (di 0)]
 | .err l c e => .tup [c1 (.sl 5 []), gD [di l, di c], c1 (di e)]
def lexV (s : List UInt8) : LR := if s.length ≤ 16384 then lexF s 1 1 else .err 1 1 7
theorem passF_facts (r : List UInt8) (p : Nat × Nat) (h : Bd p r.length) : lexF r p.1 p.2 = lexF (passF r p).1 (passF r p).2.1 (passF r p).2.2 ∧ Due (passF r p).1 ∧ Bd (passF r p).2 (passF r p).1.length ∧ (passF r p).1.length ≤ r.length := passN_facts _ r p (Nat.lt_succ_self _) h
theorem TLe.nilc {s : Nat} {l : List T1} : TLe (.tup (c1 (.v (.slice none 0 0)) :: l)) (.tup (c1 (.sl s []) :: l)) := fun ι S w v ⟨us, hu, h⟩ => by
 have h : All2 (V1 ι S w) (c1 (.v (.slice none 0 0)) :: l) us := h
 obtain ⟨u, us, rfl, e, h⟩ := h.cons_left
 exact ⟨u :: us, hu, .cons (TLe.nil ι S w u e) h⟩
theorem numF_err {s : List UInt8} {e : Nat} (h : numF s = .err e) : 4 ≤ e ∧ e ≤ 7 := by
 unfold numF at h
 split at h
 ·revert h; cases valF 16 0 (s.drop 2) <;> intro h <;> cases h; decide
 ·split at h
  ·revert h; cases valF 10 0 s <;> intro h <;> cases h; decide
  ·cases h; decide
theorem tokF_err {r : List UInt8} {e : Nat} (h : tokF r = .err e) : 4 ≤ e ∧ e ≤ 7 := by
 unfold tokF at h
 split at h
 ·split at h
  ·cases h; decide
  ·cases h
 ·split at h
  ·exact numF_err h
  ·split at h
   ·cases h
   ·cases h; decide
abbrev Pz : Blk := .obj [.d (di 0), .d (di 0)]
theorem lex_c (s : List UInt8) : CallsA Tryz.prog ΓL 19 [c1 (ds (bs s))] (lexT (lexV s)) := by
 have hsz := bs_size s
 unfold lexV
 by_cases hs : s.length ≤ 16384
 ·rw [if_pos hs]
  obtain ⟨R, hR⟩ : ∃ R, lexF s 1 1 = R := ⟨_, rfl⟩
  rw [hR]
  refine fn_rule (C := ⟨Tryz.prog, layF, Tryz.f19.ntmps, ΓL, 0, [], []⟩) layF_ok mixed Tryz.func19 rfl (by kernel_rfl) rfl rfl rfl ?_
  repeat' (first | refine qgs ?_ | refine eD ?_ ?_ <;> intro)
  refine ex_loop (X := List UInt8 × Nat × Nat × List TokP) (fun ⟨r, u, v, o⟩ => ⟨[(3, .o (.c (.ptr 0 0))), (5, .o (.c (.ptr 1 0))), (6, .o (.c (.row 2)))], [(0, Pz), (1, Sc r (u, v)), (2, .row 5 137 (o.map tokD))], 3⟩) (fun x => x.1.length)
   (fun ⟨r, u, v, o⟩ => Bd (u, v) r.length ∧ o.length + r.length ≤ s.length ∧ (lexF r u v).pre o = R) (s, 1, 1, []) ⟨⟨by decide, by decide, by show 1 + _ ≤ _; omega, by show 1 + _ ≤ _; omega⟩, by simp, by rw [hR]; cases R <;> rfl⟩ (SLe.trans sS (SLe.own 6 2 5 137 rfl rfl rfl rfl rfl)) ?_
  rintro ⟨r, u, v, o⟩ ⟨hb, hol, hs2⟩
  obtain ⟨e1, e2, e3, e4⟩ := passF_facts r (u, v) hb
  have hp := pass_c r (u, v) hb
  rw [e1] at hs2
  generalize passF r (u, v) = Q at *
  obtain ⟨x, u, v⟩ := Q
  dsimp only at e1 e2 e3 e4 hs2 hp
  refine ex_callM (CallsM.ren (hp) [1] 3 rfl rfl rfl rfl) ?_
  have hxs := bs_size x
  rcases x with _ | ⟨b, y⟩
  ·rw [lexF_nil] at hs2
   subst hs2
   repeat' (first | refine qgs ?_ | refine eD ?_ ?_ <;> intro)
   refine ex_app (o.length) (1) 1000 (by first | rfl | (simp; done) | (simp; omega)) (by first | rfl | (simp; done) | (simp; omega)) rfl (by omega) ?_
   refine ex_is (List.map tokD (o ++ [(⟨3, [], 0, u, v⟩ : TokP)])) (by rw [List.map_append]; rfl) ?_
   repeat' (first | refine qgs ?_ | refine eD ?_ ?_ <;> intro)
   exact TLe.rfl
  ·have hne := size_pos (l := b :: y) (by simp)
   have hx0 : b :: y ≠ [] := by simp
   have hxl : 1 ≤ (b :: y).length := by simp
   generalize b :: y = x at *
   refine ex_false hne ?_
   have ht := token_c x (u, v) (by omega)
   rw [lexF_tok u v hx0 e2.2 e2.1] at hs2
   rcases hk : tokF x with ⟨k, t, n⟩ | e <;> rw [hk] at ht hs2
   ·dsimp only at hs2
    obtain ⟨⟨X, hX⟩, ht0, hk3, ht10⟩ := tokF_ok hk
    refine ex_callM (CallsM.ren (ht) [1] 3 rfl rfl rfl rfl) ?_
    repeat' (first | refine qgs ?_ | refine eD ?_ ?_ <;> intro)
    refine ex_app (o.length) (1) 1000 (by first | rfl | (simp; done) | (simp; omega)) (by first | rfl | (simp; done) | (simp; omega)) rfl (by omega) ?_
    refine ex_is (List.map tokD (o ++ [(⟨k, t, n, u, v⟩ : TokP)])) (by rw [List.map_append]; rfl) ?_
    repeat' (first | refine qgs ?_ | refine eD ?_ ?_ <;> intro)
    have hbt := bs_size t
    have hxt : x.length = t.length + X.length := by rw [hX, List.length_append]
    have hsk := skip_c x (u, v) (bs t).size (by omega) (by omega) (by have := e3.2.2.1; show u ≤ _; omega) (by have := e3.2.2.2; show v ≤ _; omega)
    have hq : (x.take (bs t).size).foldl skipP (u, v) = (u, v + t.length) := by rw [hbt, hX, List.take_left, skip_line t u v ht10]
    have hdr : x.drop (bs t).size = X := by rw [hbt, hX, List.drop_left]
    rw [hq, hdr] at hsk
    rw [← hbt, hdr, hbt, LR.pre_pre] at hs2
    refine ex_callM (CallsM.ren (hsk.of0) [1] 6 rfl rfl rfl rfl) ?_
    have hpos : 0 < t.length := List.length_pos_iff.2 ht0
    exact ex_round (X, u, v + t.length, o ++ [⟨k, t, n, u, v⟩]) ⟨⟨e3.1, by have := e3.2.1; show 1 ≤ v + _; omega, by have := e3.2.2.1; show u + _ ≤ _; omega, by have := e3.2.2.2; show v + _ + _ ≤ _; omega⟩, by show (o ++ [_]).length + X.length ≤ _; rw [List.length_append, List.length_cons, List.length_nil]; omega, hs2⟩ (by show X.length < r.length; omega) (sR [(0, 0), (1, 1), (5, 2)])
   ·have he := tokF_err hk
    subst hs2
    refine ex_callM (CallsM.ren (ht) [1] 3 rfl rfl rfl rfl) ?_
    repeat' (first | refine qgs ?_ | refine eD ?_ ?_ <;> intro)
    exact TLe.nilc
 ·rw [if_neg hs]
  refine fn_rule (C := ⟨Tryz.prog, layF, Tryz.f19.ntmps, ΓL, 0, [], []⟩) layF_ok mixed Tryz.func19 rfl (by kernel_rfl) rfl rfl rfl ?_
  repeat' (first | refine qgs ?_ | refine eD ?_ ?_ <;> intro)
  exact TLe.nilc
end Go.Proofs.YtoingpafcodojaaGreatDoor

namespace Go.Proofs.YtoingpafcodojaaGreatDoor
open Go.RowKit

def intsD (l : List Int) : D := .sl 1 (l.map fun k => [di k])
def exD (x : EX) : List D := [di x.k, ds (bs x.op), du x.n, ds (bs x.nm), intsD x.kids]
def caD (c : CA) : List D := [du c.n, di c.t]
def tyD (t : TY) : List D := [di t.k, di t.size, db t.little, ds (bs t.nm), intsD t.args, di t.ex, di t.inn, .sl 2 (t.cases.map caD)]
def sbD (s : SB) : List D := [ds (bs s.nm), di s.bits]
def itD (x : IT) : List D := [ds (bs x.nm), di x.ty, di x.der, ds (bs x.a), ds (bs x.b), di x.wh, di x.size, db x.little, .sl 2 (x.subs.map sbD)]
def rcD (r : RC) : List D := [ds (bs r.nm), .sl 1 (r.ps.map fun p => [ds (bs p)]), .sl 9 (r.its.map itD)]
def coD (c : CO) : List D := [ds (bs c.nm), du c.n]
abbrev Qz (L : List TokP) (m i : Nat) : Blk := .obj [.d (.sl 5 (L.map tokD)), .d (di i), .d (di (32 - (m : Int))), .ptr 1 0]
abbrev Fz (a b c d : Nat) : Blk := .obj [.row a, .row b, .row c, .row d]
abbrev Xz (l : List EX) : Blk := .row 5 77 (l.map exD)
abbrev Tz (l : List TY) : Blk := .row 8 57 (l.map tyD)
abbrev fltV (l c e : Nat) : Value := .iface 89 (.agg #[.int .i64 l, .int .i64 c, .int .i64 e])
abbrev flt (L : List TokP) (i e : Nat) : Value := fltV (tk L i).l (tk L i).c e
def PR.tv {α : Type} (L : List TokP) (g : α → TV) : PR α → TV
 | .ok v _ => g v
 | .err i e => .pan (flt L i e)
def PR.u0 {α : Type} (L : List TokP) (m : Nat) : PR α → List (Nat × Blk)
 | .ok _ s => [(0, Qz L m s.i)]
 | .err _ _ => [(0, .dead)]
def PR.u1 {α : Type} (L : List TokP) (m : Nat) : PR α → List (Nat × Blk)
 | .ok _ s => [(0, Qz L m s.i), (1, Fz 2 3 6 5), (4, .dead)]
 | .err _ _ => [(0, .dead), (1, .dead), (4, .dead)]
def PR.n1 {α : Type} : PR α → List Blk
 | .ok _ s => [Xz s.xs]
 | .err _ _ => []
def PR.u2 {α : Type} (L : List TokP) (m : Nat) : PR α → List (Nat × Blk)
 | .ok _ s => [(0, Qz L m s.i), (1, Fz 2 3 6 7), (4, .dead), (5, .dead)]
 | .err _ _ => [(0, .dead), (1, .dead), (4, .dead), (5, .dead)]
def PR.n2 {α : Type} : PR α → List Blk
 | .ok _ s => [Xz s.xs, Tz s.ts]
 | .err _ _ => []
abbrev P0 : T1 := .c (.ptr 0 0)
def C0 (L : List TokP) (m : Nat) (f : FuncId) (xs : List T1) {α : Type} (x : PM α) (g : α → TV) (s : PS) : Prop := CallsM Tryz.prog ΓL f [(0, Qz L m s.i)] 2 (P0 :: xs) ((x s).tv L g) ((x s).u0 L m) []
def C1 (L : List TokP) (m : Nat) (f : FuncId) (xs : List T1) {α : Type} (x : PM α) (g : α → TV) (s : PS) : Prop := CallsM Tryz.prog ΓL f [(0, Qz L m s.i), (1, Fz 2 3 4 5), (4, Xz s.xs)] 6 (P0 :: xs) ((x s).tv L g) ((x s).u1 L m) (x s).n1
def C2 (L : List TokP) (m : Nat) (f : FuncId) (xs : List T1) {α : Type} (x : PM α) (g : α → TV) (s : PS) : Prop := CallsM Tryz.prog ΓL f [(0, Qz L m s.i), (1, Fz 2 3 4 5), (4, Xz s.xs), (5, Tz s.ts)] 6 (P0 :: xs) ((x s).tv L g) ((x s).u2 L m) (x s).n2
section
variable {L : List TokP} {m : Nat} {f : FuncId} {xs : List T1} {α : Type} {x : PM α} {g : α → TV} {s s' : PS} {v : α} {i e : Nat}
theorem C0.ok (h : C0 L m f xs x g s) (hx : x s = .ok v s') : CallsM Tryz.prog ΓL f [(0, Qz L m s.i)] 2 (P0 :: xs) (g v) [(0, Qz L m s'.i)] [] := by unfold C0 at h; rw [hx] at h; exact h
theorem C0.err (h : C0 L m f xs x g s) (hx : x s = .err i e) : CallsM Tryz.prog ΓL f [(0, Qz L m s.i)] 2 (P0 :: xs) (.pan (flt L i e)) [(0, .dead)] [] := by unfold C0 at h; rw [hx] at h; exact h
theorem C1.ok (h : C1 L m f xs x g s) (hx : x s = .ok v s') : CallsM Tryz.prog ΓL f [(0, Qz L m s.i), (1, Fz 2 3 4 5), (4, Xz s.xs)] 6 (P0 :: xs) (g v) [(0, Qz L m s'.i), (1, Fz 2 3 6 5), (4, .dead)] [Xz s'.xs] := by unfold C1 at h; rw [hx] at h; exact h
theorem C1.err (h : C1 L m f xs x g s) (hx : x s = .err i e) : CallsM Tryz.prog ΓL f [(0, Qz L m s.i), (1, Fz 2 3 4 5), (4, Xz s.xs)] 6 (P0 :: xs) (.pan (flt L i e)) [(0, .dead), (1, .dead), (4, .dead)] [] := by unfold C1 at h; rw [hx] at h; exact h
theorem C2.ok (h : C2 L m f xs x g s) (hx : x s = .ok v s') : CallsM Tryz.prog ΓL f [(0, Qz L m s.i), (1, Fz 2 3 4 5), (4, Xz s.xs), (5, Tz s.ts)] 6 (P0 :: xs) (g v) [(0, Qz L m s'.i), (1, Fz 2 3 6 7), (4, .dead), (5, .dead)] [Xz s'.xs, Tz s'.ts] := by unfold C2 at h; rw [hx] at h; exact h
theorem C2.err (h : C2 L m f xs x g s) (hx : x s = .err i e) : CallsM Tryz.prog ΓL f [(0, Qz L m s.i), (1, Fz 2 3 4 5), (4, Xz s.xs), (5, Tz s.ts)] 6 (P0 :: xs) (.pan (flt L i e)) [(0, .dead), (1, .dead), (4, .dead), (5, .dead)] [] := by unfold C2 at h; rw [hx] at h; exact h
theorem C0.of (h : ∀ T, x s = T → CallsM Tryz.prog ΓL f [(0, Qz L m s.i)] 2 (P0 :: xs) (T.tv L g) (T.u0 L m) []) : C0 L m f xs x g s := h _ rfl
theorem C1.of (h : ∀ T, x s = T → CallsM Tryz.prog ΓL f [(0, Qz L m s.i), (1, Fz 2 3 4 5), (4, Xz s.xs)] 6 (P0 :: xs) (T.tv L g) (T.u1 L m) T.n1) : C1 L m f xs x g s := h _ rfl
theorem C2.of (h : ∀ T, x s = T → CallsM Tryz.prog ΓL f [(0, Qz L m s.i), (1, Fz 2 3 4 5), (4, Xz s.xs), (5, Tz s.ts)] 6 (P0 :: xs) (T.tv L g) (T.u2 L m) T.n2) : C2 L m f xs x g s := h _ rfl
theorem Up.ok {a b c : Nat} (h : Up L x a b) (hs : SOk L (c + a) s) (hx : x s = .ok v s') : SOk L (c + b) s' ∧ s.i ≤ s'.i := by have := h s c hs; rw [hx] at this; exact this
end
section
variable {P : Program} {Γ : Glob} {f : FuncId} {nx : Nat} {xs : List T1} {r : TV} {upd : List (Nat × Blk)} {new : List Blk} {a b c d : Nat × Blk} {m : List (Nat × Blk)}
theorem CallsM.more0 (h : CallsM P Γ f [a] nx xs r upd new) : CallsM P Γ f (a :: m) nx xs r upd new := h.more fun p hp => by
 simp only [List.mem_cons, List.not_mem_nil, or_false] at hp ⊢; exact .inl hp
theorem CallsM.more1 (h : CallsM P Γ f [a, b, c] nx xs r upd new) : CallsM P Γ f (a :: b :: c :: m) nx xs r upd new := h.more fun p hp => by
 simp only [List.mem_cons, List.not_mem_nil, or_false] at hp ⊢; rcases hp with hp | hp | hp <;> simp [hp]
theorem CallsM.moreL (h : CallsM P Γ f [a, b, d] nx xs r upd new) : CallsM P Γ f (a :: b :: c :: d :: m) nx xs r upd new := h.more fun p hp => by
 simp only [List.mem_cons, List.not_mem_nil, or_false] at hp ⊢; rcases hp with hp | hp | hp <;> simp [hp]
end
theorem bsj {l m : List UInt8} : bs l = bs m ↔ l = m := ⟨fun h => by simpa [bs] using h, fun h => by rw [h]⟩
theorem at_pos {α : Type} {p : Nat → Bool} {x y : PM α} {s : PS} (h : p s.i = true) : atM p x y s = x s := if_pos h
theorem at_neg {α : Type} {p : Nat → Bool} {x y : PM α} {s : PS} (h : p s.i = false) : atM p x y s = y s := if_neg (by rw [h]; decide)

section
variable {L : List TokP} {m : Nat}
theorem tk_at {i : Nat} (h : i < L.length) : L[i]? = some (tk L i) := by
 unfold tk
 rw [List.getD_eq_getElem?_getD, List.getElem?_eq_getElem h]; rfl
theorem ahead_c (i : Nat) (h : i < L.length) : CallsM Tryz.prog ΓL 42 [(0, Qz L m i)] 2 [P0] (.o (gD (tokD (tk L i)))) [(0, Qz L m i)] [] := by
 refine fn_ruleM (C := ⟨Tryz.prog, layF, Tryz.f42.ntmps, ΓL, 2, [], []⟩) layF_ok mixed Tryz.func42 rfl (by kernel_rfl) rfl rfl rfl ?_
 repeat' (first | refine (ex_row i _ rfl (tk_at h)) ?_ | refine qg1 ?_ | refine eD ?_ ?_ <;> intro)
 exact ⟨rfl, TLe.rfl, rfl, rfl⟩
theorem fail_c (i e : Nat) (h : i < L.length) : CallsM Tryz.prog ΓL 43 [(0, Qz L m i)] 2 [P0, c1 (di e)] (.pan (flt L i e)) [(0, .dead)] [] := by
 refine fn_ruleP (C := ⟨Tryz.prog, layF, Tryz.f43.ntmps, ΓL, 2, [], []⟩) layF_ok mixed Tryz.func43 rfl (by kernel_rfl) rfl rfl rfl SLe.rfl ?_
 refine ex_callM (CallsM.ren ((ahead_c i h)) [0, 1] 2 rfl rfl rfl rfl) ?_
 repeat' (first | refine qgs ?_ | refine eD ?_ ?_ <;> intro)
 exact ⟨⟨_, rfl, rfl⟩, rfl, rfl⟩
end
end Go.Proofs.YtoingpafcodojaaGreatDoor

namespace Go.Proofs.YtoingpafcodojaaGreatDoor
open Go.RowKit

def eiD (x : EI) : List D := [di x.k, ds (bs x.op), du x.n, ds (bs x.nm), intsD x.kids]
theorem exD_map (xs : List EX) : xs.map exD = (xs.map EX.ei).map eiD := by rw [List.map_map]; rfl
def wantV (k : Int) : Nat × Bool := if k = 0 ∨ k = 1 then (0, true) else if k = 2 then (1, true) else if k = 3 then (2, true) else (0, false)
theorem want_c (x : EI) : CallsA Tryz.prog Γ0 48 [gD (eiD x)] (.tup [c1 (di (wantV x.k).1), c1 (db (wantV x.k).2)]) := by
 obtain ⟨k, op, n, nm, kids⟩ := x
 unfold eiD
 dsimp only
 by_cases h0 : k = 0
 ·rw [show wantV k = (0, true) by simp [wantV, h0]]
  refine fn_rule (C := ⟨Tryz.prog, layF, Tryz.f48.ntmps, Γ0, 0, [], []⟩) layF_ok mixed Tryz.func48 rfl (by kernel_rfl) rfl rfl rfl ?_
  repeat' (first | refine qgs ?_ | refine eD ?_ ?_ <;> intro)
  exact TLe.rfl
 by_cases h1 : k = 1
 ·rw [show wantV k = (0, true) by simp [wantV, h1]]
  refine fn_rule (C := ⟨Tryz.prog, layF, Tryz.f48.ntmps, Γ0, 0, [], []⟩) layF_ok mixed Tryz.func48 rfl (by kernel_rfl) rfl rfl rfl ?_
  repeat' (first | refine qgs ?_ | refine eD ?_ ?_ <;> intro)
  exact TLe.rfl
 by_cases h2 : k = 2
 ·rw [show wantV k = (1, true) by simp [wantV, h2]]
  refine fn_rule (C := ⟨Tryz.prog, layF, Tryz.f48.ntmps, Γ0, 0, [], []⟩) layF_ok mixed Tryz.func48 rfl (by kernel_rfl) rfl rfl rfl ?_
  repeat' (first | refine qgs ?_ | refine eD ?_ ?_ <;> intro)
  exact TLe.rfl
 by_cases h3 : k = 3
 ·rw [show wantV k = (2, true) by simp [wantV, h3]]
  refine fn_rule (C := ⟨Tryz.prog, layF, Tryz.f48.ntmps, Γ0, 0, [], []⟩) layF_ok mixed Tryz.func48 rfl (by kernel_rfl) rfl rfl rfl ?_
  repeat' (first | refine qgs ?_ | refine eD ?_ ?_ <;> intro)
  exact TLe.rfl
 ·rw [show wantV k = (0, false) by simp [wantV, h0, h1, h2, h3]]
  refine fn_rule (C := ⟨Tryz.prog, layF, Tryz.f48.ntmps, Γ0, 0, [], []⟩) layF_ok mixed Tryz.func48 rfl (by kernel_rfl) rfl rfl rfl ?_
  repeat' (first | refine qgs ?_ | refine eD ?_ ?_ <;> intro)
  exact TLe.rfl
def gk (g : List Bool) (k : Int) : Bool := decide (0 ≤ k) && (decide (k < g.length) && g.getD k.toNat false)
theorem kidE_gk (ts : List (Option ET)) (k : Int) : (kidE ts k).isSome = gk (ts.map Option.isSome) k := by
 unfold kidE gk
 by_cases h : 0 ≤ k
 ·rw [if_pos h, decide_eq_true h, Bool.true_and, List.length_map]
  obtain ⟨j, rfl⟩ : ∃ j : Nat, k = j := ⟨k.toNat, by omega⟩
  rw [Int.toNat_natCast, List.getD_eq_getElem?_getD, List.getElem?_map]
  by_cases hj : j < ts.length
  ·rw [decide_eq_true (by omega), Bool.true_and, List.getElem?_eq_getElem hj]
   cases ts[j] <;> rfl
  ·rw [decide_eq_false (by omega), List.getElem?_eq_none (by omega)]
   rfl
 ·rw [if_neg h, decide_eq_false h]
  rfl
def okX (g : List Bool) (x : EI) : Bool := ((wantV x.k).2 && (decide ((wantV x.k).1 = 0) || decide (x.kids.length = (wantV x.k).1))) && (x.kids.take (min (wantV x.k).1 x.kids.length)).all (gk g)
theorem treeE_ok (ts : List (Option ET)) (x : EI) : (treeE ts x).isSome = okX (ts.map Option.isSome) x := by
 unfold treeE okX wantV
 by_cases h0 : x.k = 0
 ·simp [h0]
 by_cases h1 : x.k = 1
 ·simp [h1]
 by_cases h2 : x.k = 2
 ·rcases hk : x.kids with _ | ⟨a, _ | ⟨b, r⟩⟩
  ·simp [h2]
  ·simp [h2, ← kidE_gk]
  ·simp [h2]
 by_cases h3 : x.k = 3
 ·rcases hk : x.kids with _ | ⟨a, _ | ⟨b, _ | ⟨c, r⟩⟩⟩
  ·simp [h3]
  ·simp [h3]
  ·have ha := kidE_gk ts a
   have hb := kidE_gk ts b
   rcases hA : kidE ts a with _ | t <;> rcases hB : kidE ts b with _ | u <;> rw [hA] at ha <;> rw [hB] at hb <;> simp [h3, ← ha, ← hb, hA, hB]
  ·simp [h3]
 ·simp [h0, h1, h2, h3]
abbrev Br (l : List Bool) : Blk := .row 1 4 (l.map fun b => [db b])
theorem all_take {α : Type} (f : α → Bool) (l : List α) (q : Nat) (k : α) (h : l[q]? = some k) : (l.take (q + 1)).all f = ((l.take q).all f && f k) := by
 rw [List.take_add_one, h]
 simp
theorem rep_set {g : List Bool} {m : Nat} (b : Bool) : (g ++ List.replicate (m + 1) false).set g.length b = (g ++ [b]) ++ List.replicate m false := by
 rw [List.set_append_right _ _ (Nat.le_refl _), Nat.sub_self, List.replicate_succ, List.set_cons_zero, List.append_assoc]
 rfl
theorem ex_br {l : List Bool} {j : Nat} {v : Bool} {K : List D → Prop} (h : l[j]? = some v) (k : K [db v]) : ∃ r, (l.map fun b => [db b])[((j : Nat) : Int).toNat]? = some r ∧ K r := ⟨[db v], by rw [Int.toNat_natCast, List.getElem?_map, h]; rfl, k⟩
set_option maxHeartbeats 4000000 in
theorem may_c (xs : List EI) (n : Nat) (h : n < xs.length) (hl : xs.length ≤ 1000000) (hk : ∀ x ∈ xs, x.kids.length ≤ 1000000) : CallsA Tryz.prog Γ0 30 [c1 (.sl 5 (xs.map eiD)), c1 (di n)] (Tb (exprE xs n).isSome) := by
 obtain ⟨ys, hys⟩ : ∃ ys, xs.take (n + 1) = ys := ⟨_, rfl⟩
 have hyl : ys.length = n + 1 := by rw [← hys, List.length_take]; omega
 have m1 : ((xs.map eiD).take (((n + 1 : Nat) : Int)).toNat).drop ((0 : Int)).toNat = ys.map eiD := by rw [← hys]; simp [List.map_take]
 have m2 : (ys.map eiD).length = n + 1 := by rw [List.length_map, hyl]
 have m3 : List.replicate (((n + 1 : Nat) : Int)).toNat [D.v (.bool false)] = (List.replicate (n + 1) false).map fun b => [db b] := by rw [List.map_replicate]; rfl
 obtain ⟨G, hG⟩ : ∃ G : List Bool, (treesE ys).map Option.isSome = G := ⟨_, rfl⟩
 have hGl : G.length = n + 1 := by rw [← hG, List.length_map, treesE_len, hyl]
 have hGat : ∀ i x, ys[i]? = some x → G[i]? = some (okX (G.take i) x) := fun i x hx => by
  rw [← hG, List.getElem?_map, treesE_at hx, ← List.map_take, ← treeE_ok]
  rfl
 have hres : (exprE xs n).isSome = G.getD n false := by
  have h1 : (exprE xs n).isSome = gk ((treesE xs).map Option.isSome) n := kidE_gk _ _
  rw [h1]
  unfold gk
  rw [decide_eq_true (by omega), decide_eq_true (by rw [List.length_map, treesE_len]; omega), Bool.true_and, Bool.true_and, Int.toNat_natCast, ← hG, ← hys, treesE_take, List.getD_eq_getElem?_getD, List.getD_eq_getElem?_getD, List.getElem?_map, List.getElem?_map, List.getElem?_take, if_pos (by omega)]
 rw [hres]
 have hkk : ∀ x ∈ ys, x.kids.length ≤ 1000000 := fun x hx => hk x (by rw [← hys] at hx; exact List.mem_of_mem_take hx)
 refine fn_rule (C := ⟨Tryz.prog, layF, Tryz.f30.ntmps, Γ0, 0, [6,10], []⟩) layF_ok mixed Tryz.func30 rfl (by kernel_rfl) rfl rfl rfl ?_
 repeat' (first | refine aI ((n + 1 : Nat) : Int) ?_ | refine aU ((n + 1 : Nat) : Int) ?_ | refine aB ((n + 1 : Nat) : Int) ?_ | refine qg1 ?_ | refine eD ?_ ?_ <;> intro)
 refine and_mk (by rw [Int.toNat_natCast]; show (n + 1) * (1 + 1) ≤ 140737488355328; omega) ?_
 refine ex_is _ m3 ?_
 repeat' (first | refine aI ((n + 1 : Nat) : Int) ?_ | refine aU ((n + 1 : Nat) : Int) ?_ | refine aB ((n + 1 : Nat) : Int) ?_ | refine qg1 ?_ | refine eD ?_ ?_ <;> intro)
 refine and_mk (by rw [List.length_map]; omega) ?_
 refine ex_is _ m1 ?_
 repeat' (first | refine (ex_is _ m2) ?_ | refine qg1 ?_ | refine eD ?_ ?_ <;> intro)
 refine ex_loop (X := Nat × List Bool) (fun ⟨i, l⟩ => ⟨[(1, Ti n), (5, .o (.c (.row 0))), (18, .o (c1 (.sl 5 (ys.map eiD)))), (19, Ti (n + 1 : Nat)), (20, Ti i)], [(0, Br l)], 1⟩) (fun x => n + 1 - x.1) (fun ⟨i, l⟩ => i ≤ n + 1 ∧ l = G.take i ++ List.replicate (n + 1 - i) false) (0, List.replicate (n + 1) false) ⟨Nat.zero_le _, by rw [List.take_zero, List.nil_append]; rfl⟩ sS ?_
 rintro ⟨i, l⟩ ⟨hi, hlG⟩
 refine ex_dec (fun hlt => ?_) (fun hlt => ?_)
 ·have hil : i < ys.length := by omega
  have hx : ys[i]? = some ys[i] := at_some hil
  have hxk := hkk ys[i] (List.getElem_mem hil)
  have hgi := hGat i _ hx
  generalize ys[i] = x at *
  have hw := want_c x
  obtain ⟨c, hc⟩ : ∃ c, (wantV x.k).1 = c := ⟨_, rfl⟩
  obtain ⟨b, hb⟩ : ∃ b, (wantV x.k).2 = b := ⟨_, rfl⟩
  have hc2 : c ≤ 2 := by
   rw [← hc]; unfold wantV; split <;> try split <;> try split
   all_goals omega
  obtain ⟨g, hg⟩ : ∃ g, G.take i = g := ⟨_, rfl⟩
  have hgl : g.length = i := by rw [← hg, List.length_take]; omega
  obtain ⟨r, hr⟩ : ∃ r, n + 1 - i = r + 1 := ⟨n - i, by omega⟩
  rw [hg] at hgi
  rw [hg, hr] at hlG
  subst hlG
  unfold okX at hgi
  rw [hc, hb] at hgi
  rw [hc, hb] at hw
  obtain ⟨k, op, nn, nm, kids⟩ := x
  dsimp only at hgi hxk hc hb
  obtain ⟨ok0, hok0⟩ : ∃ ok0, (b && (decide (c = 0) || decide (kids.length = c))) = ok0 := ⟨_, rfl⟩
  rw [hok0] at hgi
  obtain ⟨m, hm⟩ : ∃ m, min c kids.length = m := ⟨_, rfl⟩
  rw [hm] at hgi
  obtain ⟨K, hK⟩ : ∃ K, kids.take m = K := ⟨_, rfl⟩
  rw [hK] at hgi
  have hKl : K.length = m := by rw [← hK, List.length_take]; omega
  have hkl : (kids.map fun k => [di k]).length = kids.length := List.length_map _
  have m4 : ((kids.map fun k => [di k]).take (((m : Nat) : Int)).toNat).drop ((0 : Int)).toNat = K.map fun k => [di k] := by rw [← hK]; simp [List.map_take]
  have m5 : (K.map fun k => [di k]).length = m := by rw [List.length_map, hKl]
  repeat' (first | refine ex_call hw ?_ | refine (ex_is _ hkl) ?_ | refine (ex_row i (⟨k, op, nn, nm, kids⟩ : EI) rfl hx) ?_ | refine qg1 ?_ | refine eD ?_ ?_ <;> intro)
  refine ex_join (X := Bool) (fun ok => ⟨[(1, Ti n), (5, .o (.c (.row 0))), (6, Ti i), (7, .o (.c (.ptr 1 0))), (8, Ti c), (9, Tb ok), (18, .o (c1 (.sl 5 (ys.map eiD)))), (19, Ti (n + 1 : Nat)), (20, Ti i)], [(0, Br (g ++ List.replicate (r + 1) false)), (1, .obj [.d (di k), .d (ds (bs op)), .d (du nn), .d (ds (bs nm)), .d (intsD kids)])], 2⟩) (fun ok => ok = ok0) ?_ ?_
  ·cases b
   ·repeat' (first | refine qgs ?_ | refine eD ?_ ?_ <;> intro)
    exact ex_meet false (by rw [← hok0]; rfl) sS
   ·by_cases h0 : c = 0
    ·repeat' (first | refine qgs ?_ | refine eD ?_ ?_ <;> intro)
     exact ex_meet true (by rw [← hok0]; simp [h0]) sS
    ·by_cases h1 : kids.length = c
     ·repeat' (first | refine (ex_is _ hkl) ?_ | refine qg1 ?_ | refine eD ?_ ?_ <;> intro)
      exact ex_meet true (by rw [← hok0]; simp [h1]) sS
     ·repeat' (first | refine (ex_is _ hkl) ?_ | refine qg1 ?_ | refine eD ?_ ?_ <;> intro)
      exact ex_meet false (by rw [← hok0]; simp [h0, h1]) sS
  rintro ok rfl
  repeat' (first | refine (ex_is _ hkl) ?_ | refine qg1 ?_ | refine eD ?_ ?_ <;> intro)
  refine ex_is ((m : Nat) : Int) (by rw [← hm]; split <;> omega) ?_
  repeat' (first | refine qgs ?_ | refine eD ?_ ?_ <;> intro)
  refine ex_is _ m4 ?_
  repeat' (first | refine (ex_is _ m5) ?_ | refine qg1 ?_ | refine eD ?_ ?_ <;> intro)
  have hrl : ∀ z, (g ++ List.replicate z false).length = i + z := fun z => by rw [List.length_append, List.length_replicate, hgl]
  refine ex_loop (X := Nat × Bool) (fun ⟨q, o⟩ => ⟨[(1, Ti n), (5, .o (.c (.row 0))), (6, Ti i), (9, Tb o), (18, .o (c1 (.sl 5 (ys.map eiD)))), (19, Ti (n + 1 : Nat)), (20, Ti i), (49, .o (c1 (.sl 1 (K.map fun k => [di k])))), (50, Ti m), (51, Ti q)], [(0, Br (g ++ List.replicate (r + 1) false))], 2⟩) (fun x => m - x.1) (fun ⟨q, o⟩ => q ≤ m ∧ o = (ok && (K.take q).all (gk g))) (0, ok) ⟨Nat.zero_le _, by simp⟩ sS ?_
  clear hK m4 hw hkl
  rintro ⟨q, o⟩ ⟨hq, ho⟩
  refine ex_dec (fun hqm => ?_) (fun hqm => ?_)
  ·have hql : q < K.length := by omega
   have hKq : K[q]? = some K[q] := at_some hql
   have hal := all_take (gk g) K q _ hKq
   generalize K[q] = z at *
   repeat' (first | refine (ex_row q z rfl hKq) ?_ | refine qg1 ?_ | refine eD ?_ ?_ <;> intro)
   refine ex_join (X := Bool) (fun u => ⟨[(1, Ti n), (5, .o (.c (.row 0))), (6, Ti i), (9, Tb u), (18, .o (c1 (.sl 5 (ys.map eiD)))), (19, Ti (n + 1 : Nat)), (20, Ti i), (49, .o (c1 (.sl 1 (K.map fun k => [di k])))), (50, Ti m), (51, Ti q)], [(0, Br (g ++ List.replicate (r + 1) false))], 2⟩) (fun u => u = (o && gk g z)) ?_ ?_
   ·cases o
    ·repeat' (first | refine qgs ?_ | refine eD ?_ ?_ <;> intro)
     exact ex_meet false (by rfl) sS
    ·by_cases z0 : 0 ≤ z
     ·by_cases z1 : z < i
      ·obtain ⟨j, rfl⟩ : ∃ j : Nat, z = j := ⟨z.toNat, by omega⟩
       have hrow : (g ++ List.replicate (r + 1) false)[j]? = some (g.getD j false) := by
        rw [List.getElem?_append_left (by omega), List.getD_eq_getElem?_getD, List.getElem?_eq_getElem (by omega)]
        rfl
       have hgz : gk g j = g.getD j false := by
        unfold gk
        rw [decide_eq_true z0, decide_eq_true (by omega), Int.toNat_natCast]
        rfl
       repeat' (first | refine qgs ?_ | refine eD ?_ ?_ <;> intro)
       refine and_mk (by rw [List.length_map, hrl, Int.toNat_natCast]; omega) ?_
       repeat' (first | refine (ex_br hrow) ?_ | refine qg1 ?_ | refine eD ?_ ?_ <;> intro)
       exact ex_meet (g.getD j false) (by rw [hgz]; rfl) sS
      ·repeat' (first | refine qgs ?_ | refine eD ?_ ?_ <;> intro)
       exact ex_meet false (by unfold gk; rw [decide_eq_false (show ¬ z < g.length by omega)]; simp) sS
     ·repeat' (first | refine qgs ?_ | refine eD ?_ ?_ <;> intro)
      exact ex_meet false (by unfold gk; rw [decide_eq_false z0]; rfl) sS
   rintro u hu
   repeat' (first | refine aI ((q + 1 : Nat) : Int) ?_ | refine aU ((q + 1 : Nat) : Int) ?_ | refine aB ((q + 1 : Nat) : Int) ?_ | refine qg1 ?_ | refine eD ?_ ?_ <;> intro)
   exact ex_round (q + 1, u) ⟨by omega, by rw [hu, ho, hal, Bool.and_assoc]⟩ (by show _ - _ < _ - _; omega) sS
  ·obtain rfl : q = m := by omega
   have hoG : G[i]? = some o := by rw [hgi, ho, ← hKl, List.take_length]
   have hset : ((g ++ List.replicate (r + 1) false).map fun b => [db b]).set (((i : Nat) : Int)).toNat [db o] = ((g ++ [o]) ++ List.replicate r false).map fun b => [db b] := by
    rw [← rep_set, List.map_set, hgl, Int.toNat_natCast]
   repeat' (first | refine qgs ?_ | refine eD ?_ ?_ <;> intro)
   refine and_mk (by rw [List.length_map, hrl, Int.toNat_natCast]; omega) ?_
   have hold : (g ++ List.replicate (r + 1) false)[i]? = some false := by rw [List.getElem?_append_right (by omega), hgl, Nat.sub_self]; rfl
   repeat' (first | refine aI ((i + 1 : Nat) : Int) ?_ | refine aU ((i + 1 : Nat) : Int) ?_ | refine aB ((i + 1 : Nat) : Int) ?_ | refine (ex_is _ hset) ?_ | refine (ex_br hold) ?_ | refine qg1 ?_ | refine eD ?_ ?_ <;> intro)
   exact ex_round (i + 1, (g ++ [o]) ++ List.replicate r false) ⟨by omega, by rw [List.take_add_one, hg, hoG, show n + 1 - (i + 1) = r by omega]; rfl⟩ (by show _ - _ < _ - _; omega) sS
 ·obtain rfl : i = n + 1 := by omega
  have hrow : l[n]? = some (G.getD n false) := by
   rw [hlG, Nat.sub_self, List.replicate_zero, List.append_nil, List.getElem?_take, if_pos (by omega), List.getD_eq_getElem?_getD, List.getElem?_eq_getElem (by omega)]
   rfl
  have hll : n < l.length := by
   rcases Nat.lt_or_ge n l.length with h | h
   ·exact h
   ·rw [List.getElem?_eq_none h] at hrow; cases hrow
  repeat' (first | refine qgs ?_ | refine eD ?_ ?_ <;> intro)
  refine and_mk (by rw [List.length_map, Int.toNat_natCast]; exact hll) ?_
  repeat' (first | refine (ex_br hrow) ?_ | refine qg1 ?_ | refine eD ?_ ?_ <;> intro)
  exact TLe.rfl
end Go.Proofs.YtoingpafcodojaaGreatDoor

namespace Go.Proofs.YtoingpafcodojaaGreatDoor
open Go.RowKit

theorem ex_find {lk : LK} {k : Value} {es : List (Value × Value)} {n : Nat} {r : Option (Nat × Value)} (h : findKV lk k es n = some r) {K : Option (Nat × Value) → Prop} (hk : K r) : ∃ r, findKV lk k es n = some r ∧ K r := ⟨r, h, hk⟩
theorem kidE_inv {xs : List EI} {i : Nat} {a : Int} {t : ET} (h : kidE ((treesE xs).take i) a = some t) : ∃ j : Nat, a = j ∧ j < i ∧ j < xs.length ∧ exprE xs j = some t := by
 unfold kidE at h
 split at h
 ·obtain ⟨j, rfl⟩ : ∃ j : Nat, a = j := ⟨a.toNat, by omega⟩
  rw [Int.toNat_natCast, List.getElem?_take] at h
  by_cases hj : j < i
  ·rw [if_pos hj] at h
   refine ⟨j, rfl, hj, ?_, ?_⟩
   ·rcases Nat.lt_or_ge j xs.length with hl | hl
    ·exact hl
    ·rw [List.getElem?_eq_none (by rw [treesE_len]; exact hl)] at h; cases h
   ·unfold exprE kidE
    rw [if_pos (by omega), Int.toNat_natCast]
    exact h
  ·rw [if_neg hj] at h; cases h
 ·cases h
theorem exprE_inv {xs : List EI} {i : Nat} {t : ET} (h : exprE xs i = some t) : ∃ x, xs[i]? = some x ∧ treeE ((treesE xs).take i) x = some t := by
 unfold exprE kidE at h
 rw [if_pos (by omega), Int.toNat_natCast] at h
 rcases Nat.lt_or_ge i xs.length with hl | hl
 ·refine ⟨xs[i], List.getElem?_eq_getElem hl, ?_⟩
  rw [treesE_at (List.getElem?_eq_getElem hl)] at h
  exact h
 ·rw [List.getElem?_eq_none (by rw [treesE_len]; exact hl)] at h; cases h
def NumT : ET → Prop
 | .num n => n < 18446744073709551616
 | .name _ => True
 | .not a => NumT a
 | .bin _ a b => NumT a ∧ NumT b
theorem numW_lt (v : Nat) : (numW v).1 < 18446744073709551616 := by unfold numW; split <;> simp_all
theorem yes_lt (c : Bool) : (yes c).1 < 18446744073709551616 := by cases c <;> decide
theorem treeE_inv {ts : List (Option ET)} {x : EI} {t : ET} (h : treeE ts x = some t) : (x.k = 0 ∧ t = .num x.n) ∨ (x.k = 1 ∧ t = .name x.nm) ∨ (∃ a u, x.k = 2 ∧ x.kids = [a] ∧ kidE ts a = some u ∧ t = .not u) ∨ (∃ a b u v, x.k = 3 ∧ x.kids = [a, b] ∧ kidE ts a = some u ∧ kidE ts b = some v ∧ t = .bin x.op u v) := by
 unfold treeE at h
 by_cases h0 : x.k = 0
 ·rw [if_pos h0] at h
  cases h
  exact .inl ⟨h0, rfl⟩
 rw [if_neg h0] at h
 by_cases h1 : x.k = 1
 ·rw [if_pos h1] at h
  cases h
  exact .inr (.inl ⟨h1, rfl⟩)
 rw [if_neg h1] at h
 by_cases h2 : x.k = 2
 ·rw [if_pos h2] at h
  rcases hk : x.kids with _ | ⟨a, _ | ⟨b, r⟩⟩ <;> rw [hk] at h
  ·cases h
  ·dsimp only at h
   obtain ⟨u, hu, e⟩ := Option.map_eq_some_iff.1 h
   exact .inr (.inr (.inl ⟨a, u, h2, rfl, hu, e.symm⟩))
  ·cases h
 rw [if_neg h2] at h
 by_cases h3 : x.k = 3
 ·rw [if_pos h3] at h
  rcases hk : x.kids with _ | ⟨a, _ | ⟨b, _ | ⟨c, r⟩⟩⟩ <;> rw [hk] at h
  ·cases h
  ·cases h
  ·dsimp only at h
   rcases hu : kidE ts a with _ | u <;> rcases hv : kidE ts b with _ | v <;> rw [hu, hv] at h
   ·cases h
   ·cases h
   ·cases h
   ·cases h
    exact .inr (.inr (.inr ⟨a, b, u, v, h3, rfl, hu, hv, rfl⟩))
  ·cases h
 ·rw [if_neg h3] at h
  cases h
theorem ite_lt {c : Prop} [Decidable c] {p q : Nat × Nat} (h1 : p.1 < 18446744073709551616) (h2 : q.1 < 18446744073709551616) : (if c then p else q).1 < 18446744073709551616 := by
 by_cases h : c
 ·rw [if_pos h]; exact h1
 ·rw [if_neg h]; exact h2
theorem opW_lt (op : List UInt8) (a b : Nat) (ha : a < 18446744073709551616) (hb : b < 18446744073709551616) : (opW op a b).1 < 18446744073709551616 := by
 have h1 := numW_lt (a + b)
 have h2 := numW_lt (a * b)
 have h3 := numW_lt (a * 2 ^ b)
 have h4 : a &&& b ≤ a := Nat.and_le_left
 have h5 : a ||| b < 2 ^ 64 := Nat.or_lt_two_pow (by omega) (by omega)
 have h6 := Nat.div_le_self a b
 have h7 := Nat.mod_le a b
 have h8 := Nat.div_le_self a (2 ^ b)
 have hy : ∀ c, (yes c).1 < 18446744073709551616 := fun c => by cases c <;> decide
 have hsub : (subW a b).1 < 18446744073709551616 := by unfold subW; split <;> first | decide | (dsimp only; omega)
 have hdiv : (divW a b).1 < 18446744073709551616 := by unfold divW; split <;> first | decide | (dsimp only; omega)
 have hrem : (remW a b).1 < 18446744073709551616 := by unfold remW; split <;> first | decide | (dsimp only; omega)
 have hshl : (shlW a b).1 < 18446744073709551616 := by unfold shlW; split <;> first | assumption | decide
 have hshr : (shrW a b).1 < 18446744073709551616 := by unfold shrW; split <;> first | decide | (dsimp only; omega)
 unfold opW
 exact ite_lt h1 (ite_lt hsub (ite_lt h2 (ite_lt hdiv (ite_lt hrem (ite_lt hshl (ite_lt hshr (ite_lt (show a &&& b < _ from Nat.lt_of_le_of_lt h4 ha) (ite_lt (show a ||| b < _ from Nat.lt_of_lt_of_le h5 (by decide)) (ite_lt (hy _) (ite_lt (hy _) (ite_lt (hy _) (ite_lt (hy _) (ite_lt (hy _) (ite_lt (hy _) (ite_lt (hy _) (ite_lt (hy _) (show 0 < 18446744073709551616 by decide)))))))))))))))))
def EnvOk (e : EV) : Prop := ∀ p ∈ e, p.2 < 18446744073709551616
theorem evalT_lt {e : EV} (he : EnvOk e) : ∀ t : ET, NumT t → (evalT e t).1 < 18446744073709551616
 | .num n, h => h
 | .name w, _ => by
  unfold evalT
  rcases hg : getE e w with _ | n
  ·decide
  ·obtain ⟨p, hp, -, h2⟩ := getE_mem hg
   rw [← h2]
   exact he p hp
 | .not a, h => by
  unfold evalT
  split
  ·exact yes_lt _
  ·exact evalT_lt he a h
 | .bin op a b, h => by
  unfold evalT
  split
  ·split
   ·exact opW_lt op _ _ (evalT_lt he a h.1) (evalT_lt he b h.2)
   ·exact evalT_lt he b h.2
  ·exact evalT_lt he a h.1
def XsOk (xs : List EI) : Prop := ∀ x ∈ xs, x.n < 18446744073709551616
theorem exprE_num {xs : List EI} (hx : XsOk xs) : ∀ (t : ET) (i : Nat), exprE xs i = some t → NumT t := by
 intro t
 induction t with
 | num n =>
  intro i h
  obtain ⟨x, h1, h2⟩ := exprE_inv h
  have h3 := hx x (List.mem_of_getElem? h1)
  rcases treeE_inv h2 with ⟨-, e⟩ | ⟨-, e⟩ | ⟨a, u, -, -, -, e⟩ | ⟨a, b, u, v, -, -, -, -, e⟩ <;> cases e
  exact h3
 | name w => exact fun _ _ => trivial
 | not a iha =>
  intro i h
  obtain ⟨x, h1, h2⟩ := exprE_inv h
  rcases treeE_inv h2 with ⟨-, e⟩ | ⟨-, e⟩ | ⟨a, u, -, -, hu, e⟩ | ⟨a, b, u, v, -, -, -, -, e⟩ <;> cases e
  obtain ⟨j, -, -, -, hj⟩ := kidE_inv hu
  exact iha j hj
 | bin op a b iha ihb =>
  intro i h
  obtain ⟨x, h1, h2⟩ := exprE_inv h
  rcases treeE_inv h2 with ⟨-, e⟩ | ⟨-, e⟩ | ⟨a, u, -, -, hu, e⟩ | ⟨a, b, u, v, -, -, hu, hv, e⟩ <;> cases e
  obtain ⟨j, -, -, -, hj⟩ := kidE_inv hu
  obtain ⟨j', -, -, -, hj'⟩ := kidE_inv hv
  exact ⟨iha j hj, ihb j' hj'⟩
abbrev tdV (t : Nat × Nat) : Value := .agg #[.int .u64 t.1, .int .i64 t.2]
abbrev tdD (t : Nat × Nat) : List D := [du t.1, di t.2]
abbrev kvE (m : List (Nat × (Nat × Nat))) : List (Value × Value) := m.map fun p => (.int .i64 p.1, tdV p.2)
def MOk (xs : List EI) (env : EV) (m : List (Nat × (Nat × Nat))) : Prop := ∀ p ∈ m, ∃ t, exprE xs p.1 = some t ∧ p.2 = evalT env t
theorem MOk.app {xs : List EI} {env : EV} {a b : List (Nat × (Nat × Nat))} (h : MOk xs env a) (h' : MOk xs env b) : MOk xs env (a ++ b) := fun p hp => (List.mem_append.1 hp).elim (h p) (h' p)
theorem findE (m : List (Nat × (Nat × Nat))) (i : Nat) (n : Nat) : (findKV (.int .i64) (.int .i64 i) (kvE m) n = some none ∧ ∀ p ∈ m, p.1 ≠ i) ∨ ∃ j p, p ∈ m ∧ p.1 = i ∧ findKV (.int .i64) (.int .i64 i) (kvE m) n = some (some (j, tdV p.2)) := by
 induction m generalizing n with
 | nil => exact .inl ⟨rfl, by simp⟩
 | cons p m ih =>
  rw [show kvE (p :: m) = (.int .i64 p.1, tdV p.2) :: kvE m from rfl, findKV_cons]
  by_cases h : p.1 = i
  ·have e : sameKV (.int .i64) (.int .i64 i) (.int .i64 p.1) = some true := by simp [sameKV, h]
   simp only [e]
   exact .inr ⟨n, p, List.mem_cons_self, h, rfl⟩
  ·have e : sameKV (.int .i64) (.int .i64 i) (.int .i64 p.1) = some false := by
    simp only [sameKV, if_true]
    congr 1
    rw [beq_eq_false_iff_ne]
    omega
   simp only [e]
   rcases ih (n + 1) with ⟨h1, h2⟩ | ⟨j, q, h1, h2, h3⟩
   ·refine .inl ⟨h1, fun q hq => ?_⟩
    rcases List.mem_cons.1 hq with rfl | hq
    ·exact h
    ·exact h2 q hq
   ·exact .inr ⟨j, q, List.mem_cons_of_mem _ h1, h2, h3⟩
theorem find_no {m : List (Nat × (Nat × Nat))} {i : Nat} (h : ∀ p ∈ m, p.1 ≠ i) : findKV (.int .i64) (.int .i64 i) (kvE m) 0 = some none := by
 rcases findE m i 0 with ⟨h1, -⟩ | ⟨j, p, h1, h2, -⟩
 ·exact h1
 ·exact absurd h2 (h p h1)
end Go.Proofs.YtoingpafcodojaaGreatDoor

namespace Go.Proofs.YtoingpafcodojaaGreatDoor
open Go.RowKit

abbrev ruM (xs : List EI) (env : EV) (m : List (Nat × (Nat × Nat))) : List (Nat × Blk) := [(0, .obj [.d (.sl 5 (xs.map eiD)), .d (.sl 2 (env.map evD)), .mp 1]), (1, .map (kvE m))]
section
variable {xs : List EI} {env : EV}
def Tells (xs : List EI) (env : EV) (f : FuncId) (a : T1) (t : ET) (b : Nat) : Prop := ∀ m, MOk xs env m → ∃ new, MOk xs env new ∧ (∀ p ∈ new, p.1 < b) ∧
 CallsM Tryz.prog Γ0 f (ruM xs env m) 2 [.c (.ptr 0 0), a] (.o (gD (tdD (evalT env t)))) (ruM xs env (m ++ new)) []
theorem fresh_num (x : EI) (h : x.k = 0) (b : Nat) : Tells xs env 49 (gD (eiD x)) (.num x.n) b := fun m hm => by
 refine ⟨[], (fun p hp => by simp at hp), (fun p hp => by simp at hp), ?_⟩
 rw [List.append_nil]
 obtain ⟨k, op, n, nm, kids⟩ := x
 dsimp only at h
 subst h
 show CallsM _ _ _ _ _ [_, gD [di 0, ds (bs op), du n, ds (bs nm), intsD kids]] (.o (gD (tdD (n, 0)))) _ _
 refine fn_ruleM (C := ⟨Tryz.prog, layF, Tryz.f49.ntmps, Γ0, 2, [], []⟩) layF_ok mixed Tryz.func49 rfl (by kernel_rfl) rfl rfl rfl ?_
 repeat' (first | refine qgs ?_ | refine eD ?_ ?_ <;> intro)
 exact ⟨rfl, TLe.rfl, rfl, rfl⟩
theorem fresh_name (he : env.length ≤ 1000000) (x : EI) (h : x.k = 1) (b : Nat) : Tells xs env 49 (gD (eiD x)) (.name x.nm) b := fun m hm => by
 refine ⟨[], (fun p hp => by simp at hp), (fun p hp => by simp at hp), ?_⟩
 rw [List.append_nil]
 obtain ⟨k, op, n, nm, kids⟩ := x
 dsimp only at h
 subst h
 have hg := get_c Γ0 env nm he
 show CallsM _ _ _ _ _ [_, gD [di 1, ds (bs op), du n, ds (bs nm), intsD kids]] (.o (gD (tdD (evalT env (.name nm))))) _ _
 unfold evalT
 rcases hv : getE env nm with _ | v <;> rw [hv] at hg
 ·have hg : CallsA Tryz.prog Γ0 16 [c1 (.sl 2 (env.map evD)), c1 (ds (bs nm))] (.tup [c1 (du 0), c1 (db false)]) := hg
  refine fn_ruleM (C := ⟨Tryz.prog, layF, Tryz.f49.ntmps, Γ0, 2, [], []⟩) layF_ok mixed Tryz.func49 rfl (by kernel_rfl) rfl rfl rfl ?_
  repeat' (first | refine ex_call hg ?_ | refine qg1 ?_ | refine eD ?_ ?_ <;> intro)
  exact ⟨rfl, TLe.rfl, rfl, rfl⟩
 ·have hg : CallsA Tryz.prog Γ0 16 [c1 (.sl 2 (env.map evD)), c1 (ds (bs nm))] (.tup [c1 (du v), c1 (db true)]) := hg
  refine fn_ruleM (C := ⟨Tryz.prog, layF, Tryz.f49.ntmps, Γ0, 2, [], []⟩) layF_ok mixed Tryz.func49 rfl (by kernel_rfl) rfl rfl rfl ?_
  repeat' (first | refine ex_call hg ?_ | refine qg1 ?_ | refine eD ?_ ?_ <;> intro)
  exact ⟨rfl, TLe.rfl, rfl, rfl⟩
set_option maxHeartbeats 2000000 in
theorem fresh_not (x : EI) (a : Int) (t : ET) (h : x.k = 2) (hk : x.kids = [a]) (b : Nat) (hn : Tells xs env 31 (c1 (di a)) t b) : Tells xs env 49 (gD (eiD x)) (.not t) b := fun m hm => by
 obtain ⟨new, h1, h2, hc⟩ := hn m hm
 refine ⟨new, h1, h2, ?_⟩
 obtain ⟨k, op, n, nm, kids⟩ := x
 dsimp only at h hk
 subst h
 subst hk
 show CallsM _ _ _ _ _ [_, gD [di 2, ds (bs op), du n, ds (bs nm), intsD [a]]] (.o (gD (tdD (evalT env (.not t))))) _ _
 unfold evalT
 obtain ⟨⟨v, e⟩, hv⟩ : ∃ v, evalT env t = v := ⟨_, rfl⟩
 rw [hv] at hc ⊢
 by_cases he : e = 0
 ·subst he
  rw [if_pos rfl]
  by_cases h0 : v = 0
  ·have ht := wtruth_c true
   rw [show yes (decide (v = 0)) = (1, 0) by rw [decide_eq_true h0]; rfl]
   refine fn_ruleM (C := ⟨Tryz.prog, layF, Tryz.f49.ntmps, Γ0, 2, [], []⟩) layF_ok mixed Tryz.func49 rfl (by kernel_rfl) rfl rfl rfl ?_
   repeat' (first | refine (ex_row (l := [a]) 0 a rfl rfl) ?_ | refine qg1 ?_ | refine eD ?_ ?_ <;> intro)
   refine sC (CallsM.ren (hc) [0, 1] 4 rfl rfl rfl rfl) ?_
   repeat' (first | refine ex_call ht ?_ | refine qg1 ?_ | refine eD ?_ ?_ <;> intro)
   exact ⟨rfl, TLe.rfl, rfl, rfl⟩
  ·have ht := wtruth_c false
   rw [show yes (decide (v = 0)) = (0, 0) by rw [decide_eq_false h0]; rfl]
   refine fn_ruleM (C := ⟨Tryz.prog, layF, Tryz.f49.ntmps, Γ0, 2, [], []⟩) layF_ok mixed Tryz.func49 rfl (by kernel_rfl) rfl rfl rfl ?_
   repeat' (first | refine (ex_row (l := [a]) 0 a rfl rfl) ?_ | refine qg1 ?_ | refine eD ?_ ?_ <;> intro)
   refine sC (CallsM.ren (hc) [0, 1] 4 rfl rfl rfl rfl) ?_
   repeat' (first | refine ex_call ht ?_ | refine qg1 ?_ | refine eD ?_ ?_ <;> intro)
   exact ⟨rfl, TLe.rfl, rfl, rfl⟩
 ·rw [if_neg he]
  refine fn_ruleM (C := ⟨Tryz.prog, layF, Tryz.f49.ntmps, Γ0, 2, [], []⟩) layF_ok mixed Tryz.func49 rfl (by kernel_rfl) rfl rfl rfl ?_
  repeat' (first | refine (ex_row (l := [a]) 0 a rfl rfl) ?_ | refine qg1 ?_ | refine eD ?_ ?_ <;> intro)
  refine sC (CallsM.ren (hc) [0, 1] 4 rfl rfl rfl rfl) ?_
  repeat' (first | refine qgs ?_ | refine eD ?_ ?_ <;> intro)
  exact ⟨rfl, TLe.rfl, rfl, rfl⟩
set_option maxHeartbeats 4000000 in
theorem bin_c (henv : EnvOk env) (x : EI) (a c : Int) (t u : ET) (ht : NumT t) (hu : NumT u) (hk : x.kids = [a, c]) (b : Nat) (ha : Tells xs env 31 (c1 (di a)) t b) (hc : Tells xs env 31 (c1 (di c)) u b) : Tells xs env 73 (gD (eiD x)) (.bin x.op t u) b := fun m hm => by
 obtain ⟨new, h1, h2, hca⟩ := ha m hm
 obtain ⟨k, op, n, nm, kids⟩ := x
 dsimp only at hk
 subst hk
 have hta := evalT_lt henv t ht
 have htu := evalT_lt henv u hu
 by_cases he : (evalT env t).2 = 0
 ·obtain ⟨new2, h3, h4, hcc⟩ := hc (m ++ new) (hm.app h1)
  refine ⟨new ++ new2, h1.app h3, fun p hp => (List.mem_append.1 hp).elim (h2 p) (h4 p), ?_⟩
  rw [← List.append_assoc]
  show CallsM _ _ _ _ _ [_, gD [di k, ds (bs op), du n, ds (bs nm), intsD [a, c]]] (.o (gD (tdD (evalT env (.bin op t u))))) _ _
  have hop := wop_c op (evalT env t).1 (evalT env u).1 hta htu
  rw [show evalT env (.bin op t u) = if (evalT env u).2 = 0 then opW op (evalT env t).1 (evalT env u).1 else evalT env u by rw [evalT, if_pos he]]
  obtain ⟨⟨v, e⟩, hv⟩ : ∃ v, evalT env t = v := ⟨_, rfl⟩
  rw [hv] at hca hop he ⊢
  obtain ⟨⟨v2, e2⟩, hv2⟩ : ∃ v, evalT env u = v := ⟨_, rfl⟩
  rw [hv2] at hcc hop ⊢
  dsimp only at he
  subst he
  by_cases he2 : e2 = 0
  ·subst he2
   rw [if_pos rfl]
   dsimp only at hop ⊢
   generalize opW op v v2 = w at *
   refine fn_ruleM (C := ⟨Tryz.prog, layF, Tryz.f73.ntmps, Γ0, 2, [], []⟩) layF_ok mixed Tryz.func73 rfl (by kernel_rfl) rfl rfl rfl ?_
   repeat' (first | refine (ex_row (l := [a, c]) 0 a rfl rfl) ?_ | refine qg1 ?_ | refine eD ?_ ?_ <;> intro)
   refine sC (CallsM.ren (hca) [0, 1] 4 rfl rfl rfl rfl) ?_
   repeat' (first | refine (ex_row (l := [a, c]) 1 c rfl rfl) ?_ | refine qg1 ?_ | refine eD ?_ ?_ <;> intro)
   refine sC (CallsM.ren (hcc) [0, 1] 5 rfl rfl rfl rfl) ?_
   repeat' (first | refine ex_call hop ?_ | refine qg1 ?_ | refine eD ?_ ?_ <;> intro)
   exact ⟨rfl, TLe.rfl, rfl, rfl⟩
  ·rw [if_neg he2]
   refine fn_ruleM (C := ⟨Tryz.prog, layF, Tryz.f73.ntmps, Γ0, 2, [], []⟩) layF_ok mixed Tryz.func73 rfl (by kernel_rfl) rfl rfl rfl ?_
   repeat' (first | refine (ex_row (l := [a, c]) 0 a rfl rfl) ?_ | refine qg1 ?_ | refine eD ?_ ?_ <;> intro)
   refine sC (CallsM.ren (hca) [0, 1] 4 rfl rfl rfl rfl) ?_
   repeat' (first | refine (ex_row (l := [a, c]) 1 c rfl rfl) ?_ | refine qg1 ?_ | refine eD ?_ ?_ <;> intro)
   refine sC (CallsM.ren (hcc) [0, 1] 5 rfl rfl rfl rfl) ?_
   repeat' (first | refine qgs ?_ | refine eD ?_ ?_ <;> intro)
   exact ⟨rfl, TLe.rfl, rfl, rfl⟩
 ·refine ⟨new, h1, h2, ?_⟩
  show CallsM _ _ _ _ _ [_, gD [di k, ds (bs op), du n, ds (bs nm), intsD [a, c]]] (.o (gD (tdD (evalT env (.bin op t u))))) _ _
  rw [show evalT env (.bin op t u) = evalT env t by rw [evalT, if_neg he]]
  obtain ⟨⟨v, e⟩, hv⟩ : ∃ v, evalT env t = v := ⟨_, rfl⟩
  rw [hv] at hca he ⊢
  dsimp only at he
  refine fn_ruleM (C := ⟨Tryz.prog, layF, Tryz.f73.ntmps, Γ0, 2, [], []⟩) layF_ok mixed Tryz.func73 rfl (by kernel_rfl) rfl rfl rfl ?_
  repeat' (first | refine (ex_row (l := [a, c]) 0 a rfl rfl) ?_ | refine qg1 ?_ | refine eD ?_ ?_ <;> intro)
  refine sC (CallsM.ren (hca) [0, 1] 4 rfl rfl rfl rfl) ?_
  repeat' (first | refine qgs ?_ | refine eD ?_ ?_ <;> intro)
  exact ⟨rfl, TLe.rfl, rfl, rfl⟩
theorem fresh_bin (x : EI) (t : ET) (h : x.k = 3) (b : Nat) (hb : Tells xs env 73 (gD (eiD x)) t b) : Tells xs env 49 (gD (eiD x)) t b := fun m hm => by
 obtain ⟨new, h1, h2, hc⟩ := hb m hm
 refine ⟨new, h1, h2, ?_⟩
 obtain ⟨k, op, n, nm, kids⟩ := x
 dsimp only at h
 subst h
 replace hc : CallsM _ _ _ _ _ [_, gD [di 3, ds (bs op), du n, ds (bs nm), intsD kids]] (.o (gD (tdD (evalT env t)))) _ _ := hc
 show CallsM _ _ _ _ _ [_, gD [di 3, ds (bs op), du n, ds (bs nm), intsD kids]] (.o (gD (tdD (evalT env t)))) _ _
 generalize evalT env t = v at *
 refine fn_ruleM (C := ⟨Tryz.prog, layF, Tryz.f49.ntmps, Γ0, 2, [], []⟩) layF_ok mixed Tryz.func49 rfl (by kernel_rfl) rfl rfl rfl ?_
 repeat' (first | refine qgs ?_ | refine eD ?_ ?_ <;> intro)
 refine sC (CallsM.ren (hc) [0, 1] 4 rfl rfl rfl rfl) ?_
 repeat' (first | refine qgs ?_ | refine eD ?_ ?_ <;> intro)
 exact ⟨rfl, TLe.rfl, rfl, rfl⟩
set_option maxHeartbeats 2000000 in
theorem node_step (i : Nat) (x : EI) (t : ET) (hx : xs[i]? = some x) (ht : exprE xs i = some t) (hf : Tells xs env 49 (gD (eiD x)) t i) : Tells xs env 31 (c1 (di i)) t (i + 1) := fun m hm => by
 have hil : i < xs.length := (List.getElem?_eq_some_iff.1 hx).1
 rcases findE m i 0 with ⟨h0, hno⟩ | ⟨j, p, hp, rfl, h0⟩
 ·obtain ⟨new, h1, h2, hc⟩ := hf m hm
  have hnn : ∀ p ∈ m ++ new, p.1 ≠ i := fun p hp => (List.mem_append.1 hp).elim (hno p) (fun h => by have := h2 p h; omega)
  refine ⟨new ++ [(i, evalT env t)], h1.app (fun p hp => ?_), fun p hp => ?_, ?_⟩
  ·obtain rfl := List.mem_singleton.1 hp
   exact ⟨t, ht, rfl⟩
  ·rcases List.mem_append.1 hp with hp | hp
   ·have := h2 p hp; omega
   ·obtain rfl := List.mem_singleton.1 hp
    exact Nat.lt_succ_self _
  ·rw [← List.append_assoc]
   have hput : putKV (kvE (m ++ new)) (.int .i64 i) (tdV (evalT env t)) none = kvE ((m ++ new) ++ [(i, evalT env t)]) := by
    show kvE (m ++ new) ++ [(.int .i64 i, tdV (evalT env t))] = _
    exact (List.map_append (l₁ := m ++ new) (l₂ := [(i, evalT env t)])).symm
   have h5 := find_no hnn
   generalize evalT env t = v at *
   refine fn_ruleM (C := ⟨Tryz.prog, layF, Tryz.f31.ntmps, Γ0, 2, [], []⟩) layF_ok mixed Tryz.func31 rfl (by kernel_rfl) rfl rfl rfl ?_
   repeat' (first | refine (ex_row i x rfl hx) ?_ | refine (ex_find h0) ?_ | refine qg1 ?_ | refine eD ?_ ?_ <;> intro)
   refine sC (CallsM.ren (hc) [0, 1] 4 rfl rfl rfl rfl) ?_
   repeat' (first | refine (ex_is _ hput) ?_ | refine (ex_find h5) ?_ | refine qg1 ?_ | refine eD ?_ ?_ <;> intro)
   exact ⟨rfl, TLe.rfl, rfl, rfl⟩
 ·obtain ⟨u, hu, hv⟩ := hm p hp
  rw [ht] at hu
  obtain rfl := Option.some.inj hu
  refine ⟨[], (fun p hp => by simp at hp), (fun p hp => by simp at hp), ?_⟩
  rw [List.append_nil, ← hv]
  refine fn_ruleM (C := ⟨Tryz.prog, layF, Tryz.f31.ntmps, Γ0, 2, [], []⟩) layF_ok mixed Tryz.func31 rfl (by kernel_rfl) rfl rfl rfl ?_
  repeat' (first | refine (ex_find h0) ?_ | refine qg1 ?_ | refine eD ?_ ?_ <;> intro)
  exact ⟨rfl, TLe.rfl, rfl, rfl⟩
end
end Go.Proofs.YtoingpafcodojaaGreatDoor

namespace Go.Proofs.YtoingpafcodojaaGreatDoor
open Go.RowKit

theorem ex_pn {g : Prop} {Q K : Bool → Prop} (hg : g) (c : Bool) (he : Q c) (h : K c) : g ∧ ∃ c, Q c ∧ K c := ⟨hg, c, he, h⟩
theorem Tells.le {xs : List EI} {env : EV} {f : FuncId} {a : T1} {t : ET} {b b' : Nat} (h : Tells xs env f a t b) (hb : b ≤ b') : Tells xs env f a t b' := fun m hm => by
 obtain ⟨new, h1, h2, hc⟩ := h m hm
 exact ⟨new, h1, fun p hp => Nat.lt_of_lt_of_le (h2 p hp) hb, hc⟩
theorem node_all {xs : List EI} {env : EV} (hX : XsOk xs) (henv : EnvOk env) (hel : env.length ≤ 1000000) : ∀ (t : ET) (i : Nat), exprE xs i = some t → Tells xs env 31 (c1 (di i)) t (i + 1) := by
 intro t
 induction t with
 | num n =>
  intro i h
  obtain ⟨x, h1, h2⟩ := exprE_inv h
  rcases treeE_inv h2 with ⟨hk, e⟩ | ⟨-, e⟩ | ⟨a, u, -, -, -, e⟩ | ⟨a, b, u, v, -, -, -, -, e⟩ <;> cases e
  exact node_step i x _ h1 h (fresh_num x hk i)
 | name w =>
  intro i h
  obtain ⟨x, h1, h2⟩ := exprE_inv h
  rcases treeE_inv h2 with ⟨-, e⟩ | ⟨hk, e⟩ | ⟨a, u, -, -, -, e⟩ | ⟨a, b, u, v, -, -, -, -, e⟩ <;> cases e
  exact node_step i x _ h1 h (fresh_name hel x hk i)
 | not u ihu =>
  intro i h
  obtain ⟨x, h1, h2⟩ := exprE_inv h
  rcases treeE_inv h2 with ⟨-, e⟩ | ⟨-, e⟩ | ⟨a, u', hk, hks, hu, e⟩ | ⟨a, b, u', v, -, -, -, -, e⟩ <;> cases e
  obtain ⟨j, rfl, hji, -, hj⟩ := kidE_inv hu
  exact node_step i x _ h1 h (fresh_not x j u hk hks i ((ihu j hj).le (by omega)))
 | bin op u v ihu ihv =>
  intro i h
  obtain ⟨x, h1, h2⟩ := exprE_inv h
  rcases treeE_inv h2 with ⟨-, e⟩ | ⟨-, e⟩ | ⟨a, u', -, -, -, e⟩ | ⟨a, b, u', v', hk, hks, hu, hv, e⟩ <;> cases e
  obtain ⟨j, rfl, hji, -, hj⟩ := kidE_inv hu
  obtain ⟨j', rfl, hji', -, hj'⟩ := kidE_inv hv
  exact node_step i x _ h1 h (fresh_bin x _ hk i (bin_c henv x j j' u v (exprE_num hX u j hj) (exprE_num hX v j' hj') hks i ((ihu j hj).le (by omega)) ((ihv j' hj').le (by omega))))
theorem exprE_out {xs : List EI} {z : Int} (h : z < 0 ∨ (xs.length : Int) ≤ z) : exprE xs z = none := by
 unfold exprE kidE
 split
 ·rw [List.getElem?_eq_none (by rw [treesE_len]; omega)]
  rfl
 ·rfl
theorem eval_nil (z : Int) (d : D) : CallsA Tryz.prog Γ0 11 [c1 (.v (.pointer none)), c1 (di z), c1 d] (owT (0, 1)) := by
 refine fn_rule (C := ⟨Tryz.prog, layF, Tryz.f11.ntmps, Γ0, 0, [], []⟩) layF_ok mixed Tryz.func11 rfl (by kernel_rfl) rfl rfl rfl ?_
 repeat' (first | refine qgs ?_ | refine eD ?_ ?_ <;> intro)
 refine ⟨by kernel_rfl, true, fun _ => by kernel_rfl, ?_⟩
 repeat' (first | refine qgs ?_ | refine eD ?_ ?_ <;> intro)
 exact TLe.rfl
set_option maxHeartbeats 2000000 in
theorem eval_c (xs : List EI) (env : EV) (c0 c1' c3 : D) (z : Int) (hX : XsOk xs) (henv : EnvOk env) (hel : env.length ≤ 1000000) (hl : xs.length ≤ 1000000) (hk : ∀ x ∈ xs, x.kids.length ≤ 1000000) (hz : -9223372036854775808 ≤ z ∧ z ≤ 9223372036854775807) :
  CallsA Tryz.prog Γ0 11 [.c (.eptr [c0, c1', .sl 5 (xs.map eiD), c3]), c1 (di z), c1 (.sl 2 (env.map evD))] (owT (evalE xs z env)) := by
 have hml : (xs.map eiD).length = xs.length := List.length_map _
 by_cases h0 : z < 0
 ·rw [show evalE xs z env = (0, 2) by unfold evalE; rw [exprE_out (.inl h0)]]
  refine fn_rule (C := ⟨Tryz.prog, layF, Tryz.f11.ntmps, Γ0, 0, [], []⟩) layF_ok mixed Tryz.func11 rfl (by kernel_rfl) rfl rfl rfl ?_
  repeat' (first | refine (ex_is _ hml) ?_ | refine (ex_pn (by kernel_rfl) false (fun _ _ => by kernel_rfl)) ?_ | refine qg1 ?_ | refine eD ?_ ?_ <;> intro)
  exact TLe.rfl
 by_cases h1 : (xs.length : Int) ≤ z
 ·rw [show evalE xs z env = (0, 2) by unfold evalE; rw [exprE_out (.inr h1)]]
  refine fn_rule (C := ⟨Tryz.prog, layF, Tryz.f11.ntmps, Γ0, 0, [], []⟩) layF_ok mixed Tryz.func11 rfl (by kernel_rfl) rfl rfl rfl ?_
  repeat' (first | refine (ex_is _ hml) ?_ | refine (ex_pn (by kernel_rfl) false (fun _ _ => by kernel_rfl)) ?_ | refine qg1 ?_ | refine eD ?_ ?_ <;> intro)
  exact TLe.rfl
 obtain ⟨n, rfl⟩ : ∃ n : Nat, z = n := ⟨z.toNat, by omega⟩
 have hmay := may_c xs n (by omega) hl hk
 unfold evalE
 rcases hT : exprE xs n with _ | t <;> rw [hT] at hmay
 ·
  refine fn_rule (C := ⟨Tryz.prog, layF, Tryz.f11.ntmps, Γ0, 0, [], []⟩) layF_ok mixed Tryz.func11 rfl (by kernel_rfl) rfl rfl rfl ?_
  repeat' (first | refine ex_call hmay ?_ | refine (ex_is _ hml) ?_ | refine (ex_pn (by kernel_rfl) false (fun _ _ => by kernel_rfl)) ?_ | refine qg1 ?_ | refine eD ?_ ?_ <;> intro)
  exact TLe.rfl
 ·obtain ⟨new, -, -, hc⟩ := node_all hX henv hel t n hT [] (fun p hp => by simp at hp)
  dsimp only
  generalize evalT env t = v at *
  refine fn_rule (C := ⟨Tryz.prog, layF, Tryz.f11.ntmps, Γ0, 0, [], []⟩) layF_ok mixed Tryz.func11 rfl (by kernel_rfl) rfl rfl rfl ?_
  repeat' (first | refine ex_call hmay ?_ | refine (ex_is _ hml) ?_ | refine (ex_pn (by kernel_rfl) false (fun _ _ => by kernel_rfl)) ?_ | refine qg1 ?_ | refine eD ?_ ?_ <;> intro)
  refine sC (CallsM.ren (hc) [1, 0] 2 rfl rfl rfl rfl) ?_
  repeat' (first | refine qgs ?_ | refine eD ?_ ?_ <;> intro)
  exact TLe.rfl
end Go.Proofs.YtoingpafcodojaaGreatDoor

namespace Go.Proofs.YtoingpafcodojaaGreatDoor
open Go.RowKit Go.Shelf

def cellsE (e : EV) : List Value := (e.map fun p => [Value.string (bs p.1), Value.int .u64 (p.2 : Int)]).flatten
end Go.Proofs.YtoingpafcodojaaGreatDoor

namespace Go.Proofs.YtoingpafcodojaaGreatDoor
open Go.RowKit

set_option maxHeartbeats 2000000 in
theorem envs_c (l : EV) (hl : l.length ≤ 9223372036854775807) : CallsA Tryz.prog Γ0 10 [c1 (.sl 2 (l.map evD))] (.tup [c1 (.sl 2 ((l.take 20).map evD)), c1 (.sl 2 ((l.take 20).map evD))]) := by
 have hm : (l.map evD).length = l.length := List.length_map _
 have hF : ((l.map evD).take (((min 20 l.length : Nat) : Int)).toNat).drop ((0 : Int)).toNat = (l.take 20).map evD := by
  rw [Int.toNat_natCast, show (0 : Int).toNat = 0 from rfl, List.drop_zero, ← List.map_take, ← List.take_eq_take_min]
 have hFl : (l.take 20).length ≤ 20 := by rw [List.length_take]; omega
 have hFm : ((l.take 20).map evD).length = (l.take 20).length := List.length_map _
 refine fn_rule (C := ⟨Tryz.prog, layF, Tryz.f10.ntmps, Γ0, 0, [], []⟩) layF_ok mixed Tryz.func10 rfl (by kernel_rfl) rfl rfl rfl ?_
 repeat' (first | refine (ex_is _ hm) ?_ | refine qg1 ?_ | refine eD ?_ ?_ <;> intro)
 refine ex_is ((min 20 l.length : Nat) : Int) (by split <;> omega) ?_
 repeat' (first | refine qgs ?_ | refine eD ?_ ?_ <;> intro)
 refine ex_is _ hF ?_
 generalize l.take 20 = F at *
 repeat' (first | refine (ex_is _ hFm) ?_ | refine qg1 ?_ | refine eD ?_ ?_ <;> intro)
 refine ex_loop (X := Nat × EV) (fun ⟨q, A⟩ => ⟨[(4, .o (.c (.row 0))), (5, .o (.c (.row 1))), (12, .o (c1 (.sl 2 (F.map evD)))), (13, Ti F.length), (14, Ti q)], [(0, .row 2 69 (A.map evD)), (1, .row 2 113 (A.map evD))], 2⟩) (fun x => F.length - x.1) (fun ⟨q, A⟩ => q ≤ F.length ∧ A = F.take q) (0, []) ⟨Nat.zero_le _, rfl⟩ (SLe.trans sS (SLe.trans (SLe.own 5 1 2 113 rfl rfl rfl rfl rfl) (SLe.own 4 0 2 69 rfl rfl rfl rfl rfl))) ?_
 rintro ⟨q, A⟩ ⟨hq, hA⟩
 refine ex_dec (fun h => ?_) (fun h => ?_)
 ·have hql : q < F.length := by omega
  have hc : F[q]? = some F[q] := at_some hql
  have htk : F.take (q + 1) = F.take q ++ [F[q]] := by rw [List.take_add_one, hc]; rfl
  have htl : A.length = q := by rw [hA, List.length_take]; omega
  have hap : A.map evD ++ [evD F[q]] = (F.take (q + 1)).map evD := by rw [htk, List.map_append, hA]; rfl
  generalize F[q] = f at *
  repeat' (first | refine (ex_row q f rfl hc) ?_ | refine qg1 ?_ | refine eD ?_ ?_ <;> intro)
  refine ex_app (q) (1) 1000 (by first | rfl | (simp; done) | (simp; omega)) (by first | rfl | (simp; done) | (simp; omega)) rfl (by omega) ?_
  refine ex_is _ hap ?_
  repeat' (first | refine qgs ?_ | refine eD ?_ ?_ <;> intro)
  refine ex_app (q) (1) 1000 (by first | rfl | (simp; done) | (simp; omega)) (by first | rfl | (simp; done) | (simp; omega)) rfl (by omega) ?_
  refine ex_is _ hap ?_
  repeat' (first | refine aI ((q + 1 : Nat) : Int) ?_ | refine aU ((q + 1 : Nat) : Int) ?_ | refine aB ((q + 1 : Nat) : Int) ?_ | refine qg1 ?_ | refine eD ?_ ?_ <;> intro)
  exact ex_round (q + 1, F.take (q + 1)) ⟨by omega, rfl⟩ (by show _ - _ < _ - _; omega) (sR [(4, 0), (6, 1)])
 ·obtain rfl : q = F.length := by omega
  rw [List.take_length] at hA
  subst hA
  repeat' (first | refine qgs ?_ | refine eD ?_ ?_ <;> intro)
  exact TLe.rfl
end Go.Proofs.YtoingpafcodojaaGreatDoor

namespace Go.Proofs.YtoingpafcodojaaGreatDoor
open Go.RowKit

theorem code_after {C : Ctx} {c : Code} (hL : LOk C.P C.L) (hm : C.P.follows .mixedOrders = true) {tm : List (Nat × TV)} {m : List (Nat × Blk)} (hml : (m.all fun p => Nat.blt p.1 C.nx0) = true) {upd : List (Nat × Blk)} {new : List Blk}
  (h : vc C c ⟨tm, m, C.nx0⟩ fun e st => match e with
   | .normal => retOkP (m.map (·.1)) C.nx0 upd new st
   | _ => False)
  {ι : Nat → Value} {S : Nat → Prop} {w : World} {a : Act} (hS : ∀ b, S b → b < w.heap.size) (hG : C.Γ.G S w) (hblk : ∀ p ∈ m, BlkOk ι S w p.1 p.2)
  (hdst : ∀ p ∈ m, ∀ q ∈ m, ∀ g, p.2.live = true → q.2.live = true → blkOf (ι p.1) = some g → blkOf (ι q.1) = some g → p.1 = q.1) (htm : ∀ t tv, findL tm t = some tv → V ι S w tv (a.tmps.getD t undef)) (hsz : a.tmps.size = C.n) (hdn : a.defers = []) :
  c.wp C.P (fun e a' w' => e = .normal ∧ a'.defers = [] ∧ ∃ ι' S', After ι S w C.nx0 ⟨.und, m.map (·.1), upd, new⟩ undef ι' S' w') a w := by
 have hmlt : ∀ p ∈ m, p.1 < C.nx0 := fun p hp => Nat.lt_of_succ_le (Nat.le_of_ble_eq_true (List.all_eq_true.1 hml p hp))
 have hR : RS ⟨w, fun g => ∃ p ∈ m, p.2.live = true ∧ blkOf (ι p.1) = some g, S, C.n, C.Γ, ι, C.nx0, []⟩ ⟨tm, m, C.nx0⟩ a w :=
  ⟨ι, S, rfl, rfl, rfl, Nat.le_refl _, fun _ _ _ => rfl, hS, fun _ h => h, fun _ h => .inl h, htm, fun k b hk => hblk _ (findL_mem hk), fun k b hk hl g hg => .inl ⟨(k, b), findL_mem hk, hl, hg⟩, fun k k' b b' g hk hk' hl hl' hg hg' => hdst _ (findL_mem hk) _ (findL_mem hk') g hl hl' hg hg', hdn, hsz, hG, fun _ _ => rfl⟩
 refine Code.wp_mono (fun e a' w' hq => ?_) (vc_ok hL ⟨rfl, rfl, rfl⟩ hm c _ _ _ w h hR)
 obtain ⟨st, ⟨ι1, S1, I⟩, hq⟩ := hq
 cases e with
 | normal =>
  have hq : retOkP (m.map (·.1)) C.nx0 upd new st := hq
  unfold retOkP at hq
  split at hq
  ·rename_i u n src hex
   obtain ⟨hchk, hu, hnw⟩ := hq
   obtain ⟨ι', S', A⟩ := core_after (C := C) hmlt ι1 S1 .und undef [] u n src I hex hchk hu hnw (by simp) (fun _ => rfl)
   exact ⟨rfl, I.dn, ι', S', A⟩
  ·exact hq.elim
 | _ => exact hq.elim
def caughtSt (st : St) (upd : List (Nat × Blk)) : St := ⟨st.tm, upd ++ st.mem, st.nx⟩
def fnQD (L : Nat → Option Lay) (rs : List ResultVar) (r : TV) (Hit : Value → St → List (Nat × Blk) → Prop) : Exit → St → Prop
 | .normal, st | .ret, st => retOk L rs r st
 | .panic ch, st => ∃ v upd, ch = panE v ∧ Hit v st upd ∧ (upd.all fun p => match findL st.mem p.1 with | some b => b.live | none => false) = true ∧ uniqB upd = true ∧ retOk L rs r (caughtSt st upd)
 | _, _ => False
def capsOk : List Nat → List Nat → St → Prop
 | t :: ts, k :: ks, st => findL st.tm t = some (.o (.c (.ptr k 0))) ∧ capsOk ts ks st
 | [], [], _ => True
 | _, _, _ => False
theorem capsOk_vs {E : Env} {ι : Nat → Value} {S : Nat → Prop} {st : St} {a : Act} {w : World} (I : Inv E ι S (findL st.tm) (findL st.mem) a w) : ∀ {caps capN : List Nat}, capsOk caps capN st → (caps.map fun t => a.tmps.getD t undef) = capN.map ι
 | [], [], _ => rfl
 | t :: ts, k :: ks, h => by
  rw [List.map_cons, List.map_cons, capsOk_vs I h.2]
  obtain ⟨b, h1, h2⟩ := I.tms t _ h.1
  rw [h2, h1]
 | [], _ :: _, h => h.elim
 | _ :: _, [], h => h.elim
end Go.Proofs.YtoingpafcodojaaGreatDoor

namespace Go.Proofs.YtoingpafcodojaaGreatDoor
open Go.RowKit

theorem sle_fixO {nx0 : Nat} {tm : List (Nat × TV)} {mem : List (Nat × Blk)} {nx : Nat} (k0 j k : Nat) {cells : List CV} {tg0 tg : TypeId} {dl : List D} (h0 : findL mem k0 = some (.obj cells tg0)) (hj : cells[j]? = some (.ptr k 0)) (hk : findL mem k = some (.obj (dl.map .d) tg)) (hne : Nat.beq k0 k = false) :
    SLe nx0 ⟨tm, (k0, .obj (cells.set j (.eptr dl)) tg0) :: (k, .dead) :: mem, nx⟩ ⟨tm, mem, nx⟩ := fun E a w he ⟨ι, S, I⟩ => by
  have hne' := Nat.ne_of_beq_eq_false hne
  obtain ⟨b, arr, ty, e1, e2, e3, e4⟩ := I.blk k _ hk
  have hbk : blkOf (ι k) = some b := by rw [e1]; rfl
  obtain ⟨S', hS'⟩ : ∃ S' : Nat → Prop, ∀ g, S' g ↔ S g ∨ g = b := ⟨fun g => S g ∨ g = b, fun _ => Iff.rfl⟩
  have hSS : ∀ g, S g → S' g := fun g h => (hS' g).2 (.inl h)
  have hblt : b < w.heap.size := (Array.getElem?_eq_some_iff.1 e2).1
  have hcase : ∀ n c, findL ((k0, Blk.obj (cells.set j (.eptr dl)) tg0) :: (k, Blk.dead) :: mem) n = some c → c.live = true → (n = k0 ∧ c = .obj (cells.set j (.eptr dl)) tg0) ∨ (n ≠ k ∧ findL mem n = some c) := fun n c hn hl => by
    simp only [findL] at hn
    split at hn
    · rename_i e; cases hn; exact .inl ⟨e.symm, rfl⟩
    · split at hn
      · cases hn; cases hl
      · rename_i e; exact .inr ⟨fun h => e h.symm, hn⟩
  have hold : ∀ n c, findL mem n = some c → c.live = true → n ≠ k → BlkOk ι S' w n c := fun n c hn hl hnk => by
    have hc := I.blk n c hn
    refine BlkOk.mono (fun _ _ => rfl) hSS (fun _ => rfl) (fun _ _ => rfl) (fun _ g hg => ⟨rfl, fun hs => ?_⟩) hc
    rcases (hS' g).1 hs with h | h
    · exact ((hc.sep hl hg).2) h
    · subst h
      exact hnk (I.dst n k c _ g hn hk hl rfl hg hbk)
  refine ⟨ι, S', I.os, I.tape, I.output, I.size, I.old, fun g hg => ?_, fun g hg => hSS g (I.s0 g hg), fun g hg => ?_, fun t tv ht => V.mono (fun _ _ => rfl) hSS (fun _ _ => rfl) (I.tms t tv ht), fun n c hn => ?_, fun n c hn hl g hg => ?_, fun n n' c c' g hn hn' hl hl' hg hg' => ?_, I.dn, I.sz, E.Γ.mono (fun _ _ => rfl) hSS I.gl, I.ik⟩
  · rcases (hS' g).1 hg with h | h
    · exact I.slt g h
    · subst h; exact hblt
  · rcases (hS' g).1 hg with h | h
    · exact I.sg g h
    · subst h
      rcases I.mutb k _ hk rfl g hbk with h | h
      · exact .inr (.inr h)
      · exact .inr (.inl h)
  · cases hl : c.live with
    | false => cases c <;> first | trivial | cases hl
    | true =>
      rcases hcase n c hn hl with ⟨rfl, rfl⟩ | ⟨hnk, hn⟩
      · obtain ⟨b2, arr2, ty2, f1, f2, f3, f4⟩ := hold n _ h0 rfl hne'
        refine ⟨b2, arr2, ty2, f1, f2, ⟨by simpa using f3.len, fun i x u hx hu => ?_⟩, f4⟩
        rw [List.getElem?_set] at hx
        split at hx
        · rename_i ei
          subst ei
          split at hx
          · cases hx
            have : VC ι S' w (.ptr k 0) u := f3.get j _ u hj hu
            obtain ⟨b3, g1, g2⟩ := this
            rw [e1] at g1
            cases g1
            have e3' : All2 (fun (d : D) u => Imm S w d u) dl arr.toList := (All2.of_map_left (R := VC ι S w) (f := CV.d) e3).mono fun _ _ h => h
            refine ⟨b, 0, fun i => arr.toList.getD i undef, g2, fun _ => (hS' b).2 (.inr rfl), fun i d hd => ?_⟩
            obtain ⟨u1, hu1, hd1⟩ := e3'.at_left hd
            rw [Nat.zero_add, cell_of_row w b i arr ty.1 (0, 0) e2]
            have hg : arr.toList.getD i undef = u1 := by rw [List.getD_eq_getElem?_getD, hu1]; rfl
            refine ⟨?_, ?_⟩
            · show arr[i]? = some (arr.toList.getD i undef)
              rw [hg, ← hu1]; simp
            · show Imm S' w d (arr.toList.getD i undef)
              rw [hg]; exact hd1.mono (fun _ _ => rfl) hSS
          · cases hx
        · exact f3.get i x u hx hu
      · exact hold n c hn hl hnk
  · rcases hcase n c hn hl with ⟨rfl, rfl⟩ | ⟨hnk, hn⟩
    · exact I.mutb _ _ h0 rfl g hg
    · exact I.mutb n c hn hl g hg
  · have key : ∀ n c, findL ((k0, Blk.obj (cells.set j (.eptr dl)) tg0) :: (k, Blk.dead) :: mem) n = some c → c.live = true → ∃ c', findL mem n = some c' ∧ c'.live = true := fun n c hn hl => by
      rcases hcase n c hn hl with ⟨rfl, rfl⟩ | ⟨hnk, hn⟩
      · exact ⟨_, h0, rfl⟩
      · exact ⟨c, hn, hl⟩
    obtain ⟨d1, q1, q2⟩ := key n c hn hl
    obtain ⟨d2, q3, q4⟩ := key n' c' hn' hl'
    exact I.dst n n' d1 d2 g q1 q3 q2 q4 hg hg'
def plainOk (L : Nat → Option Lay) (rs : List ResultVar) (r : TV) (st : St) : Prop :=
  match plainT (rs.map (resC L st)) with
  | some ys => TLe (retT ys) r ∧ (retT ys).pure = true
  | none => False
def retOkE (nx0 : Nat) (L : Nat → Option Lay) (rs : List ResultVar) (r : TV) (st : St) : Prop := ∃ st', SLe nx0 st' st ∧ plainOk L rs r st'
theorem end_dataE {C : Ctx} (hL : LOk C.P C.L) {S : Nat → Prop} {w w' : World} {st : St} {a : Act} {dd : List Deferred} {ιx : Nat → Value} {nxx : Nat} {fn : Func} {r : TV} (hR' : RS ⟨w, fun _ => False, S, C.n, C.Γ, ιx, nxx, dd⟩ st a w') (hret : retOkE nxx C.L fn.results.toList r st) :
    ∃ v, (results fn a.tmps).run C.P w' = .ok v w' ∧ ∃ x S', Ending.returned v = .returned x ∧ Below w.heap.size w w' ∧ (∀ b, S b → S' b) ∧ (∀ b, S' b → S b ∨ w.heap.size ≤ b) ∧ (∀ b, S' b → b < w'.heap.size) ∧ V ι0 S' w' r x := by
  obtain ⟨st', hle, hp⟩ := hret
  obtain ⟨ι, S1, I⟩ := hle _ _ _ rfl hR'
  unfold plainOk at hp
  split at hp
  · rename_i ys hy
    obtain ⟨v, h1, h2⟩ := results_okR hL I hy
    refine ⟨v, h1, v, S1, rfl, ⟨I.os, I.tape, I.output, I.size, fun b hb => I.old b hb (fun h => h)⟩, I.s0, fun b hb => ?_, I.slt, hp.1 _ _ _ _ (V.mono (fun _ _ => rfl) (fun _ h => h) (fun k hk => ?_) h2)⟩
    · rcases I.sg b hb with h | h | h
      · exact .inl h
      · exact .inr h
      · exact h.elim
    · rw [TV.pure_men hp.2 k] at hk; cases hk
  · exact hp.elim
def fnQE (nx0 : Nat) (L : Nat → Option Lay) (rs : List ResultVar) (r : TV) (Hit : Value → St → List (Nat × Blk) → Prop) : Exit → St → Prop
  | .normal, st | .ret, st => retOkE nx0 L rs r st
  | .panic ch, st => ∃ v upd, ch = panE v ∧ Hit v st upd ∧ (upd.all fun p => match findL st.mem p.1 with | some b => b.live | none => false) = true ∧ uniqB upd = true ∧ retOkE nx0 L rs r (caughtSt st upd)
  | _, _ => False
theorem fn_ruleE {C : Ctx} {f g : FuncId} {fn : Func} {x0 x1 x2 rg c : Code} {t9 nx2 : Nat} {caps capN : List Nat} (hL : LOk C.P C.L) (hm : C.P.follows .mixedOrders = true) (hf : C.P.funcs[f]? = some fn) (hb : fn.body = some (.seq x0 (.seq x1 (.seq x2 (.seq rg c))))) (hname : (fn.name == "runtime.NumGoroutine") = false)
    (hn : fn.ntmps = C.n) (h0 : C.nx0 = 0) {xs : List T1} (hx : Nat.ble xs.length C.n = true) {r : TV} (Hit : Value → St → List (Nat × Blk) → Prop)
    (hdef : ∀ (a : Act) (w : World) (Q : Exit → Act → World → Prop), a.tmps.size = C.n → (∀ u : Value, Q .normal { tmps := a.tmps.setIfInBounds t9 u, defers := { target := .fn (.func g) (caps.map fun t => a.tmps.getD t undef).toArray, args := #[] } :: a.defers } w) → rg.wp C.P Q a w)
    (henter : ∀ (vs : Array Value) (w : World), (callFunc g vs).run C.P w = .ok (.enter g vs) w)
    (hidle : ∀ (vs : List Value) (w : World), vs.length = capN.length → CallsD C.P g vs.toArray .returning w fun e u' w' => e = .returned (.tuple #[]) ∧ u' = .returning ∧ w' = w)
    (hcn : (capN.all fun k => Nat.blt k nx2) = true)
    (hhit : ∀ v st upd, Hit v st upd → ∀ (ι : Nat → Value) (S : Nat → Prop) (w : World), (∀ b, S b → b < w.heap.size) → C.Γ.G S w → (∀ k b, findL st.mem k = some b → BlkOk ι S w k b) →
      (∀ k k' b b' g, findL st.mem k = some b → findL st.mem k' = some b' → b.live = true → b'.live = true → blkOf (ι k) = some g → blkOf (ι k') = some g → k = k') →
      CallsD C.P g (capN.map ι).toArray (.panicking (panE v)) w fun e' u' w' => e' = .returned (.tuple #[]) ∧ u' = .panicking [{ v, recovered := true }] ∧ ∃ ι' S', After ι S w st.nx ⟨.und, [], upd, []⟩ undef ι' S' w')
    (h : vc C x0 ⟨argTm 0 xs, [], 0⟩ fun e st => match e with
      | .normal => vc C x1 st fun e st => match e with
        | .normal => vc C x2 st fun e st => match e with
          | .normal => capsOk caps capN st ∧ Nat.ble nx2 st.nx = true ∧ vc { C with nx0 := nx2 } c ⟨(t9, .no) :: st.tm, st.mem, st.nx⟩ (fnQE nx2 C.L fn.results.toList r Hit)
          | .ret => retOkE 0 C.L fn.results.toList r st
          | _ => False
        | _ => False
      | _ => False) : CallsA C.P C.Γ f xs r := by
  refine ⟨⟨fn, hf, hname, by rw [hb]; rfl⟩, fun S w vs hS hG hvs => ?_⟩
  have hxl := Nat.le_of_ble_eq_true hx
  have hlen := hvs.len
  refine calls_of_wp_defers hf hb ?_
  have hR : RS ⟨w, fun _ => False, S, C.n, C.Γ, ι0, 0, []⟩ ⟨argTm 0 xs, [], 0⟩ { tmps := vs.toArray ++ Array.replicate (fn.ntmps - vs.toArray.size) undef, defers := [] } w := by
    refine ⟨ι0, S, rfl, rfl, rfl, Nat.le_refl _, fun _ _ _ => rfl, hS, fun _ h => h, fun _ h => .inl h, fun t tv ht => ?_, (fun k b hk => by cases hk), (fun k b hk => by cases hk), (fun k k' b b' g hk => by cases hk), rfl, ?_, hG, fun _ _ => rfl⟩
    · obtain ⟨x, rfl, _, hx⟩ := argTm_find xs 0 t tv ht
      rw [Nat.sub_zero] at hx
      obtain ⟨u, hu, hv⟩ := hvs.at_left hx
      have hlt := (List.getElem?_eq_some_iff.1 hu).1
      have : (vs.toArray ++ Array.replicate (fn.ntmps - vs.toArray.size) undef).getD t undef = u := by
        simp [Array.getElem?_append, hlt, hu]
        have h2 := (List.getElem?_eq_some_iff.1 hu).2
        exact h2
      show V ι0 S w (.o x) _
      dsimp only
      rw [this]
      exact hv
    · simp; omega
  refine wp_seq (Code.wp_mono (fun e a w1 hq => ?_) (vc_ok hL ⟨rfl, rfl, h0.symm⟩ hm x0 _ _ _ w h hR))
  obtain ⟨st1, hR1, hq⟩ := hq
  cases e with
  | normal =>
    refine wp_seq (Code.wp_mono (fun e a1 w1b hq1 => ?_) (vc_ok hL ⟨rfl, rfl, h0.symm⟩ hm x1 _ _ _ w1 hq hR1))
    obtain ⟨st1b, hR1b, hq1⟩ := hq1
    cases e with
    | normal =>
     refine wp_seq (Code.wp_mono (fun e a2 w2 hq2 => ?_) (vc_ok hL ⟨rfl, rfl, h0.symm⟩ hm x2 _ _ _ w1b hq1 hR1b))
     obtain ⟨st2, hR2, hq2⟩ := hq2
     cases e with
     | ret =>
      have hq2 : retOkE 0 C.L fn.results.toList r st2 := hq2
      obtain ⟨v, h1, h2⟩ := end_dataE hL hR2 hq2
      obtain ⟨ι2, S2, I2⟩ := hR2
      show Leaves C.P fn a2.tmps _ a2.defers .returning w2
      rw [I2.dn]
      exact ⟨v, h1, h2⟩
     | normal =>
      obtain ⟨ι2, S2, I2⟩ := hR2
      refine wp_seq (hdef a2 w2 _ I2.sz fun u => ?_)
      rw [I2.dn]
      obtain ⟨hcaps, hnx2, hq2⟩ := hq2
      rw [capsOk_vs I2 hcaps]
      obtain ⟨d, hd⟩ : ∃ d : Deferred, d = { target := .fn (.func g) (capN.map ι2).toArray, args := #[] } := ⟨_, rfl⟩
      rw [← hd]
      have hR3 : RS ⟨w, fun _ => False, S, C.n, C.Γ, ι2, nx2, [d]⟩ ⟨(t9, .no) :: st2.tm, st2.mem, st2.nx⟩ { tmps := a2.tmps.setIfInBounds t9 u, defers := [d] } w2 := by
        refine ⟨ι2, S2, I2.os, I2.tape, I2.output, I2.size, I2.old, I2.slt, I2.s0, I2.sg, fun t tv ht => ?_, I2.blk, I2.mutb, I2.dst, rfl, by simpa using I2.sz, I2.gl, fun _ _ => rfl⟩
        simp only [findL] at ht
        split at ht
        · cases ht; trivial
        · rename_i hne
          have := I2.tms t tv ht
          have e : (a2.tmps.setIfInBounds t9 u).getD t undef = a2.tmps.getD t undef := by
            simp only [Array.getD_eq_getD_getElem?]
            rw [Array.getElem?_setIfInBounds_ne hne]
          show V ι2 S2 w2 tv ((a2.tmps.setIfInBounds t9 u).getD t undef)
          rw [e]
          exact this
      refine Code.wp_mono (fun e a3 w3 hq3 => ?_) (vc_ok (C := { C with nx0 := nx2 }) hL ⟨rfl, rfl, rfl⟩ hm c _ _ _ w2 hq2 hR3)
      obtain ⟨st3, hR4, hq3⟩ := hq3
      have key : retOkE nx2 C.L fn.results.toList r st3 → Leaves C.P fn a3.tmps (fun e w' => ∃ x S', e = .returned x ∧ Below w.heap.size w w' ∧ (∀ b, S b → S' b) ∧ (∀ b, S' b → S b ∨ w.heap.size ≤ b) ∧ (∀ b, S' b → b < w'.heap.size) ∧ V ι0 S' w' r x) a3.defers .returning w3 := fun hret => by
        obtain ⟨v, h1, h2⟩ := end_dataE hL hR4 hret
        obtain ⟨ι4, S4, I4⟩ := hR4
        rw [I4.dn, hd]
        refine leaves_cons (f := g) (args := (capN.map ι2).toArray) (by simp) (by simp [invoke, henter]) ?_
        refine (hidle _ _ (by simp)).mono ?_
        rintro e' u' w4 ⟨rfl, rfl, rfl⟩
        exact ⟨v, h1, h2⟩
      cases e with
      | normal => exact key hq3
      | ret => exact key hq3
      | panic ch =>
        obtain ⟨v, upd, rfl, hh, hlive, huq, hret⟩ := hq3
        obtain ⟨ι4, S4, I4⟩ := hR4
        show Leaves C.P fn a3.tmps _ a3.defers (.panicking (panE v)) w3
        rw [I4.dn, hd]
        have hι : capN.map ι2 = capN.map ι4 := List.map_congr_left fun k hk => (I4.ik k (by have := List.all_eq_true.1 hcn k hk; simpa [Nat.blt_eq] using this)).symm
        rw [hι]
        refine leaves_cons (f := g) (args := (capN.map ι4).toArray) (by simp) (by simp [invoke, henter]) ?_
        refine (hhit v st3 upd hh ι4 S4 w3 I4.slt I4.gl I4.blk I4.dst).mono ?_
        rintro e' u' w4 ⟨rfl, rfl, ι5, S5, A⟩
        have I5 := step_inv (tm' := findL st3.tm) (a' := a3) I4 A (fun k b hk => ?_) (fun i hi => by simp at hi) (fun h => by simp at h) (fun k b b' => uniqB_ok huq k b b') (fun hSb hmen t tv ht => ?_) I4.dn I4.sz
        · have hR5 : RS ⟨w, fun _ => False, S, C.n, C.Γ, ι2, nx2, [d]⟩ (caughtSt st3 upd) a3 w4 := by
            refine ⟨ι5, S5, ?_⟩
            have e : updF (findL st3.mem) ⟨.und, [], upd, []⟩ st3.nx = findL (caughtSt st3 upd).mem := updF_step st3 none ⟨.und, [], upd, []⟩
            rw [← e]
            exact I5
          obtain ⟨v5, h1, h2⟩ := end_dataE hL hR5 hret
          exact ⟨v5, h1, h2⟩
        · have := List.all_eq_true.1 hlive _ hk
          simp only at this
          split at this
          · rename_i b' hb'; exact ⟨b', hb', this⟩
          · cases this
        · exact V.mono hSb A.smono (hmen tv fun i hi => by simp at hi) (I4.tms t tv ht)
      | _ => exact hq3.elim
     | _ => exact hq2.elim
    | _ => exact hq1.elim
  | _ => exact hq.elim
end Go.Proofs.YtoingpafcodojaaGreatDoor

namespace Go.Proofs.YtoingpafcodojaaGreatDoor
open Go.RowKit

def wordF (size : Int) (little : Bool) : List UInt8 :=
 let e : List UInt8 := if little = true then [108, 101] else [98, 101]
 if size = 1 then [117, 56] else if size = 2 then [117, 49, 54] ++ e else if size = 3 then [117, 50, 52] ++ e else if size = 4 then [117, 51, 50] ++ e else if size = 8 then [117, 54, 52] ++ e else []
theorem word_c (size : Int) (little : Bool) : CallsA Tryz.prog Γ0 114 [c1 (di size), c1 (db little)] (Tstr (bs (wordF size little))) := by
 by_cases h : size = 1 ∨ size = 2 ∨ size = 3 ∨ size = 4 ∨ size = 8
 ·rcases h with rfl | rfl | rfl | rfl | rfl <;> cases little
  all_goals
   refine fn_rule (C := ⟨Tryz.prog, layF, Tryz.f114.ntmps, Γ0, 0, [], []⟩) layF_ok mixed Tryz.func114 rfl (by kernel_rfl) rfl rfl rfl ?_
   repeat' (first | refine (and_mk (by decide)) ?_ | refine qg1 ?_ | refine eD ?_ ?_ <;> intro)
   first | exact TLe.rfl | exact TLe.eq (congrArg (fun s => Tstr s) (bs_app _ _))
 ·rw [show wordF size little = [] by unfold wordF; rw [if_neg (by omega), if_neg (by omega), if_neg (by omega), if_neg (by omega), if_neg (by omega)]]
  cases little
  all_goals
   refine fn_rule (C := ⟨Tryz.prog, layF, Tryz.f114.ntmps, Γ0, 0, [], []⟩) layF_ok mixed Tryz.func114 rfl (by kernel_rfl) rfl rfl rfl ?_
   repeat' (first | refine qgs ?_ | refine eD ?_ ?_ <;> intro)
   exact TLe.rfl
theorem level_c (w : List UInt8) : CallsA Tryz.prog Γ0 154 [c1 (ds (bs w))] (Ti (levelV w)) := by
 by_cases hm : w ∈ levelsL.map (·.1)
 ·simp only [levelsL, List.map_cons, List.map_nil, List.mem_cons, List.not_mem_nil, or_false] at hm
  rcases hm with rfl | rfl | rfl | rfl | rfl | rfl | rfl | rfl | rfl | rfl | rfl | rfl | rfl | rfl | rfl | rfl | rfl
  all_goals
   refine fn_rule (C := ⟨Tryz.prog, layF, Tryz.f154.ntmps, Γ0, 0, [], []⟩) layF_ok mixed Tryz.func154 rfl (by kernel_rfl) rfl rfl rfl ?_
   repeat' (first | refine qgs ?_ | refine eD ?_ ?_ <;> intro)
   exact TLe.eq (congrArg (fun n : Nat => Ti (n : Int)) (show _ = levelV _ by decide +kernel))
 ·have hne : ∀ l, l ∈ levelsL.map (·.1) → ¬ bs w = bs l := fun l hl he => hm (by rw [bsj.1 he]; exact hl)
  have h0 : levelV w = 0 := by
   have : List.find? (fun p => p.1 == w) levelsL = none := List.find?_eq_none.2 (fun p hp he => hm (List.mem_map.2 ⟨p, hp, by simpa using he⟩))
   unfold levelV; rw [this]; rfl
  rw [h0]
  refine fn_rule (C := ⟨Tryz.prog, layF, Tryz.f154.ntmps, Γ0, 0, [], []⟩) layF_ok mixed Tryz.func154 rfl (by kernel_rfl) rfl rfl rfl ?_
  repeat' (first | refine ex_false (hne _ (by decide)) ?_ | refine qg1 ?_ | refine eD ?_ ?_ <;> intro)
  exact TLe.rfl
def szL : List Nat := [1, 2, 3, 4, 8]
theorem integer_none {w : List UInt8} (h : ∀ k, k < 5 → ∀ l, wordF (szL.getD k 0 : Nat) l ≠ w) : integerV w = none := by
 have hn : w ∉ intsL.map (·.1) := by
  intro hm
  simp only [intsL, List.map_cons, List.map_nil, List.mem_cons, List.not_mem_nil, or_false] at hm
  rcases hm with rfl | rfl | rfl | rfl | rfl | rfl | rfl | rfl | rfl
  ·exact h 0 (by decide) false rfl
  ·exact h 1 (by decide) false rfl
  ·exact h 1 (by decide) true rfl
  ·exact h 2 (by decide) false rfl
  ·exact h 2 (by decide) true rfl
  ·exact h 3 (by decide) false rfl
  ·exact h 3 (by decide) true rfl
  ·exact h 4 (by decide) false rfl
  ·exact h 4 (by decide) true rfl
 exact Option.map_eq_none_iff.2 (List.find?_eq_none.2 fun p hp he => hn (List.mem_map.2 ⟨p, hp, by simpa using he⟩))
def intTV : Option (Nat × Bool) → TV
 | some (n, l) => .tup [c1 (di n), c1 (db l), c1 (db true)]
 | none => .tup [c1 (di 0), c1 (db false), c1 (db false)]
set_option maxHeartbeats 2000000 in
theorem integer_c (w : List UInt8) : CallsA Tryz.prog Γ0 82 [c1 (ds (bs w))] (intTV (integerV w)) := by
 refine fn_rule (C := ⟨Tryz.prog, layF, Tryz.f82.ntmps, Γ0, 0, [], []⟩) layF_ok mixed Tryz.func82 rfl (by kernel_rfl) rfl rfl rfl ?_
 repeat' (first | refine qgs ?_ | refine eD ?_ ?_ <;> intro)
 refine ex_loop (X := Nat) (fun i => ⟨[(0, Tstr (bs w)), (9, .o (gD [di 1, di 2, di 3, di 4, di 8])), (10, Ti i)], [], 0⟩) (fun i => 5 - i) (fun i => i ≤ 5 ∧ ∀ k, k < i → ∀ l, wordF (szL.getD k 0 : Nat) l ≠ w) 0 ⟨by omega, fun k h => absurd h (by omega)⟩ sS ?_
 rintro i ⟨hi, hP⟩
 by_cases h5 : i = 5
 ·subst h5
  rw [integer_none hP]
  repeat' (first | refine qgs ?_ | refine eD ?_ ?_ <;> intro)
  exact TLe.rfl
 ·have key : ∀ (z : Nat), szL.getD i 0 = z → (∀ l, wordF z l ≠ w) → ∀ k, k < i + 1 → ∀ l, wordF (szL.getD k 0 : Nat) l ≠ w := fun z hz hl k hk l => by
   by_cases e : k = i
   ·subst e; rw [hz]; exact hl l
   ·exact hP k (by omega) l
  rcases (show i = 0 ∨ i = 1 ∨ i = 2 ∨ i = 3 ∨ i = 4 by omega) with rfl | rfl | rfl | rfl | rfl
  ·repeat' (first | refine (ex_is ([.d (di 1)] : List CV) rfl) ?_ | refine qg1 ?_ | refine eD ?_ ?_ <;> intro)
   refine ex_loop (X := Nat) (fun j => ⟨[(0, Tstr (bs w)), (6, Ti 1), (9, .o (gD [di 1, di 2, di 3, di 4, di 8])), (10, Ti 0), (13, .o (gD [db false, db true])), (14, Ti j)], [], 0⟩) (fun j => 2 - j) (fun j => j ≤ 2 ∧ (0 < j → wordF 1 false ≠ w) ∧ (1 < j → wordF 1 true ≠ w)) 0 ⟨by omega, fun h => absurd h (by omega), fun h => absurd h (by omega)⟩ sS ?_
   rintro j ⟨hj, q0, q1⟩
   rcases (show j = 0 ∨ j = 1 ∨ j = 2 by omega) with rfl | rfl | rfl
   ·repeat' (first | refine ex_call (word_c 1 false) ?_ | refine (ex_is ([.d (db false)] : List CV) rfl) ?_ | refine qg1 ?_ | refine eD ?_ ?_ <;> intro)
    ·rename_i e
     obtain rfl := bsj.1 e
     exact TLe.rfl
    ·rename_i e
     exact ex_round 1 ⟨by omega, fun _ h => e (by rw [h]), fun h => absurd h (by omega)⟩ (by show 2 - 1 < 2 - 0; decide) sS
   ·repeat' (first | refine ex_call (word_c 1 true) ?_ | refine (ex_is ([.d (db true)] : List CV) rfl) ?_ | refine qg1 ?_ | refine eD ?_ ?_ <;> intro)
    ·rename_i e
     obtain rfl := bsj.1 e
     first | exact TLe.rfl | exact absurd rfl (q0 (by omega))
    ·rename_i e
     exact ex_round 2 ⟨by omega, fun _ => q0 (by omega), fun _ h => e (by rw [h])⟩ (by show 2 - 2 < 2 - 1; decide) sS
   ·repeat' (first | refine qgs ?_ | refine eD ?_ ?_ <;> intro)
    exact ex_round (0 + 1) ⟨by omega, key 1 (by decide) fun l => by cases l; exact q0 (by omega); exact q1 (by omega)⟩ (by show 5 - (0 + 1) < 5 - 0; omega) sS
  ·repeat' (first | refine (ex_is ([.d (di 2)] : List CV) rfl) ?_ | refine qg1 ?_ | refine eD ?_ ?_ <;> intro)
   refine ex_loop (X := Nat) (fun j => ⟨[(0, Tstr (bs w)), (6, Ti 2), (9, .o (gD [di 1, di 2, di 3, di 4, di 8])), (10, Ti 1), (13, .o (gD [db false, db true])), (14, Ti j)], [], 0⟩) (fun j => 2 - j) (fun j => j ≤ 2 ∧ (0 < j → wordF 2 false ≠ w) ∧ (1 < j → wordF 2 true ≠ w)) 0 ⟨by omega, fun h => absurd h (by omega), fun h => absurd h (by omega)⟩ sS ?_
   rintro j ⟨hj, q0, q1⟩
   rcases (show j = 0 ∨ j = 1 ∨ j = 2 by omega) with rfl | rfl | rfl
   ·repeat' (first | refine ex_call (word_c 2 false) ?_ | refine (ex_is ([.d (db false)] : List CV) rfl) ?_ | refine qg1 ?_ | refine eD ?_ ?_ <;> intro)
    ·rename_i e
     obtain rfl := bsj.1 e
     exact TLe.rfl
    ·rename_i e
     exact ex_round 1 ⟨by omega, fun _ h => e (by rw [h]), fun h => absurd h (by omega)⟩ (by show 2 - 1 < 2 - 0; decide) sS
   ·repeat' (first | refine ex_call (word_c 2 true) ?_ | refine (ex_is ([.d (db true)] : List CV) rfl) ?_ | refine qg1 ?_ | refine eD ?_ ?_ <;> intro)
    ·rename_i e
     obtain rfl := bsj.1 e
     first | exact TLe.rfl | exact absurd rfl (q0 (by omega))
    ·rename_i e
     exact ex_round 2 ⟨by omega, fun _ => q0 (by omega), fun _ h => e (by rw [h])⟩ (by show 2 - 2 < 2 - 1; decide) sS
   ·repeat' (first | refine qgs ?_ | refine eD ?_ ?_ <;> intro)
    exact ex_round (1 + 1) ⟨by omega, key 2 (by decide) fun l => by cases l; exact q0 (by omega); exact q1 (by omega)⟩ (by show 5 - (1 + 1) < 5 - 1; omega) sS
  ·repeat' (first | refine (ex_is ([.d (di 3)] : List CV) rfl) ?_ | refine qg1 ?_ | refine eD ?_ ?_ <;> intro)
   refine ex_loop (X := Nat) (fun j => ⟨[(0, Tstr (bs w)), (6, Ti 3), (9, .o (gD [di 1, di 2, di 3, di 4, di 8])), (10, Ti 2), (13, .o (gD [db false, db true])), (14, Ti j)], [], 0⟩) (fun j => 2 - j) (fun j => j ≤ 2 ∧ (0 < j → wordF 3 false ≠ w) ∧ (1 < j → wordF 3 true ≠ w)) 0 ⟨by omega, fun h => absurd h (by omega), fun h => absurd h (by omega)⟩ sS ?_
   rintro j ⟨hj, q0, q1⟩
   rcases (show j = 0 ∨ j = 1 ∨ j = 2 by omega) with rfl | rfl | rfl
   ·repeat' (first | refine ex_call (word_c 3 false) ?_ | refine (ex_is ([.d (db false)] : List CV) rfl) ?_ | refine qg1 ?_ | refine eD ?_ ?_ <;> intro)
    ·rename_i e
     obtain rfl := bsj.1 e
     exact TLe.rfl
    ·rename_i e
     exact ex_round 1 ⟨by omega, fun _ h => e (by rw [h]), fun h => absurd h (by omega)⟩ (by show 2 - 1 < 2 - 0; decide) sS
   ·repeat' (first | refine ex_call (word_c 3 true) ?_ | refine (ex_is ([.d (db true)] : List CV) rfl) ?_ | refine qg1 ?_ | refine eD ?_ ?_ <;> intro)
    ·rename_i e
     obtain rfl := bsj.1 e
     first | exact TLe.rfl | exact absurd rfl (q0 (by omega))
    ·rename_i e
     exact ex_round 2 ⟨by omega, fun _ => q0 (by omega), fun _ h => e (by rw [h])⟩ (by show 2 - 2 < 2 - 1; decide) sS
   ·repeat' (first | refine qgs ?_ | refine eD ?_ ?_ <;> intro)
    exact ex_round (2 + 1) ⟨by omega, key 3 (by decide) fun l => by cases l; exact q0 (by omega); exact q1 (by omega)⟩ (by show 5 - (2 + 1) < 5 - 2; omega) sS
  ·repeat' (first | refine (ex_is ([.d (di 4)] : List CV) rfl) ?_ | refine qg1 ?_ | refine eD ?_ ?_ <;> intro)
   refine ex_loop (X := Nat) (fun j => ⟨[(0, Tstr (bs w)), (6, Ti 4), (9, .o (gD [di 1, di 2, di 3, di 4, di 8])), (10, Ti 3), (13, .o (gD [db false, db true])), (14, Ti j)], [], 0⟩) (fun j => 2 - j) (fun j => j ≤ 2 ∧ (0 < j → wordF 4 false ≠ w) ∧ (1 < j → wordF 4 true ≠ w)) 0 ⟨by omega, fun h => absurd h (by omega), fun h => absurd h (by omega)⟩ sS ?_
   rintro j ⟨hj, q0, q1⟩
   rcases (show j = 0 ∨ j = 1 ∨ j = 2 by omega) with rfl | rfl | rfl
   ·repeat' (first | refine ex_call (word_c 4 false) ?_ | refine (ex_is ([.d (db false)] : List CV) rfl) ?_ | refine qg1 ?_ | refine eD ?_ ?_ <;> intro)
    ·rename_i e
     obtain rfl := bsj.1 e
     exact TLe.rfl
    ·rename_i e
     exact ex_round 1 ⟨by omega, fun _ h => e (by rw [h]), fun h => absurd h (by omega)⟩ (by show 2 - 1 < 2 - 0; decide) sS
   ·repeat' (first | refine ex_call (word_c 4 true) ?_ | refine (ex_is ([.d (db true)] : List CV) rfl) ?_ | refine qg1 ?_ | refine eD ?_ ?_ <;> intro)
    ·rename_i e
     obtain rfl := bsj.1 e
     first | exact TLe.rfl | exact absurd rfl (q0 (by omega))
    ·rename_i e
     exact ex_round 2 ⟨by omega, fun _ => q0 (by omega), fun _ h => e (by rw [h])⟩ (by show 2 - 2 < 2 - 1; decide) sS
   ·repeat' (first | refine qgs ?_ | refine eD ?_ ?_ <;> intro)
    exact ex_round (3 + 1) ⟨by omega, key 4 (by decide) fun l => by cases l; exact q0 (by omega); exact q1 (by omega)⟩ (by show 5 - (3 + 1) < 5 - 3; omega) sS
  ·repeat' (first | refine (ex_is ([.d (di 8)] : List CV) rfl) ?_ | refine qg1 ?_ | refine eD ?_ ?_ <;> intro)
   refine ex_loop (X := Nat) (fun j => ⟨[(0, Tstr (bs w)), (6, Ti 8), (9, .o (gD [di 1, di 2, di 3, di 4, di 8])), (10, Ti 4), (13, .o (gD [db false, db true])), (14, Ti j)], [], 0⟩) (fun j => 2 - j) (fun j => j ≤ 2 ∧ (0 < j → wordF 8 false ≠ w) ∧ (1 < j → wordF 8 true ≠ w)) 0 ⟨by omega, fun h => absurd h (by omega), fun h => absurd h (by omega)⟩ sS ?_
   rintro j ⟨hj, q0, q1⟩
   rcases (show j = 0 ∨ j = 1 ∨ j = 2 by omega) with rfl | rfl | rfl
   ·repeat' (first | refine ex_call (word_c 8 false) ?_ | refine (ex_is ([.d (db false)] : List CV) rfl) ?_ | refine qg1 ?_ | refine eD ?_ ?_ <;> intro)
    ·rename_i e
     obtain rfl := bsj.1 e
     exact TLe.rfl
    ·rename_i e
     exact ex_round 1 ⟨by omega, fun _ h => e (by rw [h]), fun h => absurd h (by omega)⟩ (by show 2 - 1 < 2 - 0; decide) sS
   ·repeat' (first | refine ex_call (word_c 8 true) ?_ | refine (ex_is ([.d (db true)] : List CV) rfl) ?_ | refine qg1 ?_ | refine eD ?_ ?_ <;> intro)
    ·rename_i e
     obtain rfl := bsj.1 e
     first | exact TLe.rfl | exact absurd rfl (q0 (by omega))
    ·rename_i e
     exact ex_round 2 ⟨by omega, fun _ => q0 (by omega), fun _ h => e (by rw [h])⟩ (by show 2 - 2 < 2 - 1; decide) sS
   ·repeat' (first | refine qgs ?_ | refine eD ?_ ?_ <;> intro)
    exact ex_round (4 + 1) ⟨by omega, key 8 (by decide) fun l => by cases l; exact q0 (by omega); exact q1 (by omega)⟩ (by show 5 - (4 + 1) < 5 - 4; omega) sS
theorem key_c (w : List UInt8) :
  CallsA Tryz.prog Γ0 81 [c1 (ds (bs w))] (Tb (keyV w)) := by
 by_cases hm : w ∈ keysL
 ·rw [show keyV w = true by unfold keyV; rw [List.contains_iff_mem.2 hm]; rfl]
  simp only [keysL, List.mem_cons, List.not_mem_nil, or_false] at hm
  rcases hm with rfl | rfl | rfl | rfl | rfl | rfl | rfl | rfl | rfl | rfl | rfl | rfl | rfl | rfl | rfl | rfl | rfl | rfl | rfl
  all_goals
   refine fn_rule (C := ⟨Tryz.prog, layF, Tryz.f81.ntmps, Γ0, 0, [], []⟩) layF_ok mixed Tryz.func81 rfl (by kernel_rfl) rfl rfl rfl ?_
   repeat' (first | refine qgs ?_ | refine eD ?_ ?_ <;> intro)
   exact TLe.rfl
 ·have hne : ∀ l, l ∈ keysL → ¬ bs w = bs l := fun l hl he => hm (by rw [bsj.1 he]; exact hl)
  have hk : keyV w = (integerV w).isSome := by unfold keyV; rw [show keysL.contains w = false by simpa using hm]; rfl
  rw [hk]
  have hc := integer_c w
  rcases hv : integerV w with _ | ⟨n, l⟩ <;> rw [hv] at hc
  ·have hc : CallsA Tryz.prog Γ0 82 [c1 (ds (bs w))] (.tup [c1 (di 0), c1 (db false), c1 (db false)]) := hc
   refine fn_rule (C := ⟨Tryz.prog, layF, Tryz.f81.ntmps, Γ0, 0, [], []⟩) layF_ok mixed Tryz.func81 rfl (by kernel_rfl) rfl rfl rfl ?_
   repeat' (first | refine ex_call hc ?_ | refine ex_false (hne _ (by decide)) ?_ | refine qg1 ?_ | refine eD ?_ ?_ <;> intro)
   exact TLe.rfl
  ·have hc : CallsA Tryz.prog Γ0 82 [c1 (ds (bs w))] (.tup [c1 (di n), c1 (db l), c1 (db true)]) := hc
   refine fn_rule (C := ⟨Tryz.prog, layF, Tryz.f81.ntmps, Γ0, 0, [], []⟩) layF_ok mixed Tryz.func81 rfl (by kernel_rfl) rfl rfl rfl ?_
   repeat' (first | refine ex_call hc ?_ | refine ex_false (hne _ (by decide)) ?_ | refine qg1 ?_ | refine eD ?_ ?_ <;> intro)
   exact TLe.rfl
end Go.Proofs.YtoingpafcodojaaGreatDoor
