/- Texts that the last one leans on: The types' table of this program, as literals. No condition. Rules for walking code over the abstract state. No condition. strconv.FormatUint at base 10 beside the lexer's variables. Condition: a uint64. A row that is written no more is data wherever it is named. No condition. A walk by itself: tests are split (those that cannot be are left away), reckonings that stay within bounds, ends of drawing regions, calls met by the contracts named. No condition. Short words for steps of a walk (bundle.py puts them in, so that a claim stays small). Condition: none. A function whose first result is a row of its own, kept as a row. No condition. A function whose results keep their names: pointers to objects, rows. No condition. Data that reads as other data; a contract met with such arguments. No condition. A function of data whose result is flat, called with rows that stay with their names. No condition. A name that is given up; a row under a new name. No condition. A function that may panic: the memory it was handed is then given up. Its first state may be told in other words. No condition. A function whose one deferred closure recovers. No condition. A function with one deferred closure that recovers and an early end, whose results may be pointers to still cells; an object that is written no more. No condition. What the lexer's text asks of the library: TrimLeft, HasPrefix, CutPrefix, Cut; ParseUint at bases 10 and 16. Conditions: ASCII sets; digits  -/
import Derived.Test.YtidnlfkakhmadaaGreatDoorRows
import Derived.Lib.AppendIntMem
import Derived.Defers
import Derived.Recover
import Derived.Shelf.Strings.SlTrimAscii
import Derived.Test.YtidnlfkakhmadaaGreatDoorBnd1
import Derived.Test.YtidnlfkakhmadaaGreatDoorBnd2
import Derived.Test.YtidnlfkakhmadaaGreatDoorBnd3
set_option linter.unusedVariables false
set_option linter.unusedSimpArgs false
set_option maxRecDepth 100000
namespace Go.Proofs.YtidnlfkakhmadaaGreatDoor

def lay : List (Nat × Lay) := [
 (1, ⟨1, 8, [.nilFunc], .other⟩),
 (2, ⟨1, 8, [.int .i64 0], .int .i64⟩),
 (3, ⟨1, 8, [.int .i64 0], .int .i64⟩),
 (4, ⟨1, 1, [.bool false], .bool⟩),
 (5, ⟨1, 1, [.int .u8 0], .int .u8⟩),
 (6, ⟨1, 1, [.int .u8 0], .int .u8⟩),
 (7, ⟨4, 24, [.int .i64 0, .int .i64 0, .bool false, .int .u8 0], .st [(0, 1, false), (1, 1, false), (2, 1, false), (3, 1, false)]⟩),
 (8, ⟨4, 24, [.int .i64 0, .int .i64 0, .bool false, .int .u8 0], .st [(0, 1, false), (1, 1, false), (2, 1, false), (3, 1, false)]⟩),
 (9, ⟨1, 16, [.string ⟨#[]⟩], .str⟩),
 (10, ⟨1, 16, [.string ⟨#[]⟩], .str⟩),
 (11, ⟨1, 16, [.string ⟨#[]⟩], .str⟩),
 (12, ⟨1, 8, [.int .u64 0], .int .u64⟩),
 (13, ⟨2, 24, [.string ⟨#[]⟩, .int .u64 0], .st [(0, 1, false), (1, 1, false)]⟩),
 (14, ⟨2, 24, [.string ⟨#[]⟩, .int .u64 0], .st [(0, 1, false), (1, 1, false)]⟩),
 (15, ⟨1, 8, [.pointer none], .other⟩),
 (16, ⟨1, 8, [.pointer none], .other⟩),
 (17, ⟨1, 8, [.pointer none], .other⟩),
 (18, ⟨1, 8, [.pointer none], .st [(0, 1, false)]⟩),
 (19, ⟨1, 8, [.pointer none], .st [(0, 1, false)]⟩),
 (20, ⟨1, 16, [.nilIface], .other⟩),
 (21, ⟨1, 4, [.int .i32 0], .int .i32⟩),
 (22, ⟨1, 24, [.slice none 0 0], .sl 5⟩),
 (23, ⟨1, 24, [.slice none 0 0], .sl 40⟩),
 (24, ⟨2, 16, [.int .i64 0, .int .i64 0], .st [(0, 1, false), (1, 1, false)]⟩),
 (25, ⟨2, 16, [.int .i64 0, .int .i64 0], .st [(0, 1, false), (1, 1, false)]⟩),
 (26, ⟨1, 8, [.int .i64 0], .int .i64⟩),
 (28, ⟨1, 8, [.nilFunc], .other⟩),
 (29, ⟨1, 8, [.pointer none], .other⟩),
 (31, ⟨1, 8, [.nilFunc], .other⟩),
 (32, ⟨1, 8, [.nilFunc], .other⟩),
 (33, ⟨1, 24, [.slice none 0 0], .sl 9⟩),
 (34, ⟨1, 8, [.pointer none], .other⟩),
 (35, ⟨2, 32, [.pointer none, .slice none 0 0], .st [(0, 1, false), (1, 1, false)]⟩),
 (36, ⟨2, 32, [.pointer none, .slice none 0 0], .st [(0, 1, false), (1, 1, false)]⟩),
 (37, ⟨1, 8, [.int .i64 0], .int .i64⟩),
 (38, ⟨1, 8, [.int .u64 0], .int .u64⟩),
 (39, ⟨5, 48, [.int .i64 0, .string ⟨#[]⟩, .int .u64 0, .int .i64 0, .int .i64 0], .st [(0, 1, false), (1, 1, false), (2, 1, false), (3, 2, true)]⟩),
 (40, ⟨5, 48, [.int .i64 0, .string ⟨#[]⟩, .int .u64 0, .int .i64 0, .int .i64 0], .st [(0, 1, false), (1, 1, false), (2, 1, false), (3, 2, true)]⟩),
 (41, ⟨1, 16, [.nilIface], .other⟩),
 (42, ⟨1, 16, [.nilIface], .other⟩),
 (44, ⟨1, 8, [.nilFunc], .other⟩),
 (45, ⟨1, 8, [.nilFunc], .other⟩),
 (46, ⟨1, 8, [.nilFunc], .other⟩),
 (47, ⟨1, 8, [.nilFunc], .other⟩),
 (48, ⟨1, 8, [.nilFunc], .other⟩),
 (49, ⟨1, 8, [.nilFunc], .other⟩),
 (50, ⟨1, 24, [.slice none 0 0], .sl 79⟩),
 (51, ⟨1, 24, [.slice none 0 0], .sl 62⟩),
 (52, ⟨1, 24, [.slice none 0 0], .sl 59⟩),
 (53, ⟨1, 24, [.slice none 0 0], .sl 88⟩),
 (54, ⟨4, 96, [.slice none 0 0, .slice none 0 0, .slice none 0 0, .slice none 0 0], .st [(0, 1, false), (1, 1, false), (2, 1, false), (3, 1, false)]⟩),
 (55, ⟨4, 96, [.slice none 0 0, .slice none 0 0, .slice none 0 0, .slice none 0 0], .st [(0, 1, false), (1, 1, false), (2, 1, false), (3, 1, false)]⟩),
 (56, ⟨1, 8, [.int .i64 0], .int .i64⟩),
 (57, ⟨1, 24, [.slice none 0 0], .sl 3⟩),
 (58, ⟨5, 72, [.int .i64 0, .string ⟨#[]⟩, .int .u64 0, .string ⟨#[]⟩, .slice none 0 0], .st [(0, 1, false), (1, 1, false), (2, 1, false), (3, 1, false), (4, 1, false)]⟩),
 (59, ⟨5, 72, [.int .i64 0, .string ⟨#[]⟩, .int .u64 0, .string ⟨#[]⟩, .slice none 0 0], .st [(0, 1, false), (1, 1, false), (2, 1, false), (3, 1, false), (4, 1, false)]⟩),
 (60, ⟨1, 24, [.slice none 0 0], .sl 115⟩),
 (61, ⟨3, 64, [.string ⟨#[]⟩, .slice none 0 0, .slice none 0 0], .st [(0, 1, false), (1, 1, false), (2, 1, false)]⟩),
 (62, ⟨3, 64, [.string ⟨#[]⟩, .slice none 0 0, .slice none 0 0], .st [(0, 1, false), (1, 1, false), (2, 1, false)]⟩),
 (63, ⟨1, 8, [.pointer none], .other⟩),
 (64, ⟨3, 32, [.string ⟨#[]⟩, .int .i64 0, .int .i64 0], .st [(0, 1, false), (1, 2, true)]⟩),
 (65, ⟨3, 32, [.string ⟨#[]⟩, .int .i64 0, .int .i64 0], .st [(0, 1, false), (1, 2, true)]⟩),
 (67, ⟨1, 8, [.nilFunc], .other⟩),
 (68, ⟨1, 8, [.nilFunc], .other⟩),
 (69, ⟨3, 24, [.int .i64 0, .int .i64 0, .int .i64 0], .st [(0, 2, true), (2, 1, false)]⟩),
 (70, ⟨3, 24, [.int .i64 0, .int .i64 0, .int .i64 0], .st [(0, 2, true), (2, 1, false)]⟩),
 (71, ⟨1, 8, [.pointer none], .other⟩),
 (72, ⟨4, 48, [.slice none 0 0, .int .i64 0, .int .i64 0, .pointer none], .st [(0, 1, false), (1, 1, false), (2, 1, false), (3, 1, false)]⟩),
 (73, ⟨4, 48, [.slice none 0 0, .int .i64 0, .int .i64 0, .pointer none], .st [(0, 1, false), (1, 1, false), (2, 1, false), (3, 1, false)]⟩),
 (75, ⟨1, 8, [.nilFunc], .other⟩),
 (76, ⟨1, 8, [.pointer none], .other⟩),
 (77, ⟨1, 8, [.nilFunc], .other⟩),
 (78, ⟨2, 24, [.string ⟨#[]⟩, .int .u64 0], .st [(0, 1, false), (1, 1, false)]⟩),
 (79, ⟨2, 24, [.string ⟨#[]⟩, .int .u64 0], .st [(0, 1, false), (1, 1, false)]⟩),
 (80, ⟨1, 8, [.nilFunc], .other⟩),
 (81, ⟨1, 8, [.nilFunc], .other⟩),
 (82, ⟨1, 8, [.nilFunc], .other⟩),
 (83, ⟨1, 8, [.nilFunc], .other⟩),
 (84, ⟨1, 8, [.nilFunc], .other⟩),
 (85, ⟨1, 8, [.int .i64 0], .int .i64⟩),
 (86, ⟨1, 24, [.slice none 0 0], .sl 120⟩),
 (87, ⟨8, 104, [.int .i64 0, .int .i64 0, .bool false, .string ⟨#[]⟩, .slice none 0 0, .int .i64 0, .int .i64 0, .slice none 0 0], .st [(0, 1, false), (1, 1, false), (2, 1, false), (3, 1, false), (4, 1, false), (5, 1, false), (6, 1, false), (7, 1, false)]⟩),
 (88, ⟨8, 104, [.int .i64 0, .int .i64 0, .bool false, .string ⟨#[]⟩, .slice none 0 0, .int .i64 0, .int .i64 0, .slice none 0 0], .st [(0, 1, false), (1, 1, false), (2, 1, false), (3, 1, false), (4, 1, false), (5, 1, false), (6, 1, false), (7, 1, false)]⟩),
 (89, ⟨1, 8, [.nilFunc], .other⟩),
 (91, ⟨1, 8, [.nilFunc], .other⟩),
 (92, ⟨1, 8, [.nilFunc], .other⟩),
 (93, ⟨1, 8, [.nilFunc], .other⟩),
 (94, ⟨1, 8, [.nilFunc], .other⟩),
 (96, ⟨1, 8, [.nilFunc], .other⟩),
 (97, ⟨1, 8, [.nilFunc], .other⟩),
 (98, ⟨29, 464, [.string ⟨#[]⟩, .string ⟨#[]⟩, .string ⟨#[]⟩, .string ⟨#[]⟩, .string ⟨#[]⟩, .string ⟨#[]⟩, .string ⟨#[]⟩, .string ⟨#[]⟩, .string ⟨#[]⟩, .string ⟨#[]⟩, .string ⟨#[]⟩, .string ⟨#[]⟩, .string ⟨#[]⟩, .string ⟨#[]⟩, .string ⟨#[]⟩, .string ⟨#[]⟩, .string ⟨#[]⟩, .string ⟨#[]⟩, .string ⟨#[]⟩, .string ⟨#[]⟩, .string ⟨#[]⟩, .string ⟨#[]⟩, .string ⟨#[]⟩, .string ⟨#[]⟩, .string ⟨#[]⟩, .string ⟨#[]⟩, .string ⟨#[]⟩, .string ⟨#[]⟩, .string ⟨#[]⟩], .arr 29 9⟩),
 (99, ⟨1, 8, [.nilFunc], .other⟩),
 (100, ⟨1, 8, [.nilFunc], .other⟩),
 (101, ⟨1, 8, [.nilFunc], .other⟩),
 (102, ⟨1, 8, [.nilFunc], .other⟩),
 (103, ⟨1, 8, [.nilFunc], .other⟩),
 (104, ⟨1, 8, [.pointer none], .other⟩),
 (105, ⟨1, 8, [.nilFunc], .other⟩),
 (106, ⟨3, 24, [.pointer none, .int .i64 0, .bool false], .st [(0, 1, false), (1, 1, false), (2, 1, false)]⟩),
 (107, ⟨3, 24, [.pointer none, .int .i64 0, .bool false], .st [(0, 1, false), (1, 1, false), (2, 1, false)]⟩),
 (108, ⟨1, 8, [.pointer none], .other⟩),
 (109, ⟨1, 8, [.nilFunc], .other⟩),
 (110, ⟨1, 8, [.nilFunc], .other⟩),
 (111, ⟨1, 8, [.nilFunc], .other⟩),
 (112, ⟨1, 8, [.int .i64 0], .int .i64⟩),
 (113, ⟨1, 24, [.slice none 0 0], .sl 136⟩),
 (114, ⟨9, 112, [.string ⟨#[]⟩, .int .i64 0, .int .i64 0, .string ⟨#[]⟩, .string ⟨#[]⟩, .int .i64 0, .int .i64 0, .bool false, .slice none 0 0], .st [(0, 1, false), (1, 1, false), (2, 1, false), (3, 1, false), (4, 1, false), (5, 1, false), (6, 1, false), (7, 1, false), (8, 1, false)]⟩),
 (115, ⟨9, 112, [.string ⟨#[]⟩, .int .i64 0, .int .i64 0, .string ⟨#[]⟩, .string ⟨#[]⟩, .int .i64 0, .int .i64 0, .bool false, .slice none 0 0], .st [(0, 1, false), (1, 1, false), (2, 1, false), (3, 1, false), (4, 1, false), (5, 1, false), (6, 1, false), (7, 1, false), (8, 1, false)]⟩),
 (116, ⟨1, 8, [.nilFunc], .other⟩),
 (117, ⟨1, 8, [.nilFunc], .other⟩),
 (118, ⟨1, 8, [.nilFunc], .other⟩),
 (119, ⟨2, 16, [.int .u64 0, .int .i64 0], .st [(0, 1, false), (1, 1, false)]⟩),
 (120, ⟨2, 16, [.int .u64 0, .int .i64 0], .st [(0, 1, false), (1, 1, false)]⟩),
 (121, ⟨5, 40, [.int .i64 0, .int .i64 0, .int .i64 0, .int .i64 0, .int .i64 0], .arr 5 3⟩),
 (122, ⟨2, 2, [.bool false, .bool false], .arr 2 4⟩),
 (123, ⟨1, 8, [.nilFunc], .other⟩),
 (124, ⟨1, 8, [.nilFunc], .other⟩),
 (126, ⟨1, 8, [.nilFunc], .other⟩),
 (128, ⟨1, 8, [.nilFunc], .other⟩),
 (129, ⟨1, 8, [.nilFunc], .other⟩),
 (130, ⟨1, 8, [.nilFunc], .other⟩),
 (131, ⟨1, 8, [.nilFunc], .other⟩),
 (132, ⟨1, 8, [.nilFunc], .other⟩),
 (133, ⟨1, 8, [.nilFunc], .other⟩),
 (134, ⟨1, 8, [.nilFunc], .other⟩),
 (135, ⟨2, 24, [.string ⟨#[]⟩, .int .i64 0], .st [(0, 1, false), (1, 1, false)]⟩),
 (136, ⟨2, 24, [.string ⟨#[]⟩, .int .i64 0], .st [(0, 1, false), (1, 1, false)]⟩),
 (137, ⟨1, 8, [.nilFunc], .other⟩),
 (138, ⟨256, 256, [.bool false, .bool false, .bool false, .bool false, .bool false, .bool false, .bool false, .bool false, .bool false, .bool false, .bool false, .bool false, .bool false, .bool false, .bool false, .bool false, .bool false, .bool false, .bool false, .bool false, .bool false, .bool false, .bool false, .bool false, .bool false, .bool false, .bool false, .bool false, .bool false, .bool false, .bool false, .bool false, .bool false, .bool false, .bool false, .bool false, .bool false, .bool false, .bool false, .bool false, .bool false, .bool false, .bool false, .bool false, .bool false, .bool false, .bool false, .bool false, .bool false, .bool false, .bool false, .bool false, .bool false, .bool false, .bool false, .bool false, .bool false, .bool false, .bool false, .bool false, .bool false, .bool false, .bool false, .bool false, .bool false, .bool false, .bool false, .bool false, .bool false, .bool false, .bool false, .bool false, .bool false, .bool false, .bool false, .bool false, .bool false, .bool false, .bool false, .bool false, .bool false, .bool false, .bool false, .bool false, .bool false, .bool false, .bool false, .bool false, .bool false, .bool false, .bool false, .bool false, .bool false, .bool false, .bool false, .bool false, .bool false, .bool false, .bool false, .bool false, .bool false, .bool false, .bool false, .bool false, .bool false, .bool false, .bool false, .bool false, .bool false, .bool false, .bool false, .bool false, .bool false, .bool false, .bool false, .bool false, .bool false, .bool false, .bool false, .bool false, .bool false, .bool false, .bool false, .bool false, .bool false, .bool false, .bool false, .bool false, .bool false, .bool false, .bool false, .bool false, .bool false, .bool false, .bool false, .bool false, .bool false, .bool false, .bool false, .bool false, .bool false, .bool false, .bool false, .bool false, .bool false, .bool false, .bool false, .bool false, .bool false, .bool false, .bool false, .bool false, .bool false, .bool false, .bool false, .bool false, .bool false, .bool false, .bool false, .bool false, .bool false, .bool false, .bool false, .bool false, .bool false, .bool false, .bool false, .bool false, .bool false, .bool false, .bool false, .bool false, .bool false, .bool false, .bool false, .bool false, .bool false, .bool false, .bool false, .bool false, .bool false, .bool false, .bool false, .bool false, .bool false, .bool false, .bool false, .bool false, .bool false, .bool false, .bool false, .bool false, .bool false, .bool false, .bool false, .bool false, .bool false, .bool false, .bool false, .bool false, .bool false, .bool false, .bool false, .bool false, .bool false, .bool false, .bool false, .bool false, .bool false, .bool false, .bool false, .bool false, .bool false, .bool false, .bool false, .bool false, .bool false, .bool false, .bool false, .bool false, .bool false, .bool false, .bool false, .bool false, .bool false, .bool false, .bool false, .bool false, .bool false, .bool false, .bool false, .bool false, .bool false, .bool false, .bool false, .bool false, .bool false, .bool false, .bool false, .bool false, .bool false, .bool false, .bool false, .bool false, .bool false, .bool false, .bool false, .bool false, .bool false, .bool false, .bool false, .bool false, .bool false, .bool false, .bool false, .bool false], .arr 256 4⟩),
 (139, ⟨256, 256, [.bool false, .bool false, .bool false, .bool false, .bool false, .bool false, .bool false, .bool false, .bool false, .bool false, .bool false, .bool false, .bool false, .bool false, .bool false, .bool false, .bool false, .bool false, .bool false, .bool false, .bool false, .bool false, .bool false, .bool false, .bool false, .bool false, .bool false, .bool false, .bool false, .bool false, .bool false, .bool false, .bool false, .bool false, .bool false, .bool false, .bool false, .bool false, .bool false, .bool false, .bool false, .bool false, .bool false, .bool false, .bool false, .bool false, .bool false, .bool false, .bool false, .bool false, .bool false, .bool false, .bool false, .bool false, .bool false, .bool false, .bool false, .bool false, .bool false, .bool false, .bool false, .bool false, .bool false, .bool false, .bool false, .bool false, .bool false, .bool false, .bool false, .bool false, .bool false, .bool false, .bool false, .bool false, .bool false, .bool false, .bool false, .bool false, .bool false, .bool false, .bool false, .bool false, .bool false, .bool false, .bool false, .bool false, .bool false, .bool false, .bool false, .bool false, .bool false, .bool false, .bool false, .bool false, .bool false, .bool false, .bool false, .bool false, .bool false, .bool false, .bool false, .bool false, .bool false, .bool false, .bool false, .bool false, .bool false, .bool false, .bool false, .bool false, .bool false, .bool false, .bool false, .bool false, .bool false, .bool false, .bool false, .bool false, .bool false, .bool false, .bool false, .bool false, .bool false, .bool false, .bool false, .bool false, .bool false, .bool false, .bool false, .bool false, .bool false, .bool false, .bool false, .bool false, .bool false, .bool false, .bool false, .bool false, .bool false, .bool false, .bool false, .bool false, .bool false, .bool false, .bool false, .bool false, .bool false, .bool false, .bool false, .bool false, .bool false, .bool false, .bool false, .bool false, .bool false, .bool false, .bool false, .bool false, .bool false, .bool false, .bool false, .bool false, .bool false, .bool false, .bool false, .bool false, .bool false, .bool false, .bool false, .bool false, .bool false, .bool false, .bool false, .bool false, .bool false, .bool false, .bool false, .bool false, .bool false, .bool false, .bool false, .bool false, .bool false, .bool false, .bool false, .bool false, .bool false, .bool false, .bool false, .bool false, .bool false, .bool false, .bool false, .bool false, .bool false, .bool false, .bool false, .bool false, .bool false, .bool false, .bool false, .bool false, .bool false, .bool false, .bool false, .bool false, .bool false, .bool false, .bool false, .bool false, .bool false, .bool false, .bool false, .bool false, .bool false, .bool false, .bool false, .bool false, .bool false, .bool false, .bool false, .bool false, .bool false, .bool false, .bool false, .bool false, .bool false, .bool false, .bool false, .bool false, .bool false, .bool false, .bool false, .bool false, .bool false, .bool false, .bool false, .bool false, .bool false, .bool false, .bool false, .bool false, .bool false, .bool false, .bool false, .bool false, .bool false, .bool false, .bool false, .bool false, .bool false, .bool false, .bool false, .bool false, .bool false, .bool false], .arr 256 4⟩),
 (141, ⟨1, 8, [.nilFunc], .other⟩),
 (142, ⟨1, 8, [.nilFunc], .other⟩),
 (143, ⟨1, 8, [.pointer none], .other⟩),
 (145, ⟨1, 8, [.nilFunc], .other⟩),
 (146, ⟨1, 8, [.nilFunc], .other⟩),
 (147, ⟨1, 8, [.nilFunc], .other⟩),
 (148, ⟨1, 8, [.nilFunc], .other⟩),
 (149, ⟨1, 8, [.pointer none], .other⟩),
 (150, ⟨1, 8, [.nilFunc], .other⟩),
 (151, ⟨1, 8, [.nilFunc], .other⟩),
 (152, ⟨1, 8, [.nilFunc], .other⟩),
 (154, ⟨1, 8, [.nilFunc], .other⟩),
 (155, ⟨1, 8, [.nilFunc], .other⟩),
 (156, ⟨1, 8, [.nilFunc], .other⟩),
 (157, ⟨1, 8, [.nilFunc], .other⟩),
 (158, ⟨1, 8, [.int .u64 0], .int .u64⟩),
 (159, ⟨1, 8, [.int .i64 0], .int .i64⟩),
 (160, ⟨1, 8, [.nilFunc], .other⟩),
 (161, ⟨1, 8, [.pointer none], .other⟩),
 (162, ⟨1, 8, [.nilFunc], .other⟩),
 (163, ⟨1, 8, [.nilFunc], .other⟩),
 (164, ⟨1, 8, [.nilFunc], .other⟩),
 (165, ⟨1, 8, [.nilFunc], .other⟩),
 (167, ⟨1, 8, [.nilFunc], .other⟩),
 (168, ⟨1, 8, [.nilFunc], .other⟩),
 (169, ⟨1, 8, [.nilFunc], .other⟩),
 (170, ⟨24, 24, [.int .u8 0, .int .u8 0, .int .u8 0, .int .u8 0, .int .u8 0, .int .u8 0, .int .u8 0, .int .u8 0, .int .u8 0, .int .u8 0, .int .u8 0, .int .u8 0, .int .u8 0, .int .u8 0, .int .u8 0, .int .u8 0, .int .u8 0, .int .u8 0, .int .u8 0, .int .u8 0, .int .u8 0, .int .u8 0, .int .u8 0, .int .u8 0], .arr 24 5⟩),
 (171, ⟨1, 8, [.nilFunc], .other⟩),
 (172, ⟨1, 8, [.nilFunc], .other⟩),
 (174, ⟨1, 8, [.nilFunc], .other⟩),
 (175, ⟨1, 8, [.nilFunc], .other⟩),
 (176, ⟨1, 8, [.nilFunc], .other⟩),
 (177, ⟨1, 4, [.int .u32 0], .int .u32⟩),
 (179, ⟨1, 8, [.nilFunc], .other⟩),
 (180, ⟨1, 8, [.nilFunc], .other⟩),
 (181, ⟨3, 48, [.string ⟨#[]⟩, .string ⟨#[]⟩, .nilIface], .st [(0, 1, false), (1, 1, false), (2, 1, false)]⟩),
 (182, ⟨3, 48, [.string ⟨#[]⟩, .string ⟨#[]⟩, .nilIface], .st [(0, 1, false), (1, 1, false), (2, 1, false)]⟩),
 (183, ⟨1, 8, [.nilFunc], .other⟩),
 (184, ⟨1, 8, [.nilFunc], .other⟩),
 (185, ⟨1, 8, [.nilFunc], .other⟩),
 (186, ⟨1, 8, [.nilFunc], .other⟩),
 (187, ⟨1, 8, [.nilFunc], .other⟩),
 (188, ⟨20, 160, [.int .u64 0, .int .u64 0, .int .u64 0, .int .u64 0, .int .u64 0, .int .u64 0, .int .u64 0, .int .u64 0, .int .u64 0, .int .u64 0, .int .u64 0, .int .u64 0, .int .u64 0, .int .u64 0, .int .u64 0, .int .u64 0, .int .u64 0, .int .u64 0, .int .u64 0, .int .u64 0], .arr 20 38⟩),
 (189, ⟨65, 65, [.int .u8 0, .int .u8 0, .int .u8 0, .int .u8 0, .int .u8 0, .int .u8 0, .int .u8 0, .int .u8 0, .int .u8 0, .int .u8 0, .int .u8 0, .int .u8 0, .int .u8 0, .int .u8 0, .int .u8 0, .int .u8 0, .int .u8 0, .int .u8 0, .int .u8 0, .int .u8 0, .int .u8 0, .int .u8 0, .int .u8 0, .int .u8 0, .int .u8 0, .int .u8 0, .int .u8 0, .int .u8 0, .int .u8 0, .int .u8 0, .int .u8 0, .int .u8 0, .int .u8 0, .int .u8 0, .int .u8 0, .int .u8 0, .int .u8 0, .int .u8 0, .int .u8 0, .int .u8 0, .int .u8 0, .int .u8 0, .int .u8 0, .int .u8 0, .int .u8 0, .int .u8 0, .int .u8 0, .int .u8 0, .int .u8 0, .int .u8 0, .int .u8 0, .int .u8 0, .int .u8 0, .int .u8 0, .int .u8 0, .int .u8 0, .int .u8 0, .int .u8 0, .int .u8 0, .int .u8 0, .int .u8 0, .int .u8 0, .int .u8 0, .int .u8 0, .int .u8 0], .arr 65 5⟩),
 (190, ⟨1, 8, [.nilFunc], .other⟩),
 (191, ⟨1, 8, [.nilFunc], .other⟩),
 (192, ⟨1, 8, [.nilFunc], .other⟩),
 (193, ⟨1, 8, [.nilFunc], .other⟩),
 (194, ⟨1, 8, [.nilFunc], .other⟩),
 (195, ⟨256, 256, [.int .u8 0, .int .u8 0, .int .u8 0, .int .u8 0, .int .u8 0, .int .u8 0, .int .u8 0, .int .u8 0, .int .u8 0, .int .u8 0, .int .u8 0, .int .u8 0, .int .u8 0, .int .u8 0, .int .u8 0, .int .u8 0, .int .u8 0, .int .u8 0, .int .u8 0, .int .u8 0, .int .u8 0, .int .u8 0, .int .u8 0, .int .u8 0, .int .u8 0, .int .u8 0, .int .u8 0, .int .u8 0, .int .u8 0, .int .u8 0, .int .u8 0, .int .u8 0, .int .u8 0, .int .u8 0, .int .u8 0, .int .u8 0, .int .u8 0, .int .u8 0, .int .u8 0, .int .u8 0, .int .u8 0, .int .u8 0, .int .u8 0, .int .u8 0, .int .u8 0, .int .u8 0, .int .u8 0, .int .u8 0, .int .u8 0, .int .u8 0, .int .u8 0, .int .u8 0, .int .u8 0, .int .u8 0, .int .u8 0, .int .u8 0, .int .u8 0, .int .u8 0, .int .u8 0, .int .u8 0, .int .u8 0, .int .u8 0, .int .u8 0, .int .u8 0, .int .u8 0, .int .u8 0, .int .u8 0, .int .u8 0, .int .u8 0, .int .u8 0, .int .u8 0, .int .u8 0, .int .u8 0, .int .u8 0, .int .u8 0, .int .u8 0, .int .u8 0, .int .u8 0, .int .u8 0, .int .u8 0, .int .u8 0, .int .u8 0, .int .u8 0, .int .u8 0, .int .u8 0, .int .u8 0, .int .u8 0, .int .u8 0, .int .u8 0, .int .u8 0, .int .u8 0, .int .u8 0, .int .u8 0, .int .u8 0, .int .u8 0, .int .u8 0, .int .u8 0, .int .u8 0, .int .u8 0, .int .u8 0, .int .u8 0, .int .u8 0, .int .u8 0, .int .u8 0, .int .u8 0, .int .u8 0, .int .u8 0, .int .u8 0, .int .u8 0, .int .u8 0, .int .u8 0, .int .u8 0, .int .u8 0, .int .u8 0, .int .u8 0, .int .u8 0, .int .u8 0, .int .u8 0, .int .u8 0, .int .u8 0, .int .u8 0, .int .u8 0, .int .u8 0, .int .u8 0, .int .u8 0, .int .u8 0, .int .u8 0, .int .u8 0, .int .u8 0, .int .u8 0, .int .u8 0, .int .u8 0, .int .u8 0, .int .u8 0, .int .u8 0, .int .u8 0, .int .u8 0, .int .u8 0, .int .u8 0, .int .u8 0, .int .u8 0, .int .u8 0, .int .u8 0, .int .u8 0, .int .u8 0, .int .u8 0, .int .u8 0, .int .u8 0, .int .u8 0, .int .u8 0, .int .u8 0, .int .u8 0, .int .u8 0, .int .u8 0, .int .u8 0, .int .u8 0, .int .u8 0, .int .u8 0, .int .u8 0, .int .u8 0, .int .u8 0, .int .u8 0, .int .u8 0, .int .u8 0, .int .u8 0, .int .u8 0, .int .u8 0, .int .u8 0, .int .u8 0, .int .u8 0, .int .u8 0, .int .u8 0, .int .u8 0, .int .u8 0, .int .u8 0, .int .u8 0, .int .u8 0, .int .u8 0, .int .u8 0, .int .u8 0, .int .u8 0, .int .u8 0, .int .u8 0, .int .u8 0, .int .u8 0, .int .u8 0, .int .u8 0, .int .u8 0, .int .u8 0, .int .u8 0, .int .u8 0, .int .u8 0, .int .u8 0, .int .u8 0, .int .u8 0, .int .u8 0, .int .u8 0, .int .u8 0, .int .u8 0, .int .u8 0, .int .u8 0, .int .u8 0, .int .u8 0, .int .u8 0, .int .u8 0, .int .u8 0, .int .u8 0, .int .u8 0, .int .u8 0, .int .u8 0, .int .u8 0, .int .u8 0, .int .u8 0, .int .u8 0, .int .u8 0, .int .u8 0, .int .u8 0, .int .u8 0, .int .u8 0, .int .u8 0, .int .u8 0, .int .u8 0, .int .u8 0, .int .u8 0, .int .u8 0, .int .u8 0, .int .u8 0, .int .u8 0, .int .u8 0, .int .u8 0, .int .u8 0, .int .u8 0, .int .u8 0, .int .u8 0, .int .u8 0, .int .u8 0, .int .u8 0, .int .u8 0, .int .u8 0, .int .u8 0, .int .u8 0, .int .u8 0, .int .u8 0, .int .u8 0, .int .u8 0, .int .u8 0, .int .u8 0, .int .u8 0, .int .u8 0, .int .u8 0, .int .u8 0, .int .u8 0, .int .u8 0, .int .u8 0, .int .u8 0, .int .u8 0], .arr 256 5⟩),
 (196, ⟨2, 2, [.int .u8 0, .int .u8 0], .st [(0, 1, false), (1, 1, false)]⟩),
 (197, ⟨2, 2, [.int .u8 0, .int .u8 0], .st [(0, 1, false), (1, 1, false)]⟩),
 (198, ⟨32, 32, [.int .u8 0, .int .u8 0, .int .u8 0, .int .u8 0, .int .u8 0, .int .u8 0, .int .u8 0, .int .u8 0, .int .u8 0, .int .u8 0, .int .u8 0, .int .u8 0, .int .u8 0, .int .u8 0, .int .u8 0, .int .u8 0, .int .u8 0, .int .u8 0, .int .u8 0, .int .u8 0, .int .u8 0, .int .u8 0, .int .u8 0, .int .u8 0, .int .u8 0, .int .u8 0, .int .u8 0, .int .u8 0, .int .u8 0, .int .u8 0, .int .u8 0, .int .u8 0], .arr 16 197⟩),
 (199, ⟨1, 8, [.nilFunc], .other⟩),
 (200, ⟨1, 8, [.pointer none], .other⟩),
 (201, ⟨1, 16, [.string ⟨#[]⟩], .st [(0, 1, false)]⟩),
 (202, ⟨1, 16, [.string ⟨#[]⟩], .st [(0, 1, false)]⟩),
 (203, ⟨1, 8, [.nilFunc], .other⟩),
 (204, ⟨1, 8, [.nilFunc], .other⟩),
 (205, ⟨1, 8, [.nilFunc], .other⟩),
 (206, ⟨1, 8, [.nilFunc], .other⟩),
 (207, ⟨32, 32, [.int .u8 0, .int .u8 0, .int .u8 0, .int .u8 0, .int .u8 0, .int .u8 0, .int .u8 0, .int .u8 0, .int .u8 0, .int .u8 0, .int .u8 0, .int .u8 0, .int .u8 0, .int .u8 0, .int .u8 0, .int .u8 0, .int .u8 0, .int .u8 0, .int .u8 0, .int .u8 0, .int .u8 0, .int .u8 0, .int .u8 0, .int .u8 0, .int .u8 0, .int .u8 0, .int .u8 0, .int .u8 0, .int .u8 0, .int .u8 0, .int .u8 0, .int .u8 0], .arr 32 5⟩),
 (208, ⟨64, 64, [.int .u8 0, .int .u8 0, .int .u8 0, .int .u8 0, .int .u8 0, .int .u8 0, .int .u8 0, .int .u8 0, .int .u8 0, .int .u8 0, .int .u8 0, .int .u8 0, .int .u8 0, .int .u8 0, .int .u8 0, .int .u8 0, .int .u8 0, .int .u8 0, .int .u8 0, .int .u8 0, .int .u8 0, .int .u8 0, .int .u8 0, .int .u8 0, .int .u8 0, .int .u8 0, .int .u8 0, .int .u8 0, .int .u8 0, .int .u8 0, .int .u8 0, .int .u8 0, .int .u8 0, .int .u8 0, .int .u8 0, .int .u8 0, .int .u8 0, .int .u8 0, .int .u8 0, .int .u8 0, .int .u8 0, .int .u8 0, .int .u8 0, .int .u8 0, .int .u8 0, .int .u8 0, .int .u8 0, .int .u8 0, .int .u8 0, .int .u8 0, .int .u8 0, .int .u8 0, .int .u8 0, .int .u8 0, .int .u8 0, .int .u8 0, .int .u8 0, .int .u8 0, .int .u8 0, .int .u8 0, .int .u8 0, .int .u8 0, .int .u8 0, .int .u8 0], .arr 64 5⟩),
 (209, ⟨1, 8, [.nilFunc], .other⟩),
 (210, ⟨4, 40, [.pointer none, .pointer none, .pointer none, .string ⟨#[]⟩], .st [(0, 1, false), (1, 1, false), (2, 1, false), (3, 1, false)]⟩),
 (211, ⟨4, 40, [.pointer none, .pointer none, .pointer none, .string ⟨#[]⟩], .st [(0, 1, false), (1, 1, false), (2, 1, false), (3, 1, false)]⟩),
 (212, ⟨0, 0, [], .arr 0 16⟩),
 (213, ⟨0, 0, [], .st [(0, 0, true)]⟩),
 (214, ⟨0, 0, [], .st [(0, 0, true)]⟩),
 (215, ⟨1, 1, [.int .u8 0], .int .u8⟩),
 (216, ⟨1, 1, [.int .u8 0], .int .u8⟩),
 (217, ⟨1, 8, [.nilFunc], .other⟩),
 (218, ⟨1, 4, [.int .i32 0], .int .i32⟩),
 (219, ⟨1, 4, [.int .i32 0], .int .i32⟩),
 (220, ⟨11, 48, [.int .u64 0, .int .u64 0, .int .u32 0, .int .u8 0, .int .u8 0, .int .u8 0, .int .u8 0, .nilFunc, .pointer none, .int .i32 0, .int .i32 0], .st [(0, 1, false), (1, 1, false), (2, 1, false), (3, 1, false), (4, 1, false), (5, 1, false), (6, 1, false), (7, 1, false), (8, 1, false), (9, 1, false), (10, 1, false)]⟩),
 (221, ⟨11, 48, [.int .u64 0, .int .u64 0, .int .u32 0, .int .u8 0, .int .u8 0, .int .u8 0, .int .u8 0, .nilFunc, .pointer none, .int .i32 0, .int .i32 0], .st [(0, 1, false), (1, 1, false), (2, 1, false), (3, 1, false), (4, 1, false), (5, 1, false), (6, 1, false), (7, 1, false), (8, 1, false), (9, 1, false), (10, 1, false)]⟩)]
set_option maxRecDepth 100000 in
theorem lay_all : lay.map (fun p => layOf Tryz.prog p.1) = lay.map (fun p => some p.2) := by kernel_rfl
def layF (t : Nat) : Option Lay := findL lay t
theorem layF_ok : LOk Tryz.prog layF := fun t l h => by
 have := List.map_inj_left.1 lay_all (t, l) (findL_mem h)
 exact this
theorem mixed : Tryz.prog.follows .mixedOrders = true := by kernel_rfl
end Go.Proofs.YtidnlfkakhmadaaGreatDoor

namespace Go.Proofs.YtidnlfkakhmadaaGreatDoor
open Go.RowKit

abbrev di (n : Int) : D := .v (.int .i64 n)
abbrev du (n : Int) : D := .v (.int .u64 n)
abbrev db (b : Bool) : D := .v (.bool b)
abbrev ds (s : ByteArray) : D := .v (.string s)
abbrev dnil : D := .v (.slice none 0 0)
abbrev Ti (n : Int) : TV := .o (.c (.d (.v (.int .i64 n))))
abbrev Tu (n : Int) : TV := .o (.c (.d (.v (.int .u64 n))))
abbrev Tb (b : Bool) : TV := .o (.c (.d (.v (.bool b))))
abbrev c1 (x : D) : T1 := .c (.d x)
abbrev gD (l : List D) : T1 := .g (l.map .d)
def Γ0 : Glob := ⟨fun _ _ => True, fun _ _ _ => trivial, [], fun _ => none, fun _ h => by cases h⟩

section
variable {p q : Prop} {K : Bool → Prop}
theorem ex_dec [Decidable p] (ht : p → K true) (hf : ¬ p → K false) : ∃ b, decide p = b ∧ K b := by
 by_cases h : p
 ·exact ⟨true, decide_eq_true h, ht h⟩
 ·exact ⟨false, decide_eq_false h, hf h⟩
theorem ex_true [Decidable p] (h : p) (hk : K true) : ∃ b, decide p = b ∧ K b := ⟨true, decide_eq_true h, hk⟩
theorem ex_false [Decidable p] (h : ¬ p) (hk : K false) : ∃ b, decide p = b ∧ K b := ⟨false, decide_eq_false h, hk⟩
theorem ex_is {α : Type} {e : α} (z : α) {K : α → Prop} (he : e = z) (h : K z) : ∃ z, e = z ∧ K z := ⟨z, he, h⟩
end
theorem wrap_i64' {n : Int} (h1 : -9223372036854775808 ≤ n) (h2 : n ≤ 9223372036854775807) : IntKind.i64.wrap n = n := by rw [IntKind.wrap_i64]; omega
theorem wrap_un {k : IntKind} (hk : k.signed = false) {n : Int} (h1 : 0 ≤ n) (h2 : n < 2 ^ k.bits) : k.wrap n = n := by
 unfold IntKind.wrap
 simp only [hk, Bool.false_and, Bool.false_eq_true, if_false]
 exact Int.emod_eq_of_lt h1 h2
theorem ex_i64 {e : Int} (z : Int) {K : Int → Prop} (he : e = z) (h1 : -9223372036854775808 ≤ z) (h2 : z ≤ 9223372036854775807) (h : K z) : ∃ z, IntKind.i64.wrap e = z ∧ K z := ⟨z, by rw [he]; exact wrap_i64' h1 h2, h⟩
theorem ex_u64 {e : Int} (z : Int) {K : Int → Prop} (he : e = z) (h1 : 0 ≤ z) (h2 : z < 18446744073709551616) (h : K z) : ∃ z, IntKind.u64.wrap e = z ∧ K z := ⟨z, by rw [he]; exact wrap_un (by rfl) h1 h2, h⟩
theorem ex_u8 {e : Int} (z : Int) {K : Int → Prop} (he : e = z) (h1 : 0 ≤ z) (h2 : z < 256) (h : K z) : ∃ z, IntKind.u8.wrap e = z ∧ K z := ⟨z, by rw [he]; exact wrap_un (by rfl) h1 h2, h⟩
theorem ex_row {α : Type} {f : α → List D} {l : List α} {n : Int} (i : Nat) (x : α) (hn : n = i) (hx : l[i]? = some x) {K : List D → Prop} (h : K (f x)) : ∃ r, 0 ≤ n ∧ (l.map f)[n.toNat]? = some r ∧ K r := by
 subst hn
 exact ⟨f x, by omega, by simp [hx], h⟩
theorem ex_app {α : Type} {r1 r2 : List α} {b : Nat} (n m c : Nat) (h1 : r1.length = n) (h2 : r2.length = m) (hc : Nat.ble b c = true) (hb : (n + m) * c ≤ 140737488355328) {K : Prop} (h : K) : (r1.length + r2.length) * b ≤ 140737488355328 ∧ K := ⟨by
 rw [h1, h2]
 exact Nat.le_trans (Nat.mul_le_mul_left _ (Nat.le_of_ble_eq_true hc)) hb, h⟩
theorem ex_at {α : Type} {f : α → List D} {l : List α} (i : Nat) (x : α) (hx : l[i]? = some x) {K : List D → Prop} {a : Nat} (h : K (f x)) : a = a ∧ ∃ r, (l.map f)[i]? = some r ∧ K r := ⟨rfl, f x, by simp [hx], h⟩
theorem ex_chr {s : ByteArray} {n : Int} (i : Nat) (b : UInt8) (hn : n = i) (hb : s.data.toList[i]? = some b) {K : UInt8 → Prop} (h : K b) : ∃ b, 0 ≤ n ∧ s.data.toList[n.toNat]? = some b ∧ K b := by
 subst hn
 exact ⟨b, by omega, by simpa using hb, h⟩
theorem at_some {α : Type} {l : List α} {i : Nat} (h : i < l.length) : l[i]? = some l[i] := List.getElem?_eq_getElem h
section
variable {P : Program} {Γ : Glob}
theorem ex_call {f : FuncId} {xs : List T1} {r : TV} (h : CallsA P Γ f xs r) {K : TV → Prop} (hk : K r) : ∃ r, CallsA P Γ f xs r ∧ K r := ⟨r, h, hk⟩
theorem ex_callM {f : FuncId} {m : List (Nat × Blk)} {nx : Nat} {xs : List T1} {r : TV} {upd : List (Nat × Blk)} {new : List Blk} (h : CallsM P Γ f m nx xs r upd new) {K : TV → List (Nat × Blk) → List Blk → Prop} (hk : K r upd new) : ∃ r upd new, CallsM P Γ f m nx xs r upd new ∧ K r upd new := ⟨r, upd, new, h, hk⟩
end
theorem ex_loop {X : Type} (f : X → St) (μ : X → Nat) (p : X → Prop) (x0 : X) {nx0 : Nat} {st : St} {V : (I : LoopI) → I.X → Prop} (h0 : p x0) (h1 : SLe nx0 (f x0) st) (h2 : ∀ x, p x → V ⟨X, f, μ, p⟩ x) :
  ∃ (I : LoopI) (x0 : I.X), I.p x0 ∧ SLe nx0 (I.f x0) st ∧ ∀ x, I.p x → V I x := ⟨⟨X, f, μ, p⟩, x0, h0, h1, h2⟩
theorem ex_join {X : Type} (f : X → St) (p : X → Prop) {A : JoinI → Prop} {B : (I : JoinI) → I.X → Prop} (h1 : A ⟨X, f, p⟩) (h2 : ∀ x, p x → B ⟨X, f, p⟩ x) : ∃ I : JoinI, A I ∧ ∀ x, I.p x → B I x := ⟨⟨X, f, p⟩, h1, h2⟩
theorem ex_meet {X : Type} {f : X → St} {p : X → Prop} {nx0 : Nat} {st : St} (x : X) (h0 : p x) (h2 : SLe nx0 (f x) st) : ∃ x, p x ∧ SLe nx0 (f x) st := ⟨x, h0, h2⟩
theorem ex_round {X : Type} {f : X → St} {μ : X → Nat} {p : X → Prop} {nx0 : Nat} {st : St} {x : X} (x' : X) (h0 : p x') (h1 : μ x' < μ x) (h2 : SLe nx0 (f x') st) : ∃ x', p x' ∧ μ x' < μ x ∧ SLe nx0 (f x') st := ⟨x', h0, h1, h2⟩
theorem CLe_nil {ι : Nat → Value} {S : Nat → Prop} {w : World} {s : Nat} {v : Value} (h : VC ι S w (.d (.v (.slice none 0 0))) v) : VC ι S w (.d (.sl s [])) v := by
 have h' : Imm S w _ v := h
 cases h'
 exact Imm.nil
theorem TLe.nil {s : Nat} : TLe (.o (.c (.d (.v (.slice none 0 0))))) (.o (.c (.d (.sl s [])))) := fun ι _ _ _ h => CLe_nil (ι := ι) h
theorem flat_end {S : Nat → Prop} {w w' : World} {r : TV} {v : Value} (hs : ∀ b, S b → b < w.heap.size) (hb : Below w.heap.size w w') (hv : V ι0 S w' r v) : ∃ x S', Ending.returned v = .returned x ∧ Below w.heap.size w w' ∧ (∀ b, S b → S' b) ∧ (∀ b, S' b → S b ∨ w.heap.size ≤ b) ∧ (∀ b, S' b → b < w'.heap.size) ∧ V ι0 S' w' r x :=
 ⟨v, S, rfl, hb, fun _ h => h, fun _ h => .inl h, fun b h => Nat.lt_of_lt_of_le (hs b h) hb.size, hv⟩
theorem CallsM.more {P : Program} {Γ : Glob} {f : FuncId} {m m' : List (Nat × Blk)} {nx : Nat} {xs : List T1} {r : TV} {upd : List (Nat × Blk)} {new : List Blk} (h : CallsM P Γ f m nx xs r upd new) (hm : ∀ p ∈ m, p ∈ m') : CallsM P Γ f m' nx xs r upd new :=
 ⟨h.1, fun ι S w vs hs hG hb hd hv => (h.2 ι S w vs hs hG (fun p hp => hb p (hm p hp)) (fun p hp q hq => hd p (hm p hp) q (hm q hq)) hv).mono fun e w' hX => by
  have conv : ∀ (tv : TV) (x : Value) (ι' : Nat → Value) (S' : Nat → Prop) (w' : World), After ι S w nx ⟨tv, m.map (·.1), upd, new⟩ x ι' S' w' → After ι S w nx ⟨tv, m'.map (·.1), upd, new⟩ x ι' S' w' := fun tv x ι' S' w' A =>
   ⟨A.val, A.keep, A.smono, A.sgrow, A.slt, A.os, A.tape, A.output, A.size, A.heap, A.updok, A.newok, A.newblk, A.newdst⟩
  rcases hX with ⟨x, ι', S', he, A⟩ | ⟨v, ι', S', hr, he, A⟩
  ·exact .inl ⟨x, ι', S', he, conv _ _ _ _ _ A⟩
  ·exact .inr ⟨v, ι', S', hr, he, conv _ _ _ _ _ A⟩⟩
theorem CallsM.of0 {P : Program} {Γ : Glob} {f : FuncId} {m : List (Nat × Blk)} {nx : Nat} {xs : List T1} {r : TV} {upd : List (Nat × Blk)} {new : List Blk} (h : CallsM P Γ0 f m nx xs r upd new) : CallsM P Γ f m nx xs r upd new := ⟨h.1, fun ι S w vs hs _ hb hd hv => h.2 ι S w vs hs trivial hb hd hv⟩
end Go.Proofs.YtidnlfkakhmadaaGreatDoor

namespace Go.Proofs.YtidnlfkakhmadaaGreatDoor
open Go.RowKit Go.Sort Go.Lib

set_option maxHeartbeats 6400000 in
theorem ifmt (n : Nat) (h1 : n < 18446744073709551616) (w : World) (htab : Lib.TabIs Tryz.prog w "internal/strconv.uint64pow10" .u64 Lib.pow10Tab) :
  Calls Tryz.prog 76 #[.int .u64 n, .int .i64 10] w fun e w' => e = .returned (.string ⟨(Lib.decDigits n).toArray⟩) ∧ Below w.heap.size w w' := by
 by_cases hs : n < 100
 ·have hw : IntKind.i64.wrap (n : Int) = n := by rw [IntKind.wrap_i64]; omega
  go_enter Tryz.func76, Tryz.ntmps76
  go_wp2_with (go_at_call 103; refine (Tryz.internal_strconv_small n hs _).mono ?_; rintro e w' ⟨rfl, rfl⟩)
  go_ret
  exact ⟨rfl, Below.refl _ _⟩
 ·have hu1 : 1 ≤ n := by omega
  have hnd20 : Lib.nDigits n ≤ 20 := by have := Lib.numDigits_eq n hu1 h1; split at this <;> omega
  have hb3 : Lib.nDigits n ≤ 24 := by omega
  have hal : Tryz.prog.arrayLen 170 = 24 := by kernel_rfl
  have hsl1 : ∀ W, (Instr.sliceAt 170 (.pointer (some ⟨w.heap.size, 0, none⟩)) none (some (.int .i64 (Lib.nDigits n : Int))) none).run Tryz.prog W = .ok (.slice (some ⟨w.heap.size, 0, none⟩) (Lib.nDigits n) 24) W := fun W => by
   rw [run_sliceAt_array_h W 170 ⟨w.heap.size, 0, none⟩ (by kernel_rfl) .i64 (Lib.nDigits n : Int) (by omega) (by rw [hal]; omega)]
   go_simp
  have hH0 : Holds (fun (b : UInt8) => Value.int .u8 (b.toNat : Int)) (w.alloc (.cells Lib.zeros24 170)) w.heap.size 0 (Array.replicate (Lib.nDigits n) 0) := fun j hj => by
   have hj' : j < Lib.nDigits n := by simpa using hj
   refine ⟨?_, World.frozen?_alloc_new _ _ _ _⟩
   rw [World.cell?_alloc_new, Lib.zeros24_at _ (by omega), getElem!_pos _ j hj]
   simp
  have hfmt := Tryz.internal_strconv_formatBase10 w.heap.size 0 24 n (Array.replicate (Lib.nDigits n) 0) (w.alloc (.cells Lib.zeros24 170)) hH0 (by rw [Array.size_replicate]; exact Lib.lt_pow_nDigits n) h1 (by rw [Array.size_replicate]; omega)
  rw [Array.size_replicate] at hfmt
  have HH0 := Lib.hid hH0
  clear hH0 hal
  go_enter Tryz.func76, Tryz.ntmps76
  go_wp2_with (first
   | (go_at_call 104; refine (Tryz.internal_strconv_numDigits n hu1 h1 _ (Lib.tabIs_alloc htab _)).mono ?_; rintro e w' ⟨rfl, rfl⟩))
  go_at_call 105
  refine hfmt.mono ?_
  rintro e w' ⟨rfl, k, v', dk, rfl, hF⟩
  have hcv : (convert 22 9 (.slice (some ⟨w.heap.size, 0, none⟩) (Lib.nDigits n) 24)).run Tryz.prog ((putRow (fun (b : UInt8) => Value.int .u8 (b.toNat : Int)) (w.alloc (.cells Lib.zeros24 170)) w.heap.size 0 dk).drewN k) = .ok (.string ⟨(Lib.decDigits n).toArray⟩) ((putRow (fun (b : UInt8) => Value.int .u8 (b.toNat : Int)) (w.alloc (.cells Lib.zeros24 170)) w.heap.size 0 dk).drewN k) := by
   have h := run_convert_bytes_back (P := Tryz.prog) ((putRow (fun (b : UInt8) => Value.int .u8 (b.toNat : Int)) (w.alloc (.cells Lib.zeros24 170)) w.heap.size 0 dk).drewN k) 22 9 5 ⟨w.heap.size, 0, none⟩ 24 (Lib.decDigits n) (by kernel_rfl) (by kernel_rfl) (by kernel_rfl) (fun j hj => by
    rw [Lib.row_is_numeral hF j hj, Lib.add_plain, World.cell?_drewN]
    exact cell?_putRow (fun (b : UInt8) => Value.int .u8 (b.toNat : Int)) _ w.heap.size 0 _ dk HH0.out (by rw [hF.size, Array.size_replicate]) j (by rw [hF.size]; rw [Lib.decDigits_length] at hj; exact hj))
   rw [Lib.decDigits_length] at h
   exact h
  go_wp2
  go_ret
  obtain ⟨os, eo⟩ := Lib.fin_at w (.cells Lib.zeros24 170) dk k 0
  rw [eo]
  exact ⟨rfl, Lib.below_grow _ _ (Nat.le_refl _) _ _⟩
theorem fmt (n : Nat) (h1 : n < 18446744073709551616) (w : World) (htab : Lib.TabIs Tryz.prog w "internal/strconv.uint64pow10" .u64 Lib.pow10Tab) :
  Calls Tryz.prog 61 #[.int .u64 n, .int .i64 10] w fun e w' => e = .returned (.string ⟨(Lib.decDigits n).toArray⟩) ∧ Below w.heap.size w w' := by
 go_enter Tryz.func61, Tryz.ntmps61
 go_wp2_with (go_at_call 76; refine (ifmt n h1 _ htab).mono ?_; rintro e w' ⟨rfl, hb⟩)
 go_ret
 exact ⟨rfl, hb⟩
end Go.Proofs.YtidnlfkakhmadaaGreatDoor

namespace Go.Proofs.YtidnlfkakhmadaaGreatDoor
open Go.RowKit

def stC (k : Nat) (d : D) : CV → CV
 | .row j => match Nat.beq j k with
  | true => .d d
  | false => .row j
 | x => x
def stT (k : Nat) (d : D) : T1 → T1
 | .c x => .c (stC k d x)
 | .g l => .g (l.map (stC k d))
 | .f h a l => .f h a (l.map (stC k d))
def stV (k : Nat) (d : D) : TV → TV
 | .o x => .o (stT k d x)
 | .tup l => .tup (l.map (stT k d))
 | x => x
def stB (k : Nat) (d : D) : Blk → Blk
 | .obj l t => .obj (l.map (stC k d)) t
 | x => x
def rpC (k : Nat) : CV → Bool
 | .rptr j _ _ _ => Nat.beq j k
 | .mp j => Nat.beq j k
 | .rsl j _ _ _ => Nat.beq j k
 | .ptr j _ => Nat.beq j k
 | _ => false
def rpT (k : Nat) : T1 → Bool
 | .c x => rpC k x
 | .g l => l.any (rpC k)
 | .f _ _ l => l.any (rpC k)
def rpV (k : Nat) : TV → Bool
 | .o x => rpT k x
 | .tup l => l.any (rpT k)
 | _ => false
def rpB (k : Nat) : Blk → Bool
 | .obj l _ => l.any (rpC k)
 | _ => false
def stX (k : Nat) (d : D) (_ : Nat) (x : TV) : TV := match rpV k x with
 | true => .no
 | false => stV k d x
def stM (k : Nat) (d : D) (j : Nat) (x : Blk) : Blk := match Nat.beq j k || rpB k x with
 | true => .dead
 | false => stB k d x
def stillSt (k : Nat) (d : D) (s : St) : St := ⟨s.tm.map fun p => (p.1, stX k d p.1 p.2), s.mem.map fun p => (p.1, stM k d p.1 p.2), s.nx⟩
theorem findL_map {α β : Type} (F : Nat → α → β) : ∀ (l : List (Nat × α)) (t : Nat), findL (l.map fun p => (p.1, F p.1 p.2)) t = (findL l t).map (F t)
 | [], t => rfl
 | (j, v) :: l, t => by
  simp only [List.map_cons, findL]
  split
  ·rename_i e; subst e; rfl
  ·exact findL_map F l t
section
variable {ι : Nat → Value} {S S' : Nat → Prop} {w : World} {k : Nat} {d : D}
theorem stC_ok (hS : ∀ b, S b → S' b) (hd : Imm S' w d (ι k)) {x : CV} {u : Value} (h : VC ι S w x u) : VC ι S' w (stC k d x) u := by
 cases x with
 | row j =>
  simp only [stC]
  split
  ·rename_i hb
   obtain rfl := Nat.eq_of_beq_eq_true hb
   rw [h.1]
   exact hd
  ·exact VC.mono (x := .row j) (fun _ _ => rfl) hS (fun _ _ => rfl) h
 | d x => exact VC.mono (x := .d x) (fun _ _ => rfl) hS (fun _ _ => rfl) h
 | ptr j o => exact VC.mono (x := .ptr j o) (fun _ _ => rfl) hS (fun _ _ => rfl) h
 | eptr cs => exact VC.mono (x := .eptr cs) (fun _ _ => rfl) hS (fun _ _ => rfl) h
 | rptr a b c e => exact VC.mono (x := .rptr a b c e) (fun _ _ => rfl) hS (fun _ _ => rfl) h
 | mp j => exact VC.mono (x := .mp j) (fun _ _ => rfl) hS (fun _ _ => rfl) h
 | rsl a b c e => exact VC.mono (x := .rsl a b c e) (fun _ _ => rfl) hS (fun _ _ => rfl) h
theorem stT_ok (hS : ∀ b, S b → S' b) (hd : Imm S' w d (ι k)) {x : T1} {u : Value} (h : V1 ι S w x u) : V1 ι S' w (stT k d x) u := by
 cases x with
 | c x => exact stC_ok hS hd h
 | g l =>
  obtain ⟨us, h1, h2⟩ := h
  exact ⟨us, h1, h2.mono (fun a b hab => stC_ok hS hd hab) |> All2.map_left⟩
 | f g a l =>
  obtain ⟨us, h1, h2⟩ := h
  exact ⟨us, h1, h2.mono (fun a b hab => stC_ok hS hd hab) |> All2.map_left⟩
theorem stV_ok (hS : ∀ b, S b → S' b) (hd : Imm S' w d (ι k)) {x : TV} {u : Value} (h : V ι S w x u) : V ι S' w (stV k d x) u := by
 cases x with
 | no => trivial
 | und => exact h
 | o x => exact stT_ok hS hd h
 | tup l =>
  obtain ⟨us, h1, h2⟩ := h
  exact ⟨us, h1, h2.mono (fun a b hab => stT_ok hS hd hab) |> All2.map_left⟩
 | pan v => exact h
end
theorem SLe.still {nx0 : Nat} {s : St} (k size : Nat) (e : TypeId) (rows : List (List D)) (hk : findL s.mem k = some (.row size e rows)) : SLe nx0 (stillSt k (.sl size rows) s) s := fun E a w he ⟨ι, S, I⟩ => by
 have hb0 := I.blk k _ hk
 have hlt := row_lt hb0
 have hS : ∀ b, S b → giveUp ι S [k] b := fun b hb => .inl hb
 have hd : Imm (giveUp ι S [k]) w (.sl size rows) (ι k) := row_imm hb0 hS (fun g hg => .inr ⟨k, by simp, hg⟩)
 have hmem : ∀ n b, findL (stillSt k (.sl size rows) s).mem n = some b → b.live = true → n ≠ k ∧ ∃ b0, findL s.mem n = some b0 ∧ b0.live = true ∧ b = stB k (.sl size rows) b0 := fun n b hb hl => by
  have hb : findL (s.mem.map fun p => (p.1, stM k (.sl size rows) p.1 p.2)) n = some b := hb
  rw [findL_map (stM k (.sl size rows))] at hb
  obtain ⟨b0, h1, h2⟩ := Option.map_eq_some_iff.1 hb
  unfold stM at h2
  split at h2
  ·subst h2; cases hl
  ·rename_i hf
   subst h2
   refine ⟨fun h => ?_, b0, h1, ?_, rfl⟩
   ·rw [Bool.or_eq_false_iff] at hf
    exact absurd h (Nat.ne_of_beq_eq_false hf.1)
   ·cases b0 <;> first | rfl | exact hl
 have hdead : ∀ n b, findL (stillSt k (.sl size rows) s).mem n = some b → b.live = false → b = .dead := fun n b _ hl => by cases b <;> first | rfl | cases hl
 have hS' : ∀ n b, findL s.mem n = some b → b.live = true → n ≠ k → ∀ g, blkOf (ι n) = some g → ¬ giveUp ι S [k] g := fun n b hb hl hn g hg hs => by
  rcases hs with hs | ⟨j, hj, hs⟩
  ·have h := I.blk n b hb
   exact (h.sep hl hg).2 hs
  ·obtain rfl : j = k := by simpa using hj
   exact hn (I.dst n j b _ g hb hk hl rfl hg hs)
 refine ⟨ι, giveUp ι S [k], I.os, I.tape, I.output, I.size, I.old, fun b hb => ?_, fun b hb => .inl (I.s0 b hb), fun b hb => ?_, fun t tv ht => ?_, fun n b hb => ?_, fun n b hb hl g hg => ?_, fun n n' b b' g hb hb' hl hl' hg hg' => ?_, I.dn, I.sz, E.Γ.mono (fun _ _ => rfl) hS I.gl, I.ik⟩
 ·rcases hb with hb | ⟨j, hj, hb⟩
  ·exact I.slt b hb
  ·obtain rfl : j = k := by simpa using hj
   exact (hlt b hb).1
 ·rcases hb with hb | ⟨j, hj, hb⟩
  ·exact I.sg b hb
  ·obtain rfl : j = k := by simpa using hj
   rcases I.mutb j _ hk rfl b hb with h | h
   ·exact .inr (.inr h)
   ·exact .inr (.inl h)
 ·have ht : findL (s.tm.map fun p => (p.1, stX k (.sl size rows) p.1 p.2)) t = some tv := ht
  rw [findL_map (stX k (.sl size rows))] at ht
  obtain ⟨tv0, h1, h2⟩ := Option.map_eq_some_iff.1 ht
  unfold stX at h2
  split at h2
  ·subst h2; trivial
  ·subst h2
   exact stV_ok hS hd (I.tms t tv0 h1)
 ·cases hl : b.live with
  | false => rw [hdead n b hb hl]; trivial
  | true =>
   obtain ⟨hn, b0, h1, h2, rfl⟩ := hmem n b hb hl
   have h := I.blk n b0 h1
   cases b0 with
   | dead => cases h2
   | obj cells tg =>
    obtain ⟨b2, arr, ty, e1, e2, e3, e4⟩ := h
    exact ⟨b2, arr, ty, e1, e2, All2.map_left (e3.mono fun a b hab => stC_ok hS hd hab), hS' n _ h1 rfl hn b2 (by rw [e1]; rfl)⟩
   | row size' e' rows' =>
    obtain ⟨cs, e1, e2, e3, e4⟩ := h
    exact ⟨cs, e1, e2.mono fun a b hab => Imm.mono (fun _ _ => rfl) hS hab, e3, fun g hg => hS' n _ h1 rfl hn g hg⟩
   | map es =>
    obtain ⟨b2, arr, clock, e1, e2, e3, e4⟩ := h
    exact ⟨b2, arr, clock, e1, e2, e3, hS' n _ h1 rfl hn b2 (by rw [e1]; rfl)⟩
 ·obtain ⟨hn, b0, h1, h2, rfl⟩ := hmem n b hb hl
  exact I.mutb n b0 h1 h2 g hg
 ·obtain ⟨hn, b0, h1, h2, rfl⟩ := hmem n b hb hl
  obtain ⟨hn', b0', h1', h2', rfl⟩ := hmem n' b' hb' hl'
  exact I.dst n n' b0 b0' g h1 h1' h2 h2' hg hg'
end Go.Proofs.YtidnlfkakhmadaaGreatDoor

namespace Go.Proofs.YtidnlfkakhmadaaGreatDoor
open Go.RowKit
theorem and_mk {a b : Prop} (h : a) (k : b) : a ∧ b := ⟨h, k⟩
end Go.Proofs.YtidnlfkakhmadaaGreatDoor

namespace Go.Proofs.YtidnlfkakhmadaaGreatDoor
set_option linter.unusedVariables false
set_option linter.unusedSimpArgs false
open Go.RowKit

theorem tT {p : Prop} [Decidable p] {K : Bool → Prop} (k : K true) (h : p := by first | decide | omega | assumption | (with_reducible exact rfl)) : ∃ b, decide p = b ∧ K b := ex_true h k
theorem tF {p : Prop} [Decidable p] {K : Bool → Prop} (k : K false) (h : ¬ p := by first | decide | omega | assumption | exact (fun h => h rfl)) : ∃ b, decide p = b ∧ K b := ex_false h k
theorem t8 {e : Int} {K : Int → Prop} (k : K e) (h1 : 0 ≤ e := by omega) (h2 : e < 256 := by omega) : ∃ z, IntKind.u8.wrap e = z ∧ K z := ex_u8 e rfl h1 h2 k
theorem tI {e : Int} {K : Int → Prop} (k : K e) (h1 : -9223372036854775808 ≤ e := by omega) (h2 : e ≤ 9223372036854775807 := by omega) : ∃ z, IntKind.i64.wrap e = z ∧ K z := ex_i64 e rfl h1 h2 k
theorem tU {e : Int} {K : Int → Prop} (k : K e) (h1 : 0 ≤ e := by omega) (h2 : e < 18446744073709551616 := by omega) : ∃ z, IntKind.u64.wrap e = z ∧ K z := ex_u64 e rfl h1 h2 k
theorem tA {a b : Prop} (k : b) (h : a := by first | omega | (with_reducible rfl) | (show drawOk _ _ _ = true; kernel_rfl)) : a ∧ b := ⟨h, k⟩
theorem tB {a b : Prop} (k : b) (h : a := by exact ⟨_, rfl⟩) : a ∧ b := ⟨h, k⟩
theorem tL {α β : Type} {f : α → β} {l : List α} {K : Nat → Prop} (k : K l.length) : ∃ z, (l.map f).length = z ∧ K z := ⟨_, List.length_map _, k⟩
theorem tN {α : Type} {K : Nat → Prop} (k : K 0) : ∃ z, ([] : List α).length = z ∧ K z := ⟨0, List.length_nil, k⟩
/-- As many steps as there are, one way. -/
structure Hd (H : Prop) : Prop where
  h : H
theorem qgs {G H : Prop} (k : H) (h : Hd H → G := by intro k; (first | refine tT ?_ | refine tF ?_ | refine t8 ?_ | refine tI ?_ | refine tU ?_ | refine tA ?_ | refine tB ?_ | refine tL ?_ | refine tN ?_); (repeat (first | refine tT ?_ | refine tF ?_ | refine t8 ?_ | refine tI ?_ | refine tU ?_ | refine tA ?_ | refine tB ?_ | refine tL ?_ | refine tN ?_)); exact k.h) : G := h ⟨k⟩
/-- One step. -/
theorem qg1 {G H : Prop} (k : H) (h : Hd H → G := by intro k; (first | refine tT ?_ | refine tF ?_ | refine t8 ?_ | refine tI ?_ | refine tU ?_ | refine tA ?_ | refine tB ?_ | refine tL ?_ | refine tN ?_); exact k.h) : G := h ⟨k⟩
theorem eD {p : Prop} [Decidable p] {K : Bool → Prop} (h1 : p → K true) (h2 : ¬ p → K false) : ∃ b, decide p = b ∧ K b := ex_dec h1 h2
theorem aI {e : Int} (z : Int) {K : Int → Prop} (k : K z) (he : e = z := by omega) (h1 : -9223372036854775808 ≤ z := by omega) (h2 : z ≤ 9223372036854775807 := by omega) : ∃ z, IntKind.i64.wrap e = z ∧ K z := ex_i64 z he h1 h2 k
theorem aU {e : Int} (z : Int) {K : Int → Prop} (k : K z) (he : e = z := by omega) (h1 : 0 ≤ z := by omega) (h2 : z < 18446744073709551616 := by omega) : ∃ z, IntKind.u64.wrap e = z ∧ K z := ex_u64 z he h1 h2 k
theorem aB {e : Int} (z : Int) {K : Int → Prop} (k : K z) (he : e = z := by omega) (h1 : 0 ≤ z := by omega) (h2 : z < 256 := by omega) : ∃ z, IntKind.u8.wrap e = z ∧ K z := ex_u8 z he h1 h2 k
theorem sS {nx0 : Nat} {s t : St} (h : s.le t := by repeat' (first | exact trivial | refine ⟨?_, ?_⟩ | exact rfl)) : SLe nx0 s t := SLe.of h
theorem sR {nx0 : Nat} (ps : List (Nat × Nat)) {s t : St} (h1 : leTR ps s.tm t.tm := by repeat' (first | exact trivial | refine ⟨?_, ?_⟩ | exact rfl)) (h2 : leMR ps s.mem t.mem := by repeat' (first | exact trivial | refine ⟨?_, ?_⟩ | exact rfl)) (hc : renChk nx0 ps = true := by rfl) : SLe nx0 s t := SLe.ren ps h1 h2 hc
/-- A list of blocks within another. -/
inductive SubL : List (Nat × Blk) → List (Nat × Blk) → Prop where
  | nil {m : List (Nat × Blk)} : SubL [] m
  | cons {a : Nat × Blk} {l m : List (Nat × Blk)} : SubL l m → SubL (a :: l) (a :: m)
  | skip {a : Nat × Blk} {l m : List (Nat × Blk)} : SubL l m → SubL l (a :: m)
theorem SubL.mem {l m : List (Nat × Blk)} (h : SubL l m) : ∀ p ∈ l, p ∈ m := by
  induction h with
  | nil => intro p hp; cases hp
  | cons _ ih =>
    intro p hp
    rcases List.mem_cons.1 hp with rfl | hp
    · exact List.mem_cons_self
    · exact List.mem_cons_of_mem _ (ih p hp)
  | skip _ ih => exact fun p hp => List.mem_cons_of_mem _ (ih p hp)
theorem sC {P : Program} {Γ : Glob} {f : FuncId} {m m' : List (Nat × Blk)} {nx : Nat} {xs : List T1} {r : TV} {upd : List (Nat × Blk)} {new : List Blk} (h : CallsM P Γ f m nx xs r upd new) {K : TV → List (Nat × Blk) → List Blk → Prop} (hk : K r upd new)
    (hs : SubL m m' := by repeat (first | exact SubL.nil | refine SubL.cons ?_ | refine SubL.skip ?_)) : ∃ r upd new, CallsM P Γ f m' nx xs r upd new ∧ K r upd new := ⟨r, upd, new, h.more hs.mem, hk⟩
end Go.Proofs.YtidnlfkakhmadaaGreatDoor

namespace Go.Proofs.YtidnlfkakhmadaaGreatDoor
open Go.RowKit

def retOkK (L : Nat → Option Lay) (rs : List ResultVar) (ns : List Nat) (nx : Nat) (r : TV) (upd : List (Nat × Blk)) (new : List Blk) (st : St) : Prop :=
 match rs.map (resC L st) with
 | some (.o (.c (.row k))) :: l => match eatT (findL st.mem) l, subMem (findL st.mem) ns, subMem (findL st.mem) [k] with
  | some (y :: ys, ks), some u, some n => (nodupB [k] && disj ks [k] && (ks.all fun k => Nat.ble nx k) && ([k].all fun k => Nat.ble nx k) && closB nx [k] u && closB nx [k] n) = true ∧ TLe (.tup (.c (.row nx) :: y :: ys)) r ∧ renM (expN nx [k]) u = upd ∧ (n.map fun p => p.2.ren (expN nx [k])) = new
  | _, _, _ => False
 | _ => False
def fnQK (L : Nat → Option Lay) (rs : List ResultVar) (ns : List Nat) (nx : Nat) (r : TV) (upd : List (Nat × Blk)) (new : List Blk) : Exit → St → Prop
 | .normal, st | .ret, st => retOkK L rs ns nx r upd new st
 | _, _ => False
theorem core_afterK {C : Ctx} {m : List (Nat × Blk)} {upd : List (Nat × Blk)} {new : List Blk} {ι : Nat → Value} {S : Nat → Prop} {w w' : World} {st : St} {a : Act} {dd : List Deferred} {en : Nat} (hmlt : ∀ p ∈ m, p.1 < C.nx0) : ∀ (ι1 : Nat → Value) (S1 : Nat → Prop) (tv : TV) (x : Value) (ks : List Nat) (u n : List (Nat × Blk)) (src : List Nat), Inv ⟨w, fun g => ∃ p ∈ m, p.2.live = true ∧ blkOf (ι p.1) = some g, S, en, C.Γ, ι, C.nx0, dd⟩ ι1 S1 (findL st.tm) (findL st.mem) a w' →
   (subMem (findL st.mem) (m.map (·.1)) = some u ∧ subMem (findL st.mem) src = some n) → (nodupB src && disj ks src && (ks.all fun k => Nat.ble C.nx0 k) && (src.all fun k => Nat.ble C.nx0 k) && closB C.nx0 src u && closB C.nx0 src n) = true → renM (expN C.nx0 src) u = upd → (n.map fun p => p.2.ren (expN C.nx0 src)) = new →
   (∀ k ∈ ks, ∃ size e rows, findL st.mem k = some (.row size e rows) ∧ BlkOk ι1 S1 w' k (.row size e rows)) → (∀ ι' : Nat → Value, (∀ k, (k < C.nx0 ∨ k ∈ src) → ι' (expN C.nx0 src k) = ι1 k) → V ι' (giveUp ι1 S1 ks) w' tv x) → ∃ ι' S', After ι S w C.nx0 ⟨tv, m.map (·.1), upd, new⟩ x ι' S' w' := fun ι1 S1 tv x ks u n src I hex hchk hu hnw hrows hval => by
   simp only [Bool.and_eq_true] at hchk
   obtain ⟨⟨⟨⟨⟨c1, c2⟩, c3⟩, c4⟩, c5⟩, c6⟩ := hchk
   obtain ⟨hu0, hn0⟩ := hex
   obtain ⟨u1, u2⟩ := subMem_ok hu0
   obtain ⟨n1, n2⟩ := subMem_ok hn0
   have hks : ∀ k ∈ ks, C.nx0 ≤ k := fun k hk => Nat.le_of_ble_eq_true (List.all_eq_true.1 c3 k hk)
   have hsrc : ∀ k ∈ src, C.nx0 ≤ k := fun k hk => Nat.le_of_ble_eq_true (List.all_eq_true.1 c4 k hk)
   have hult : ∀ p ∈ u, p.1 < C.nx0 := fun p hp => by
    have : p.1 ∈ m.map (·.1) := by rw [← u1]; exact List.mem_map.2 ⟨p, hp, rfl⟩
    obtain ⟨q, hq, he⟩ := List.mem_map.1 this
    rw [← he]; exact hmlt q hq
   have hexp : ∀ k, k < C.nx0 → expN C.nx0 src k = k := fun k hk => by
    unfold expN
    have : Nat.blt k C.nx0 = true := by simpa [Nat.blt_eq] using hk
    rw [this]
   have hexs : ∀ k, C.nx0 ≤ k → expN C.nx0 src k = C.nx0 + idxN src k := fun k hk => by
    unfold expN
    have : Nat.blt k C.nx0 = false := by
     cases hb : Nat.blt k C.nx0 with
     | false => rfl
     | true => rw [Nat.blt_eq] at hb; omega
    rw [this]
   have hnl : new.length = src.length := by rw [← hnw, List.length_map, ← n1, List.length_map]
   obtain ⟨ι', hι'⟩ : ∃ ι' : Nat → Value, ∀ k, ι' k = if C.nx0 ≤ k ∧ k < C.nx0 + new.length then ι1 (src.getD (k - C.nx0) 0) else ι k := ⟨_, fun _ => rfl⟩
   have hlow : ∀ k, k < C.nx0 → ι' k = ι1 k := fun k hk => by rw [hι', if_neg (by omega), I.ik k hk]
   have hρ : ∀ k, (k < C.nx0 ∨ k ∈ src) → ι' (expN C.nx0 src k) = ι1 k := fun k hk => by
    by_cases hlt : k < C.nx0
    ·rw [hexp k hlt]; exact hlow k hlt
    ·have hks : k ∈ src := by rcases hk with h | h; exact absurd h hlt; exact h
     obtain ⟨i1, i2⟩ := idxN_at hks
     rw [hexs k (by omega), hι', if_pos (by omega), show C.nx0 + idxN src k - C.nx0 = idxN src k by omega]
     simp [List.getD, i1]
   have hclos : ∀ {l : List (Nat × Blk)}, closB C.nx0 src l = true → ∀ p ∈ l, ∀ k, p.2.men k = true → k < C.nx0 ∨ k ∈ src := fun {l} hl p hp k hk => by
    have := List.all_eq_true.1 (List.all_eq_true.1 hl p hp) k (men_refs hk)
    rcases (by simpa only [Bool.or_eq_true] using this : _ ∨ _) with h | h
    ·left; rw [Nat.blt_eq] at h; exact h
    ·right
     obtain ⟨k', hk', e⟩ := List.any_eq_true.1 h
     rw [Nat.eq_of_beq_eq_true e]; exact hk'
   have hI := I
   -- a block of what the caller handed in belongs to a name that has been given up, if it isn't that name's own any more
   have hM : ∀ g, (∃ p ∈ m, p.2.live = true ∧ blkOf (ι p.1) = some g) → (∃ k, (k, Blk.dead) ∈ upd ∧ blkOf (ι k) = some g) ∨ ∃ p ∈ u, p.2.live = true ∧ blkOf (ι1 p.1) = some g := fun g ⟨p, hp, hl, hg⟩ => by
    obtain ⟨q, hq, he⟩ : ∃ q ∈ u, q.1 = p.1 := by
     have : p.1 ∈ u.map (·.1) := by rw [u1]; exact List.mem_map.2 ⟨p, hp, rfl⟩
     obtain ⟨q, hq, he⟩ := List.mem_map.1 this
     exact ⟨q, hq, he⟩
    cases hql : q.2.live with
    | true => exact .inr ⟨q, hq, hql, by rw [I.ik q.1 (hult q hq), he]; exact hg⟩
    | false =>
     refine .inl ⟨q.1, ?_, by rw [he]; exact hg⟩
     rw [← hu]
     refine List.mem_map.2 ⟨q, hq, ?_⟩
     rw [hexp q.1 (hult q hq)]
     have : q.2 = .dead := by cases hb : q.2 <;> simp_all [Blk.live]
     rw [this]; rfl
   have hnoS : ∀ p : Nat × Blk, findL st.mem p.1 = some p.2 → p.2.live = true → (p.1 < C.nx0 ∨ p.1 ∈ src) → ∀ g, blkOf (ι1 p.1) = some g → ¬ giveUp ι1 S1 ks g := fun p hp hl hpk g hg hgu => by
    rcases hgu with h | ⟨k, hk, h⟩
    ·exact ((I.blk p.1 p.2 hp).own hl hg).1 h
    ·obtain ⟨size, e, rows, hmk, _⟩ := hrows k hk
     have := I.dst p.1 k p.2 _ g hp hmk hl rfl hg h
     rcases hpk with hpk | hpk
     ·have := hks k hk; omega
     ·rw [this] at hpk
      exact disj_spec c2 hk hpk
   have hok : ∀ {l : List (Nat × Blk)}, (∀ p ∈ l, findL st.mem p.1 = some p.2) → closB C.nx0 src l = true → (∀ p ∈ l, p.1 < C.nx0 ∨ p.1 ∈ src) → ∀ p ∈ l, BlkOk ι' (giveUp ι1 S1 ks) w' (expN C.nx0 src p.1) (p.2.ren (expN C.nx0 src)) := fun {l} h1 h2 h3 p hp => by
    refine BlkOk_to (ι := ι1) (fun _ => hρ _ (h3 p hp)) (fun k hk => hρ k (hclos h2 p hp k hk)) ?_
    exact BlkOk.mono (fun _ _ => rfl) (fun b hb => .inl hb) (fun _ => rfl) (fun _ _ => rfl) (fun hl g hg => ⟨rfl, hnoS p (h1 p hp) hl (h3 p hp) g hg⟩) (I.blk p.1 p.2 (h1 p hp))
   have hsn : ∀ p ∈ n, p.1 ∈ src := fun p hp => by rw [← n1]; exact List.mem_map.2 ⟨p, hp, rfl⟩
   have hnew : ∀ i b, new[i]? = some b → ∃ p, n[i]? = some p ∧ p ∈ n ∧ src[i]? = some p.1 ∧ b = p.2.ren (expN C.nx0 src) ∧ ι' (C.nx0 + i) = ι1 p.1 := fun i b hb => by
    rw [← hnw, List.getElem?_map] at hb
    obtain ⟨p, hp, rfl⟩ := Option.map_eq_some_iff.1 hb
    have hsi : src[i]? = some p.1 := by rw [← n1, List.getElem?_map, hp]; rfl
    have hlt := (List.getElem?_eq_some_iff.1 hsi).1
    refine ⟨p, hp, List.mem_of_getElem? hp, hsi, rfl, ?_⟩
    rw [hι', if_pos (by omega), show C.nx0 + i - C.nx0 = i by omega]
    simp [List.getD, hsi]
   have hMg : ∀ (g : Nat) (p : Nat × Blk), findL st.mem p.1 = some p.2 → p.2.live = true → p.1 ∈ src → blkOf (ι1 p.1) = some g → (∃ q ∈ m, q.2.live = true ∧ blkOf (ι q.1) = some g) → ∃ k, (k, Blk.dead) ∈ upd ∧ blkOf (ι k) = some g := fun g p hp hl hps hg hMM => by
    rcases hM g hMM with h | ⟨q, hq, hql, hqg⟩
    ·exact h
    ·have := I.dst p.1 q.1 p.2 q.2 g hp (u2 q hq) hl hql hg hqg
     have h1 := hsrc _ hps
     have h2 := hult q hq
     omega
   refine ⟨ι', giveUp ι1 S1 ks, hval ι' hρ, fun k hk => (hι' k).trans (if_neg (by simp only at hk; omega)), fun b hb => .inl (I.s0 b hb), fun b hb => ?_, fun b hb => ?_, I.os, I.tape, I.output, I.size, fun b hb hne => I.old b hb fun ⟨p, hp, _, hg⟩ => ?_, fun k b hk => ?_, fun i b hb => ?_, fun i b hb hl g hg => ?_, fun i j b b' g hb hb' hl hl' hg hg' => ?_⟩
   ·have fin : (∃ p ∈ m, p.2.live = true ∧ blkOf (ι p.1) = some b) → (∀ p ∈ u, p.2.live = true → blkOf (ι1 p.1) = some b → False) → S b ∨ w.heap.size ≤ b ∨ ∃ k, (k, Blk.dead) ∈ upd ∧ blkOf (ι k) = some b := fun hMM hno => by
     rcases hM b hMM with h | ⟨p, hp, hl, hg⟩
     ·exact .inr (.inr h)
     ·exact (hno p hp hl hg).elim
    rcases hb with hb | ⟨k, hk, hb⟩
    ·rcases I.sg b hb with h | h | h
     ·exact .inl h
     ·exact .inr (.inl h)
     ·exact fin h fun p hp hl hg => ((I.blk p.1 p.2 (u2 p hp)).own hl hg).1 hb
    ·obtain ⟨size, e, rows, hmk, _⟩ := hrows k hk
     rcases I.mutb k _ hmk rfl b hb with h | h
     ·exact fin h fun p hp hl hg => by
       have h1 := I.dst p.1 k p.2 _ b (u2 p hp) hmk hl rfl hg hb
       have h2 := hks k hk
       have h3 := hult p hp
       omega
     ·exact .inr (.inl h)
   ·rcases hb with hb | ⟨k, hk, hb⟩
    ·exact I.slt b hb
    ·obtain ⟨size, e, rows, _, hr⟩ := hrows k hk
     exact (row_lt hr b hb).1
   ·refine hne p.1 ?_ hg
    rw [← hu]
    have : p.1 ∈ u.map (·.1) := by rw [u1]; exact List.mem_map.2 ⟨p, hp, rfl⟩
    obtain ⟨q, hq, he⟩ := List.mem_map.1 this
    refine List.mem_map.2 ⟨_, List.mem_map.2 ⟨q, hq, rfl⟩, ?_⟩
    simp only
    rw [hexp q.1 (hult q hq)]
    exact he
   ·rw [← hu] at hk
    obtain ⟨p, hp, he⟩ := List.mem_map.1 hk
    cases he
    exact hok u2 c5 (fun p hp => .inl (hult p hp)) p hp
   ·obtain ⟨p, h1, h2, h3, rfl, h5⟩ := hnew i b hb
    have := hok n2 c6 (fun p hp => .inr (hsn p hp)) p h2
    have hidx : expN C.nx0 src p.1 = C.nx0 + i := by
     rw [hexs _ (hsrc _ (hsn p h2))]
     obtain ⟨i1, i2⟩ := idxN_at (hsn p h2)
     rw [nodupB_at c1 _ _ _ i1 h3]
    rwa [hidx] at this
   ·obtain ⟨p, h1, h2, h3, rfl, h5⟩ := hnew i b hb
    rw [Blk.live_ren] at hl
    rw [h5] at hg
    have hp := n2 p h2
    refine ⟨fun hS => ((I.blk p.1 p.2 hp).own hl hg).1 (I.s0 g hS), ?_⟩
    rcases I.mutb p.1 p.2 hp hl g hg with h | h
    ·exact .inr (hMg g p hp hl (hsn p h2) hg h)
    ·exact .inl h
   ·obtain ⟨p, h1, h2, h3, rfl, h5⟩ := hnew i b hb
    obtain ⟨q, q1, q2, q3, rfl, q5⟩ := hnew j b' hb'
    rw [Blk.live_ren] at hl hl'
    rw [h5] at hg
    rw [q5] at hg'
    have := I.dst p.1 q.1 p.2 q.2 g (n2 p h2) (n2 q q2) hl hl' hg hg'
    rw [← this] at q3
    exact nodupB_at c1 _ _ _ h3 q3
theorem CallsA.toM {P : Program} {Γ : Glob} {f : FuncId} {xs : List T1} {r : TV} (h : CallsA P Γ f xs r) (hx : xs.all T1.pure = true) (hr : r.pure = true) (nx : Nat) : CallsM P Γ f [] nx xs r [] [] :=
 ⟨h.1, fun ι S w vs hs hG _ _ hv => (h.2 S w vs hs hG (hv.mono_mem fun a u ha hau => V1.mono (fun _ _ => rfl) (fun _ h => h) (fun k hk => by rw [T1.pure_men (List.all_eq_true.1 hx a ha) k] at hk; cases hk) hau)).mono fun e w' ⟨x, S', he, hb, hm, hg, hlt, hv⟩ =>
  .inl ⟨x, ι, S', he, ⟨V.mono (fun _ _ => rfl) (fun _ h => h) (fun k hk => by rw [TV.pure_men hr k] at hk; cases hk) hv, fun _ _ => rfl, hm, fun b hb => (hg b hb).elim .inl (fun h => .inr (.inl h)), hlt, hb.os, hb.tape, hb.output, hb.size, fun b hb' _ => hb.block b hb', (fun _ _ h => by simp at h), (fun _ _ h => by simp at h), (fun _ _ h => by simp at h), (fun _ _ _ _ _ h => by simp at h)⟩⟩⟩
end Go.Proofs.YtidnlfkakhmadaaGreatDoor

namespace Go.Proofs.YtidnlfkakhmadaaGreatDoor
open Go.RowKit

def refsC1 : CV → List Nat
 | .ptr k _ | .row k | .rptr k _ _ _ | .mp k | .rsl k _ _ _ => [k]
 | _ => []
def refsT : List T1 → List Nat
 | [] => []
 | .c x :: l => refsC1 x ++ refsT l
 | .g x :: l => x.flatMap refsC1 ++ refsT l
 | .f _ _ x :: l => x.flatMap refsC1 ++ refsT l
theorem men_refsC {x : CV} {k : Nat} (h : x.men k = true) : k ∈ refsC1 x := by
 cases x <;> simp_all [CV.men, refsC1]
theorem men_refs1 {x : T1} {l : List T1} {k : Nat} (hx : x ∈ l) (h : x.men k = true) : k ∈ refsT l := by
 induction l with
 | nil => cases hx
 | cons y l ih =>
  rcases List.mem_cons.1 hx with rfl | hx2
  ·cases x with
   | c x => exact List.mem_append_left _ (men_refsC h)
   | g x =>
    obtain ⟨c, hc, hk⟩ := List.any_eq_true.1 h
    exact List.mem_append_left _ (List.mem_flatMap.2 ⟨c, hc, men_refsC hk⟩)
   | f g a x =>
    obtain ⟨c, hc, hk⟩ := List.any_eq_true.1 h
    exact List.mem_append_left _ (List.mem_flatMap.2 ⟨c, hc, men_refsC hk⟩)
  ·cases y <;> exact List.mem_append_right _ (ih hx2)
theorem men_refsT {ys : List T1} {k : Nat} (h : (retT ys).men k = true) : k ∈ refsT ys := by
 match ys, h with
 | [y], h => exact men_refs1 (x := y) (by simp) h
 | [], h => cases h
 | y :: z :: ys, h =>
  obtain ⟨x, hx, hk⟩ := List.any_eq_true.1 h
  exact men_refs1 hx hk
def retOkR (L : Nat → Option Lay) (rs : List ResultVar) (ns : List Nat) (nx : Nat) (r : TV) (upd : List (Nat × Blk)) (new : List Blk) (st : St) : Prop :=
 match plainT (rs.map (resC L st)) with
 | some ys => forceNs ((reach (findL st.mem) 60 (ns ++ refsT ys) []).filter fun k => Nat.ble nx k) fun src => match subMem (findL st.mem) ns, subMem (findL st.mem) src with
  | some u, some n => (nodupB src && disj [] src && (([] : List Nat).all fun k => Nat.ble nx k) && (src.all fun k => Nat.ble nx k) && closB nx src u && closB nx src n) = true ∧ ((refsT ys).all fun k => Nat.blt k nx || src.any (Nat.beq k)) = true ∧ TLe ((retT ys).ren (expN nx src)) r ∧ renM (expN nx src) u = upd ∧ (n.map fun p => p.2.ren (expN nx src)) = new
  | _, _ => False
 | none => False
def fnQR (L : Nat → Option Lay) (rs : List ResultVar) (ns : List Nat) (nx : Nat) (r : TV) (upd : List (Nat × Blk)) (new : List Blk) : Exit → St → Prop
 | .normal, st | .ret, st => retOkR L rs ns nx r upd new st
 | .panic ch, st => panIs r ch ∧ retOkP ns nx upd new st
 | _, _ => False
theorem results_okR {P : Program} {L : Nat → Option Lay} (hL : LOk P L) {E : Env} {ι : Nat → Value} {S : Nat → Prop} {st : St} {a : Act} {w : World} (I : Inv E ι S (findL st.tm) (findL st.mem) a w) {fn : Func} {ys : List T1}
  (hy : plainT (fn.results.toList.map (resC L st)) = some ys) : ∃ v, (results fn a.tmps).run P w = .ok v w ∧ V ι S w (retT ys) v := by
 have hone : ∀ rv tv, resC L st rv = some tv → ∃ v, (resF a.tmps rv).run P w = .ok v w ∧ V ι S w tv v := fun rv tv hrv => by
  cases rv with
  | tmp t => exact ⟨_, rfl, I.tms t tv hrv⟩
  | cell b t =>
   simp only [resC] at hrv
   split at hrv
   ·rename_i l k off hl hb
    split at hrv
    ·rename_i cells tg hk
     split at hrv
     ·rename_i hle
      obtain ⟨bk, hb1, hb2⟩ := I.tms b _ hb
      obtain ⟨b', arr, ty, h3, h4, h5, _⟩ := I.blk k _ hk
      obtain rfl : bk = b' := by rw [hb1] at h3; cases h3; rfl
      have hlen := h5.len
      have hle' := Nat.le_of_ble_eq_true hle
      have hr := run_load_range (P := P) (layOf_ok (hL _ _ hl)) (w := w) (g := bk) (f := off) (us := (arr.toList.drop off).take l.size) (by simp at hlen ⊢; omega) (fun j u hj => by
       obtain ⟨hj1, _⟩ := drop_take_get hj
       rw [cell_of_row w bk (off + j) arr ty.1 (0, 0) h4]
       simpa using hj1)
      rcases V_ofCells hrv ((h5.drop off).take l.size) with ⟨ha, hV⟩ | ⟨ha, u, hu, hV⟩
      ·exact ⟨_, by simp only [resF, hb2]; simp [asAddr, hr.1 ha], hV⟩
      ·exact ⟨_, by simp only [resF, hb2]; simp [asAddr, hr.2 ha u hu], hV⟩
     ·cases hrv
    ·cases hrv
   ·cases hrv
 have hvals : ∀ (l : List ResultVar) (ys : List T1), plainT (l.map (resC L st)) = some ys → ∃ vs, All2 (fun rv v => (resF a.tmps rv).run P w = .ok v w) l vs ∧ All2 (fun (a : Option TV) u => ∀ tv, a = some tv → V ι S w tv u) (l.map (resC L st)) vs := fun l => by
  induction l with
  | nil => intro ys _; exact ⟨[], .nil, .nil⟩
  | cons rv l ih =>
   intro ys h
   simp only [List.map_cons] at h
   cases hrv : resC L st rv with
   | none => rw [hrv] at h; simp [plainT] at h
   | some tv =>
    rw [hrv] at h
    cases tv with
    | no => simp [plainT] at h
    | und => simp [plainT] at h
    | tup l => simp [plainT] at h
    | pan v => simp [plainT] at h
    | o x =>
     simp only [plainT] at h
     obtain ⟨ys', h2, -⟩ := Option.map_eq_some_iff.1 h
     obtain ⟨vs, g1, g2⟩ := ih ys' h2
     obtain ⟨v, e1, e2⟩ := hone rv _ hrv
     refine ⟨v :: vs, .cons e1 g1, ?_⟩
     simp only [List.map_cons]
     refine .cons (fun tv htv => ?_) g2
     rw [hrv] at htv; cases htv
     exact e2
 obtain ⟨vs, g1, g2⟩ := hvals _ ys hy
 have hres : (results fn a.tmps).run P w = .ok (if h : vs.toArray.size = 1 then vs.toArray[0] else .tuple vs.toArray) w := by
  have h1 := mapM_run _ _ _ g1
  rw [results_F, Sem.run_bind, Array.mapM_eq_mapM_toList, run_map, h1]
  rfl
 refine ⟨_, hres, ?_⟩
 have hall := plainT_ok (S' := S) (fun b hb => hb) hy g2
 match ys, vs, hall with
 | [y], vs, hall =>
  obtain ⟨v, rfl, hv⟩ := hall.one_left
  exact hv
 | [], vs, hall =>
  obtain rfl := hall.nil_left
  exact ⟨[], rfl, .nil⟩
 | y :: z :: ys, vs, hall =>
  have : ¬ vs.toArray.size = 1 := by have := hall.len; simp at this ⊢; omega
  rw [dif_neg this]
  exact ⟨vs, rfl, hall⟩
theorem fn_ruleR {C : Ctx} {f : FuncId} {fn : Func} {c : Code} (hL : LOk C.P C.L) (hm : C.P.follows .mixedOrders = true) (hf : C.P.funcs[f]? = some fn) (hb : fn.body = some c) (hname : (fn.name == "runtime.NumGoroutine") = false)
  (hn : fn.ntmps = C.n) {xs : List T1} (hx : Nat.ble xs.length C.n = true) {m : List (Nat × Blk)} (hml : (m.all fun p => Nat.blt p.1 C.nx0) = true) {r : TV} {upd : List (Nat × Blk)} {new : List Blk}
  (h : vc C c ⟨argTm 0 xs, m, C.nx0⟩ (fnQR C.L fn.results.toList (m.map (·.1)) C.nx0 r upd new)) : CallsM C.P C.Γ f m C.nx0 xs r upd new := by
 refine ⟨⟨fn, hf, hname, by rw [hb]; rfl⟩, fun ι S w vs hS hG hblk hdst hvs => ?_⟩
 have hxl := Nat.le_of_ble_eq_true hx
 have hlen := hvs.len
 have hmlt : ∀ p ∈ m, p.1 < C.nx0 := fun p hp => Nat.lt_of_succ_le (Nat.le_of_ble_eq_true (List.all_eq_true.1 hml p hp))
 refine calls_of_wp hf hb ?_
 have hR : RS ⟨w, fun g => ∃ p ∈ m, p.2.live = true ∧ blkOf (ι p.1) = some g, S, C.n, C.Γ, ι, C.nx0, []⟩ ⟨argTm 0 xs, m, C.nx0⟩ { tmps := vs.toArray ++ Array.replicate (fn.ntmps - vs.toArray.size) undef, defers := [] } w := by
  refine ⟨ι, S, rfl, rfl, rfl, Nat.le_refl _, fun _ _ _ => rfl, hS, fun _ h => h, fun _ h => .inl h, fun t tv ht => ?_, fun k b hk => hblk _ (findL_mem hk), fun k b hk hl g hg => .inl ⟨(k, b), findL_mem hk, hl, hg⟩, fun k k' b b' g hk hk' hl hl' hg hg' => hdst _ (findL_mem hk) _ (findL_mem hk') g hl hl' hg hg', rfl, ?_, hG, fun _ _ => rfl⟩
  ·obtain ⟨x, rfl, _, hx⟩ := argTm_find xs 0 t tv ht
   rw [Nat.sub_zero] at hx
   obtain ⟨u, hu, hv⟩ := hvs.at_left hx
   have hlt := (List.getElem?_eq_some_iff.1 hu).1
   have : (vs.toArray ++ Array.replicate (fn.ntmps - vs.toArray.size) undef).getD t undef = u := by
    simp [Array.getElem?_append, hlt, hu]
    have h2 := (List.getElem?_eq_some_iff.1 hu).2
    exact h2
   show V ι S w (.o x) _
   dsimp only
   rw [this]
   exact hv
  ·simp; omega
 refine Code.wp_mono (fun e a w' hq => ?_) (vc_ok hL ⟨rfl, rfl, rfl⟩ hm c _ _ _ w h hR)
 obtain ⟨st, hR', hq⟩ := hq
 have core := core_after (C := C) (m := m) (upd := upd) (new := new) (ι := ι) (S := S) (w := w) (w' := w') (st := st) (a := a) (dd := []) (en := C.n) hmlt
 have coreK := core_afterK (C := C) (m := m) (upd := upd) (new := new) (ι := ι) (S := S) (w := w) (w' := w') (st := st) (a := a) (dd := []) (en := C.n) hmlt
 have key : retOkR C.L fn.results.toList (m.map (·.1)) C.nx0 r upd new st → a.defers = [] ∧ ∃ v, (results fn a.tmps).run C.P w' = .ok v w' ∧ ((∃ x ι' S', Ending.returned v = .returned x ∧ After ι S w C.nx0 ⟨r, m.map (·.1), upd, new⟩ x ι' S' w') ∨ ∃ v0 ι' S', r = .pan v0 ∧ Ending.returned v = .panicked (panE v0) ∧ After ι S w C.nx0 ⟨.und, m.map (·.1), upd, new⟩ undef ι' S' w') := fun hret => by
  obtain ⟨ι1, S1, I⟩ := hR'
  unfold retOkR at hret
  split at hret
  ·rename_i ys hy
   rw [forceNs_eq] at hret
   split at hret
   ·rename_i u n hu0 hn0
    obtain ⟨hchk, hnm, hr, hu, hnw⟩ := hret
    obtain ⟨v, hres, hval⟩ := results_okR hL I hy
    obtain ⟨ι', S', A⟩ := coreK ι1 S1 r v [] u n _ I ⟨hu0, hn0⟩ hchk hu hnw (by simp) (fun ι' hι => by
     rw [giveUp_nil]
     refine hr _ _ _ _ ?_
     have h2 : V (fun k => ι' (expN C.nx0 ((reach (findL st.mem) 60 (m.map (·.1) ++ refsT ys) []).filter fun k => Nat.ble C.nx0 k) k)) S1 w' (retT ys) v := V.mono (fun _ _ => rfl) (fun _ h => h) (fun k hk => hι k (by
      have := List.all_eq_true.1 hnm k (men_refsT hk)
      rcases (by simpa only [Bool.or_eq_true] using this : _ ∨ _) with h | h
      ·left; rw [Nat.blt_eq] at h; exact h
      ·right
       obtain ⟨k', hk', e⟩ := List.any_eq_true.1 h
       rw [Nat.eq_of_beq_eq_true e]; exact hk')) hval
     exact (V_ren (ι := fun k => ι' (expN C.nx0 ((reach (findL st.mem) 60 (m.map (·.1) ++ refsT ys) []).filter fun k => Nat.ble C.nx0 k) k)) (ι' := ι') (fun k => rfl)).2 h2)
    exact ⟨I.dn, v, hres, .inl ⟨v, ι', S', rfl, A⟩⟩
   ·exact hret.elim
  ·exact hret.elim
 cases e with
 | normal => exact key hq
 | ret => exact key hq
 | panic ch =>
  obtain ⟨⟨v0, hr0, rfl⟩, hret⟩ := hq
  obtain ⟨ι1, S1, I⟩ := hR'
  unfold retOkP at hret
  split at hret
  ·rename_i u n src hex
   obtain ⟨hchk, hu, hnw⟩ := hret
   obtain ⟨ι', S', A⟩ := core ι1 S1 .und undef [] u n src I hex hchk hu hnw (by simp) (fun _ => rfl)
   exact ⟨I.dn, .inr ⟨v0, ι', S', hr0, rfl, A⟩⟩
  ·exact hret.elim
 | _ => exact hq.elim
end Go.Proofs.YtidnlfkakhmadaaGreatDoor

namespace Go.Proofs.YtidnlfkakhmadaaGreatDoor
open Go.RowKit

def DLe (d d' : D) : Prop := ∀ (S : Nat → Prop) (w : World) (u : Value), Imm S w d u → Imm S w d' u
theorem DLe.rfl {d : D} : DLe d d := fun _ _ _ h => h
theorem DLe.nil {s : Nat} : DLe dnil (.sl s []) := fun _ _ _ h => by cases h; exact Imm.nil
theorem CallsA.args {P : Program} {Γ : Glob} {f : FuncId} {xs ys : List T1} {r : TV} (h : CallsA P Γ f ys r) (hx : ∀ (S : Nat → Prop) (w : World) (vs : List Value), All2 (V1 ι0 S w) xs vs → All2 (V1 ι0 S w) ys vs) : CallsA P Γ f xs r :=
 ⟨h.1, fun S w vs hS hG hv => h.2 S w vs hS hG (hx S w vs hv)⟩
end Go.Proofs.YtidnlfkakhmadaaGreatDoor

namespace Go.Proofs.YtidnlfkakhmadaaGreatDoor
open Go.RowKit

def flatTV : TV → Bool
 | .o (.c (.d (.v _))) => true
 | .tup l => l.all fun x => match x with
  | .c (.d (.v _)) => true
  | _ => false
 | _ => false
end Go.Proofs.YtidnlfkakhmadaaGreatDoor

namespace Go.Proofs.YtidnlfkakhmadaaGreatDoor
open Go.RowKit

theorem SLe.kill {nx0 : Nat} {tm : List (Nat × TV)} {mem : List (Nat × Blk)} {nx nx' : Nat} {t : St} (k : Nat) (h : SLe nx0 ⟨tm, mem, nx⟩ t) : SLe nx0 ⟨tm, (k, .dead) :: mem, nx'⟩ t := fun E a w he hR => by
 obtain ⟨ι, S, I⟩ := h E a w he hR
 have hcase : ∀ n b, findL ((k, Blk.dead) :: mem) n = some b → b.live = true → findL mem n = some b := fun n b hb hl => by
  simp only [findL] at hb
  split at hb
  ·cases hb; cases hl
  ·exact hb
 refine ⟨ι, S, I.os, I.tape, I.output, I.size, I.old, I.slt, I.s0, I.sg, I.tms, fun n b hb => ?_, fun n b hb hl => I.mutb n b (hcase n b hb hl) hl, fun n n' b b' g hb hb' hl hl' => I.dst n n' b b' g (hcase n b hb hl) (hcase n' b' hb' hl') hl hl', I.dn, I.sz, I.gl, I.ik⟩
 cases hl : b.live with
 | true => exact I.blk n b (hcase n b hb hl)
 | false => cases b <;> first | trivial | cases hl
end Go.Proofs.YtidnlfkakhmadaaGreatDoor

namespace Go.Proofs.YtidnlfkakhmadaaGreatDoor
open Go.RowKit

def deadM (ns : List Nat) : List (Nat × Blk) := ns.map fun k => (k, .dead)
def fnQP (L : Nat → Option Lay) (rs : List ResultVar) (ns : List Nat) (nx : Nat) (r : TV) (upd : List (Nat × Blk)) (new : List Blk) : Exit → St → Prop
 | .normal, st | .ret, st => retOkM L rs ns nx r upd new st
 | .panic ch, _ => panIs r ch ∧ upd = deadM ns ∧ new = []
 | _, _ => False
theorem SLe.rfl {nx0 : Nat} {s : St} : SLe nx0 s s := fun _ _ _ _ h => h
theorem fn_ruleP {C : Ctx} {f : FuncId} {fn : Func} {c : Code} (hL : LOk C.P C.L) (hm : C.P.follows .mixedOrders = true) (hf : C.P.funcs[f]? = some fn) (hb : fn.body = some c) (hname : (fn.name == "runtime.NumGoroutine") = false)
  (hn : fn.ntmps = C.n) {xs : List T1} (hx : Nat.ble xs.length C.n = true) {m : List (Nat × Blk)} (hml : (m.all fun p => Nat.blt p.1 C.nx0) = true) {r : TV} {upd : List (Nat × Blk)} {new : List Blk} {st0 : St} (h0 : SLe C.nx0 st0 ⟨argTm 0 xs, m, C.nx0⟩)
  (h : vc C c st0 (fnQP C.L fn.results.toList (m.map (·.1)) C.nx0 r upd new)) : CallsM C.P C.Γ f m C.nx0 xs r upd new := by
 refine ⟨⟨fn, hf, hname, by rw [hb]; rfl⟩, fun ι S w vs hS hG hblk hdst hvs => ?_⟩
 have hxl := Nat.le_of_ble_eq_true hx
 have hlen := hvs.len
 have hmlt : ∀ p ∈ m, p.1 < C.nx0 := fun p hp => Nat.lt_of_succ_le (Nat.le_of_ble_eq_true (List.all_eq_true.1 hml p hp))
 refine calls_of_wp hf hb ?_
 have hR : RS ⟨w, fun g => ∃ p ∈ m, p.2.live = true ∧ blkOf (ι p.1) = some g, S, C.n, C.Γ, ι, C.nx0, []⟩ ⟨argTm 0 xs, m, C.nx0⟩ { tmps := vs.toArray ++ Array.replicate (fn.ntmps - vs.toArray.size) undef, defers := [] } w := by
  refine ⟨ι, S, rfl, rfl, rfl, Nat.le_refl _, fun _ _ _ => rfl, hS, fun _ h => h, fun _ h => .inl h, fun t tv ht => ?_, fun k b hk => hblk _ (findL_mem hk), fun k b hk hl g hg => .inl ⟨(k, b), findL_mem hk, hl, hg⟩, fun k k' b b' g hk hk' hl hl' hg hg' => hdst _ (findL_mem hk) _ (findL_mem hk') g hl hl' hg hg', rfl, ?_, hG, fun _ _ => rfl⟩
  ·obtain ⟨x, rfl, _, hx⟩ := argTm_find xs 0 t tv ht
   rw [Nat.sub_zero] at hx
   obtain ⟨u, hu, hv⟩ := hvs.at_left hx
   have hlt := (List.getElem?_eq_some_iff.1 hu).1
   have : (vs.toArray ++ Array.replicate (fn.ntmps - vs.toArray.size) undef).getD t undef = u := by
    simp [Array.getElem?_append, hlt, hu]
    have h2 := (List.getElem?_eq_some_iff.1 hu).2
    exact h2
   show V ι S w (.o x) _
   dsimp only
   rw [this]
   exact hv
  ·simp; omega
 refine Code.wp_mono (fun e a w' hq => ?_) (vc_ok hL ⟨rfl, rfl, rfl⟩ hm c _ _ _ w h (h0 _ _ _ rfl hR))
 obtain ⟨st, hR', hq⟩ := hq
 have core := core_after (C := C) (m := m) (upd := upd) (new := new) (ι := ι) (S := S) (w := w) (w' := w') (st := st) (a := a) (dd := []) (en := C.n) hmlt
 have key : retOkM C.L fn.results.toList (m.map (·.1)) C.nx0 r upd new st → a.defers = [] ∧ ∃ v, (results fn a.tmps).run C.P w' = .ok v w' ∧ ((∃ x ι' S', Ending.returned v = .returned x ∧ After ι S w C.nx0 ⟨r, m.map (·.1), upd, new⟩ x ι' S' w') ∨ ∃ v0 ι' S', r = .pan v0 ∧ Ending.returned v = .panicked (panE v0) ∧ After ι S w C.nx0 ⟨.und, m.map (·.1), upd, new⟩ undef ι' S' w') := fun hret => by
  obtain ⟨ι1, S1, I⟩ := hR'
  unfold retOkM at hret
  split at hret
  ·rename_i ys ks u n src hy hex
   obtain ⟨hchk, hr, hu, hnw⟩ := hret
   obtain ⟨v, hres, hrows, hval⟩ := results_ok hL I hy
   obtain ⟨ι', S', A⟩ := core ι1 S1 r v ks u n src I hex hchk hu hnw hrows (fun ι' => hr _ _ _ _ (hval ι'))
   exact ⟨I.dn, v, hres, .inl ⟨v, ι', S', rfl, A⟩⟩
  ·exact hret.elim
 cases e with
 | normal => exact key hq
 | ret => exact key hq
 | panic ch =>
  obtain ⟨⟨v0, hr0, rfl⟩, hu, hnw⟩ := hq
  obtain ⟨ι1, S1, I⟩ := hR'
  refine ⟨I.dn, .inr ⟨v0, ι, S, hr0, rfl, rfl, fun _ _ => rfl, fun _ h => h, fun _ h => .inl h, fun b hb => Nat.lt_of_lt_of_le (hS b hb) I.size, I.os, I.tape, I.output, I.size, fun b hb hne => I.old b hb fun ⟨p, hp, _, hg⟩ => ?_, fun k b hk => ?_, fun i b hb => ?_, fun i b hb => ?_, fun i j b b' g hb => ?_⟩⟩
  ·refine hne p.1 ?_ hg
   rw [hu]
   simp only [deadM, List.map_map, List.mem_map]
   exact ⟨p, hp, rfl⟩
  ·have hk : (k, b) ∈ upd := hk
   rw [hu] at hk
   simp only [deadM, List.mem_map] at hk
   obtain ⟨_, _, he⟩ := hk
   cases he
   trivial
  ·have hb : new[i]? = some b := hb
   rw [hnw] at hb; simp at hb
  ·have hb : new[i]? = some b := hb
   rw [hnw] at hb; simp at hb
  ·have hb : new[i]? = some b := hb
   rw [hnw] at hb; simp at hb
 | _ => exact hq.elim
def T1Le (x y : T1) : Prop := ∀ (ι : Nat → Value) (S : Nat → Prop) (w : World) (v : Value), V1 ι S w x v → V1 ι S w y v
theorem T1Le.rfl {x : T1} : T1Le x x := fun _ _ _ _ h => h
theorem T1Le.g {l m : List D} (h : All2 DLe l m) : T1Le (gD l) (gD m) := fun ι S w v ⟨us, hu, hv⟩ => by
 refine ⟨us, hu, ?_⟩
 have hl : l.length = us.length := by have := hv.len; rwa [List.length_map] at this
 refine ⟨by rw [List.length_map, ← h.len]; exact hl, fun i a u ha hu' => ?_⟩
 rw [List.getElem?_map] at ha
 obtain ⟨d', hd', rfl⟩ := Option.map_eq_some_iff.1 ha
 obtain ⟨d, hd, hdd⟩ := h.at_right hd'
 have : VC ι S w (.d d) u := hv.get i _ u (by rw [List.getElem?_map, hd]; rfl) hu'
 exact hdd S w u this
theorem TLe.o {x y : T1} (h : T1Le x y) : TLe (.o x) (.o y) := h
theorem CallsM.argsLe {P : Program} {Γ : Glob} {f : FuncId} {m : List (Nat × Blk)} {nx : Nat} {xs ys : List T1} {r : TV} {upd : List (Nat × Blk)} {new : List Blk} (h : CallsM P Γ f m nx ys r upd new) (hx : All2 T1Le xs ys) : CallsM P Γ f m nx xs r upd new :=
 ⟨h.1, fun ι S w vs hS hG hb hd hv => h.2 ι S w vs hS hG hb hd ⟨by rw [← hx.len]; exact hv.len, fun i a u ha hu => by
  obtain ⟨x, hx', hxx⟩ := hx.at_right ha
  exact hxx ι S w u (hv.get i _ u hx' hu)⟩⟩
end Go.Proofs.YtidnlfkakhmadaaGreatDoor

namespace Go.Proofs.YtidnlfkakhmadaaGreatDoor
open Go.RowKit

theorem code_after {C : Ctx} {c : Code} (hL : LOk C.P C.L) (hm : C.P.follows .mixedOrders = true) {tm : List (Nat × TV)} {m : List (Nat × Blk)} (hml : (m.all fun p => Nat.blt p.1 C.nx0) = true) {upd : List (Nat × Blk)} {new : List Blk}
  (h : vc C c ⟨tm, m, C.nx0⟩ fun e st => match e with
   | .normal => retOkP (m.map (·.1)) C.nx0 upd new st
   | _ => False)
  {ι : Nat → Value} {S : Nat → Prop} {w : World} {a : Act} (hS : ∀ b, S b → b < w.heap.size) (hG : C.Γ.G S w) (hblk : ∀ p ∈ m, BlkOk ι S w p.1 p.2)
  (hdst : ∀ p ∈ m, ∀ q ∈ m, ∀ g, p.2.live = true → q.2.live = true → blkOf (ι p.1) = some g → blkOf (ι q.1) = some g → p.1 = q.1) (htm : ∀ t tv, findL tm t = some tv → V ι S w tv (a.tmps.getD t undef)) (hsz : a.tmps.size = C.n) (hdn : a.defers = []) :
  c.wp C.P (fun e a' w' => e = .normal ∧ a'.defers = [] ∧ ∃ ι' S', After ι S w C.nx0 ⟨.und, m.map (·.1), upd, new⟩ undef ι' S' w') a w := by
 have hmlt : ∀ p ∈ m, p.1 < C.nx0 := fun p hp => Nat.lt_of_succ_le (Nat.le_of_ble_eq_true (List.all_eq_true.1 hml p hp))
 have hR : RS ⟨w, fun g => ∃ p ∈ m, p.2.live = true ∧ blkOf (ι p.1) = some g, S, C.n, C.Γ, ι, C.nx0, []⟩ ⟨tm, m, C.nx0⟩ a w :=
  ⟨ι, S, rfl, rfl, rfl, Nat.le_refl _, fun _ _ _ => rfl, hS, fun _ h => h, fun _ h => .inl h, htm, fun k b hk => hblk _ (findL_mem hk), fun k b hk hl g hg => .inl ⟨(k, b), findL_mem hk, hl, hg⟩, fun k k' b b' g hk hk' hl hl' hg hg' => hdst _ (findL_mem hk) _ (findL_mem hk') g hl hl' hg hg', hdn, hsz, hG, fun _ _ => rfl⟩
 refine Code.wp_mono (fun e a' w' hq => ?_) (vc_ok hL ⟨rfl, rfl, rfl⟩ hm c _ _ _ w h hR)
 obtain ⟨st, ⟨ι1, S1, I⟩, hq⟩ := hq
 cases e with
 | normal =>
  have hq : retOkP (m.map (·.1)) C.nx0 upd new st := hq
  unfold retOkP at hq
  split at hq
  ·rename_i u n src hex
   obtain ⟨hchk, hu, hnw⟩ := hq
   obtain ⟨ι', S', A⟩ := core_after (C := C) hmlt ι1 S1 .und undef [] u n src I hex hchk hu hnw (by simp) (fun _ => rfl)
   exact ⟨rfl, I.dn, ι', S', A⟩
  ·exact hq.elim
 | _ => exact hq.elim
def caughtSt (st : St) (upd : List (Nat × Blk)) : St := ⟨st.tm, upd ++ st.mem, st.nx⟩
def fnQD (L : Nat → Option Lay) (rs : List ResultVar) (r : TV) (Hit : Value → St → List (Nat × Blk) → Prop) : Exit → St → Prop
 | .normal, st | .ret, st => retOk L rs r st
 | .panic ch, st => ∃ v upd, ch = panE v ∧ Hit v st upd ∧ (upd.all fun p => match findL st.mem p.1 with | some b => b.live | none => false) = true ∧ uniqB upd = true ∧ retOk L rs r (caughtSt st upd)
 | _, _ => False
def capsOk : List Nat → List Nat → St → Prop
 | t :: ts, k :: ks, st => findL st.tm t = some (.o (.c (.ptr k 0))) ∧ capsOk ts ks st
 | [], [], _ => True
 | _, _, _ => False
theorem capsOk_vs {E : Env} {ι : Nat → Value} {S : Nat → Prop} {st : St} {a : Act} {w : World} (I : Inv E ι S (findL st.tm) (findL st.mem) a w) : ∀ {caps capN : List Nat}, capsOk caps capN st → (caps.map fun t => a.tmps.getD t undef) = capN.map ι
 | [], [], _ => rfl
 | t :: ts, k :: ks, h => by
  rw [List.map_cons, List.map_cons, capsOk_vs I h.2]
  obtain ⟨b, h1, h2⟩ := I.tms t _ h.1
  rw [h2, h1]
 | [], _ :: _, h => h.elim
 | _ :: _, [], h => h.elim
end Go.Proofs.YtidnlfkakhmadaaGreatDoor

namespace Go.Proofs.YtidnlfkakhmadaaGreatDoor
open Go.RowKit

theorem sle_fixO {nx0 : Nat} {tm : List (Nat × TV)} {mem : List (Nat × Blk)} {nx : Nat} (k0 j k : Nat) {cells : List CV} {tg0 tg : TypeId} {dl : List D} (h0 : findL mem k0 = some (.obj cells tg0)) (hj : cells[j]? = some (.ptr k 0)) (hk : findL mem k = some (.obj (dl.map .d) tg)) (hne : Nat.beq k0 k = false) :
    SLe nx0 ⟨tm, (k0, .obj (cells.set j (.eptr dl)) tg0) :: (k, .dead) :: mem, nx⟩ ⟨tm, mem, nx⟩ := fun E a w he ⟨ι, S, I⟩ => by
  have hne' := Nat.ne_of_beq_eq_false hne
  obtain ⟨b, arr, ty, e1, e2, e3, e4⟩ := I.blk k _ hk
  have hbk : blkOf (ι k) = some b := by rw [e1]; rfl
  obtain ⟨S', hS'⟩ : ∃ S' : Nat → Prop, ∀ g, S' g ↔ S g ∨ g = b := ⟨fun g => S g ∨ g = b, fun _ => Iff.rfl⟩
  have hSS : ∀ g, S g → S' g := fun g h => (hS' g).2 (.inl h)
  have hblt : b < w.heap.size := (Array.getElem?_eq_some_iff.1 e2).1
  have hcase : ∀ n c, findL ((k0, Blk.obj (cells.set j (.eptr dl)) tg0) :: (k, Blk.dead) :: mem) n = some c → c.live = true → (n = k0 ∧ c = .obj (cells.set j (.eptr dl)) tg0) ∨ (n ≠ k ∧ findL mem n = some c) := fun n c hn hl => by
    simp only [findL] at hn
    split at hn
    · rename_i e; cases hn; exact .inl ⟨e.symm, rfl⟩
    · split at hn
      · cases hn; cases hl
      · rename_i e; exact .inr ⟨fun h => e h.symm, hn⟩
  have hold : ∀ n c, findL mem n = some c → c.live = true → n ≠ k → BlkOk ι S' w n c := fun n c hn hl hnk => by
    have hc := I.blk n c hn
    refine BlkOk.mono (fun _ _ => rfl) hSS (fun _ => rfl) (fun _ _ => rfl) (fun _ g hg => ⟨rfl, fun hs => ?_⟩) hc
    rcases (hS' g).1 hs with h | h
    · exact ((hc.sep hl hg).2) h
    · subst h
      exact hnk (I.dst n k c _ g hn hk hl rfl hg hbk)
  refine ⟨ι, S', I.os, I.tape, I.output, I.size, I.old, fun g hg => ?_, fun g hg => hSS g (I.s0 g hg), fun g hg => ?_, fun t tv ht => V.mono (fun _ _ => rfl) hSS (fun _ _ => rfl) (I.tms t tv ht), fun n c hn => ?_, fun n c hn hl g hg => ?_, fun n n' c c' g hn hn' hl hl' hg hg' => ?_, I.dn, I.sz, E.Γ.mono (fun _ _ => rfl) hSS I.gl, I.ik⟩
  · rcases (hS' g).1 hg with h | h
    · exact I.slt g h
    · subst h; exact hblt
  · rcases (hS' g).1 hg with h | h
    · exact I.sg g h
    · subst h
      rcases I.mutb k _ hk rfl g hbk with h | h
      · exact .inr (.inr h)
      · exact .inr (.inl h)
  · cases hl : c.live with
    | false => cases c <;> first | trivial | cases hl
    | true =>
      rcases hcase n c hn hl with ⟨rfl, rfl⟩ | ⟨hnk, hn⟩
      · obtain ⟨b2, arr2, ty2, f1, f2, f3, f4⟩ := hold n _ h0 rfl hne'
        refine ⟨b2, arr2, ty2, f1, f2, ⟨by simpa using f3.len, fun i x u hx hu => ?_⟩, f4⟩
        rw [List.getElem?_set] at hx
        split at hx
        · rename_i ei
          subst ei
          split at hx
          · cases hx
            have : VC ι S' w (.ptr k 0) u := f3.get j _ u hj hu
            obtain ⟨b3, g1, g2⟩ := this
            rw [e1] at g1
            cases g1
            have e3' : All2 (fun (d : D) u => Imm S w d u) dl arr.toList := (All2.of_map_left (R := VC ι S w) (f := CV.d) e3).mono fun _ _ h => h
            refine ⟨b, 0, fun i => arr.toList.getD i undef, g2, fun _ => (hS' b).2 (.inr rfl), fun i d hd => ?_⟩
            obtain ⟨u1, hu1, hd1⟩ := e3'.at_left hd
            rw [Nat.zero_add, cell_of_row w b i arr ty.1 (0, 0) e2]
            have hg : arr.toList.getD i undef = u1 := by rw [List.getD_eq_getElem?_getD, hu1]; rfl
            refine ⟨?_, ?_⟩
            · show arr[i]? = some (arr.toList.getD i undef)
              rw [hg, ← hu1]; simp
            · show Imm S' w d (arr.toList.getD i undef)
              rw [hg]; exact hd1.mono (fun _ _ => rfl) hSS
          · cases hx
        · exact f3.get i x u hx hu
      · exact hold n c hn hl hnk
  · rcases hcase n c hn hl with ⟨rfl, rfl⟩ | ⟨hnk, hn⟩
    · exact I.mutb _ _ h0 rfl g hg
    · exact I.mutb n c hn hl g hg
  · have key : ∀ n c, findL ((k0, Blk.obj (cells.set j (.eptr dl)) tg0) :: (k, Blk.dead) :: mem) n = some c → c.live = true → ∃ c', findL mem n = some c' ∧ c'.live = true := fun n c hn hl => by
      rcases hcase n c hn hl with ⟨rfl, rfl⟩ | ⟨hnk, hn⟩
      · exact ⟨_, h0, rfl⟩
      · exact ⟨c, hn, hl⟩
    obtain ⟨d1, q1, q2⟩ := key n c hn hl
    obtain ⟨d2, q3, q4⟩ := key n' c' hn' hl'
    exact I.dst n n' d1 d2 g q1 q3 q2 q4 hg hg'
def plainOk (L : Nat → Option Lay) (rs : List ResultVar) (r : TV) (st : St) : Prop :=
  match plainT (rs.map (resC L st)) with
  | some ys => TLe (retT ys) r ∧ (retT ys).pure = true
  | none => False
def retOkE (nx0 : Nat) (L : Nat → Option Lay) (rs : List ResultVar) (r : TV) (st : St) : Prop := ∃ st', SLe nx0 st' st ∧ plainOk L rs r st'
theorem end_dataE {C : Ctx} (hL : LOk C.P C.L) {S : Nat → Prop} {w w' : World} {st : St} {a : Act} {dd : List Deferred} {ιx : Nat → Value} {nxx : Nat} {fn : Func} {r : TV} (hR' : RS ⟨w, fun _ => False, S, C.n, C.Γ, ιx, nxx, dd⟩ st a w') (hret : retOkE nxx C.L fn.results.toList r st) :
    ∃ v, (results fn a.tmps).run C.P w' = .ok v w' ∧ ∃ x S', Ending.returned v = .returned x ∧ Below w.heap.size w w' ∧ (∀ b, S b → S' b) ∧ (∀ b, S' b → S b ∨ w.heap.size ≤ b) ∧ (∀ b, S' b → b < w'.heap.size) ∧ V ι0 S' w' r x := by
  obtain ⟨st', hle, hp⟩ := hret
  obtain ⟨ι, S1, I⟩ := hle _ _ _ rfl hR'
  unfold plainOk at hp
  split at hp
  · rename_i ys hy
    obtain ⟨v, h1, h2⟩ := results_okR hL I hy
    refine ⟨v, h1, v, S1, rfl, ⟨I.os, I.tape, I.output, I.size, fun b hb => I.old b hb (fun h => h)⟩, I.s0, fun b hb => ?_, I.slt, hp.1 _ _ _ _ (V.mono (fun _ _ => rfl) (fun _ h => h) (fun k hk => ?_) h2)⟩
    · rcases I.sg b hb with h | h | h
      · exact .inl h
      · exact .inr h
      · exact h.elim
    · rw [TV.pure_men hp.2 k] at hk; cases hk
  · exact hp.elim
def fnQE (nx0 : Nat) (L : Nat → Option Lay) (rs : List ResultVar) (r : TV) (Hit : Value → St → List (Nat × Blk) → Prop) : Exit → St → Prop
  | .normal, st | .ret, st => retOkE nx0 L rs r st
  | .panic ch, st => ∃ v upd, ch = panE v ∧ Hit v st upd ∧ (upd.all fun p => match findL st.mem p.1 with | some b => b.live | none => false) = true ∧ uniqB upd = true ∧ retOkE nx0 L rs r (caughtSt st upd)
  | _, _ => False
theorem fn_ruleE {C : Ctx} {f g : FuncId} {fn : Func} {x0 x1 x2 rg c : Code} {t9 nx2 : Nat} {caps capN : List Nat} (hL : LOk C.P C.L) (hm : C.P.follows .mixedOrders = true) (hf : C.P.funcs[f]? = some fn) (hb : fn.body = some (.seq x0 (.seq x1 (.seq x2 (.seq rg c))))) (hname : (fn.name == "runtime.NumGoroutine") = false)
    (hn : fn.ntmps = C.n) (h0 : C.nx0 = 0) {xs : List T1} (hx : Nat.ble xs.length C.n = true) {r : TV} (Hit : Value → St → List (Nat × Blk) → Prop)
    (hdef : ∀ (a : Act) (w : World) (Q : Exit → Act → World → Prop), a.tmps.size = C.n → (∀ u : Value, Q .normal { tmps := a.tmps.setIfInBounds t9 u, defers := { target := .fn (.func g) (caps.map fun t => a.tmps.getD t undef).toArray, args := #[] } :: a.defers } w) → rg.wp C.P Q a w)
    (henter : ∀ (vs : Array Value) (w : World), (callFunc g vs).run C.P w = .ok (.enter g vs) w)
    (hidle : ∀ (vs : List Value) (w : World), vs.length = capN.length → CallsD C.P g vs.toArray .returning w fun e u' w' => e = .returned (.tuple #[]) ∧ u' = .returning ∧ w' = w)
    (hcn : (capN.all fun k => Nat.blt k nx2) = true)
    (hhit : ∀ v st upd, Hit v st upd → ∀ (ι : Nat → Value) (S : Nat → Prop) (w : World), (∀ b, S b → b < w.heap.size) → C.Γ.G S w → (∀ k b, findL st.mem k = some b → BlkOk ι S w k b) →
      (∀ k k' b b' g, findL st.mem k = some b → findL st.mem k' = some b' → b.live = true → b'.live = true → blkOf (ι k) = some g → blkOf (ι k') = some g → k = k') →
      CallsD C.P g (capN.map ι).toArray (.panicking (panE v)) w fun e' u' w' => e' = .returned (.tuple #[]) ∧ u' = .panicking [{ v, recovered := true }] ∧ ∃ ι' S', After ι S w st.nx ⟨.und, [], upd, []⟩ undef ι' S' w')
    (h : vc C x0 ⟨argTm 0 xs, [], 0⟩ fun e st => match e with
      | .normal => vc C x1 st fun e st => match e with
        | .normal => vc C x2 st fun e st => match e with
          | .normal => capsOk caps capN st ∧ Nat.ble nx2 st.nx = true ∧ vc { C with nx0 := nx2 } c ⟨(t9, .no) :: st.tm, st.mem, st.nx⟩ (fnQE nx2 C.L fn.results.toList r Hit)
          | .ret => retOkE 0 C.L fn.results.toList r st
          | _ => False
        | _ => False
      | _ => False) : CallsA C.P C.Γ f xs r := by
  refine ⟨⟨fn, hf, hname, by rw [hb]; rfl⟩, fun S w vs hS hG hvs => ?_⟩
  have hxl := Nat.le_of_ble_eq_true hx
  have hlen := hvs.len
  refine calls_of_wp_defers hf hb ?_
  have hR : RS ⟨w, fun _ => False, S, C.n, C.Γ, ι0, 0, []⟩ ⟨argTm 0 xs, [], 0⟩ { tmps := vs.toArray ++ Array.replicate (fn.ntmps - vs.toArray.size) undef, defers := [] } w := by
    refine ⟨ι0, S, rfl, rfl, rfl, Nat.le_refl _, fun _ _ _ => rfl, hS, fun _ h => h, fun _ h => .inl h, fun t tv ht => ?_, (fun k b hk => by cases hk), (fun k b hk => by cases hk), (fun k k' b b' g hk => by cases hk), rfl, ?_, hG, fun _ _ => rfl⟩
    · obtain ⟨x, rfl, _, hx⟩ := argTm_find xs 0 t tv ht
      rw [Nat.sub_zero] at hx
      obtain ⟨u, hu, hv⟩ := hvs.at_left hx
      have hlt := (List.getElem?_eq_some_iff.1 hu).1
      have : (vs.toArray ++ Array.replicate (fn.ntmps - vs.toArray.size) undef).getD t undef = u := by
        simp [Array.getElem?_append, hlt, hu]
        have h2 := (List.getElem?_eq_some_iff.1 hu).2
        exact h2
      show V ι0 S w (.o x) _
      dsimp only
      rw [this]
      exact hv
    · simp; omega
  refine wp_seq (Code.wp_mono (fun e a w1 hq => ?_) (vc_ok hL ⟨rfl, rfl, h0.symm⟩ hm x0 _ _ _ w h hR))
  obtain ⟨st1, hR1, hq⟩ := hq
  cases e with
  | normal =>
    refine wp_seq (Code.wp_mono (fun e a1 w1b hq1 => ?_) (vc_ok hL ⟨rfl, rfl, h0.symm⟩ hm x1 _ _ _ w1 hq hR1))
    obtain ⟨st1b, hR1b, hq1⟩ := hq1
    cases e with
    | normal =>
     refine wp_seq (Code.wp_mono (fun e a2 w2 hq2 => ?_) (vc_ok hL ⟨rfl, rfl, h0.symm⟩ hm x2 _ _ _ w1b hq1 hR1b))
     obtain ⟨st2, hR2, hq2⟩ := hq2
     cases e with
     | ret =>
      have hq2 : retOkE 0 C.L fn.results.toList r st2 := hq2
      obtain ⟨v, h1, h2⟩ := end_dataE hL hR2 hq2
      obtain ⟨ι2, S2, I2⟩ := hR2
      show Leaves C.P fn a2.tmps _ a2.defers .returning w2
      rw [I2.dn]
      exact ⟨v, h1, h2⟩
     | normal =>
      obtain ⟨ι2, S2, I2⟩ := hR2
      refine wp_seq (hdef a2 w2 _ I2.sz fun u => ?_)
      rw [I2.dn]
      obtain ⟨hcaps, hnx2, hq2⟩ := hq2
      rw [capsOk_vs I2 hcaps]
      obtain ⟨d, hd⟩ : ∃ d : Deferred, d = { target := .fn (.func g) (capN.map ι2).toArray, args := #[] } := ⟨_, rfl⟩
      rw [← hd]
      have hR3 : RS ⟨w, fun _ => False, S, C.n, C.Γ, ι2, nx2, [d]⟩ ⟨(t9, .no) :: st2.tm, st2.mem, st2.nx⟩ { tmps := a2.tmps.setIfInBounds t9 u, defers := [d] } w2 := by
        refine ⟨ι2, S2, I2.os, I2.tape, I2.output, I2.size, I2.old, I2.slt, I2.s0, I2.sg, fun t tv ht => ?_, I2.blk, I2.mutb, I2.dst, rfl, by simpa using I2.sz, I2.gl, fun _ _ => rfl⟩
        simp only [findL] at ht
        split at ht
        · cases ht; trivial
        · rename_i hne
          have := I2.tms t tv ht
          have e : (a2.tmps.setIfInBounds t9 u).getD t undef = a2.tmps.getD t undef := by
            simp only [Array.getD_eq_getD_getElem?]
            rw [Array.getElem?_setIfInBounds_ne hne]
          show V ι2 S2 w2 tv ((a2.tmps.setIfInBounds t9 u).getD t undef)
          rw [e]
          exact this
      refine Code.wp_mono (fun e a3 w3 hq3 => ?_) (vc_ok (C := { C with nx0 := nx2 }) hL ⟨rfl, rfl, rfl⟩ hm c _ _ _ w2 hq2 hR3)
      obtain ⟨st3, hR4, hq3⟩ := hq3
      have key : retOkE nx2 C.L fn.results.toList r st3 → Leaves C.P fn a3.tmps (fun e w' => ∃ x S', e = .returned x ∧ Below w.heap.size w w' ∧ (∀ b, S b → S' b) ∧ (∀ b, S' b → S b ∨ w.heap.size ≤ b) ∧ (∀ b, S' b → b < w'.heap.size) ∧ V ι0 S' w' r x) a3.defers .returning w3 := fun hret => by
        obtain ⟨v, h1, h2⟩ := end_dataE hL hR4 hret
        obtain ⟨ι4, S4, I4⟩ := hR4
        rw [I4.dn, hd]
        refine leaves_cons (f := g) (args := (capN.map ι2).toArray) (by simp) (by simp [invoke, henter]) ?_
        refine (hidle _ _ (by simp)).mono ?_
        rintro e' u' w4 ⟨rfl, rfl, rfl⟩
        exact ⟨v, h1, h2⟩
      cases e with
      | normal => exact key hq3
      | ret => exact key hq3
      | panic ch =>
        obtain ⟨v, upd, rfl, hh, hlive, huq, hret⟩ := hq3
        obtain ⟨ι4, S4, I4⟩ := hR4
        show Leaves C.P fn a3.tmps _ a3.defers (.panicking (panE v)) w3
        rw [I4.dn, hd]
        have hι : capN.map ι2 = capN.map ι4 := List.map_congr_left fun k hk => (I4.ik k (by have := List.all_eq_true.1 hcn k hk; simpa [Nat.blt_eq] using this)).symm
        rw [hι]
        refine leaves_cons (f := g) (args := (capN.map ι4).toArray) (by simp) (by simp [invoke, henter]) ?_
        refine (hhit v st3 upd hh ι4 S4 w3 I4.slt I4.gl I4.blk I4.dst).mono ?_
        rintro e' u' w4 ⟨rfl, rfl, ι5, S5, A⟩
        have I5 := step_inv (tm' := findL st3.tm) (a' := a3) I4 A (fun k b hk => ?_) (fun i hi => by simp at hi) (fun h => by simp at h) (fun k b b' => uniqB_ok huq k b b') (fun hSb hmen t tv ht => ?_) I4.dn I4.sz
        · have hR5 : RS ⟨w, fun _ => False, S, C.n, C.Γ, ι2, nx2, [d]⟩ (caughtSt st3 upd) a3 w4 := by
            refine ⟨ι5, S5, ?_⟩
            have e : updF (findL st3.mem) ⟨.und, [], upd, []⟩ st3.nx = findL (caughtSt st3 upd).mem := updF_step st3 none ⟨.und, [], upd, []⟩
            rw [← e]
            exact I5
          obtain ⟨v5, h1, h2⟩ := end_dataE hL hR5 hret
          exact ⟨v5, h1, h2⟩
        · have := List.all_eq_true.1 hlive _ hk
          simp only at this
          split at this
          · rename_i b' hb'; exact ⟨b', hb', this⟩
          · cases this
        · exact V.mono hSb A.smono (hmen tv fun i hi => by simp at hi) (I4.tms t tv ht)
      | _ => exact hq3.elim
     | _ => exact hq2.elim
    | _ => exact hq1.elim
  | _ => exact hq.elim
end Go.Proofs.YtidnlfkakhmadaaGreatDoor

namespace Go.Proofs.YtidnlfkakhmadaaGreatDoor
open Go.RowKit

def ErrAt (w : World) (b : Nat) : Prop := ∃ ev, w.cell? ⟨b, 0, none⟩ = some ev ∧ (ev = .nilIface ∨ ∃ te pe, ev = .iface te pe)
theorem one_arg {S : Nat → Prop} {w : World} {a : T1} {vs : List Value} (h : All2 (V1 ι0 S w) [a] vs) : ∃ u, vs = [u] ∧ V1 ι0 S w a u := by
 obtain ⟨u, rfl, e⟩ := h.one_left
 exact ⟨u, rfl, e⟩
theorem two_args {S : Nat → Prop} {w : World} {a b : T1} {vs : List Value} (h : All2 (V1 ι0 S w) [a, b] vs) : ∃ u v, vs = [u, v] ∧ V1 ι0 S w a u ∧ V1 ι0 S w b v := by
 obtain ⟨u, vs, rfl, e0, h⟩ := h.cons_left
 obtain ⟨v, rfl, e1⟩ := h.one_left
 exact ⟨u, v, rfl, e0, e1⟩
theorem open_v {S : Nat → Prop} {w : World} {v u : Value} (h : V1 ι0 S w (c1 (.v v)) u) : u = v := by
 have h' : Imm S w _ u := h
 cases h'; rfl
theorem three_args {S : Nat → Prop} {w : World} {a b c : T1} {vs : List Value} (h : All2 (V1 ι0 S w) [a, b, c] vs) : ∃ u v x, vs = [u, v, x] ∧ V1 ι0 S w a u ∧ V1 ι0 S w b v ∧ V1 ι0 S w c x := by
 obtain ⟨u, vs, rfl, e0, h⟩ := h.cons_left
 obtain ⟨v, x, rfl, e1, e2⟩ := two_args h
 exact ⟨u, v, x, rfl, e0, e1, e2⟩
def signsAt (w : World) (g : Nat) : Prop := ∀ j l, signsL[j]? = some l → w.cell? ⟨g, j, none⟩ = some (.string (bs l))
def ΓL : Glob := ⟨fun S w => (ErrAt w 2 ∧ S 2) ∧ (ErrAt w 3 ∧ S 3) ∧ (∃ m, w.cell? ⟨1, 0, none⟩ = some (.int .i64 m) ∧ S 1) ∧ signsAt w 0 ∧ S 0,
 fun {S S' w w'} hw hS ⟨⟨⟨ev, h1, h2⟩, h3⟩, ⟨⟨er, h4, h5⟩, h6⟩, ⟨m, h7, h8⟩, h9, h10⟩ => ⟨⟨⟨ev, by rw [cell_same (hw _ h3)]; exact h1, h2⟩, hS _ h3⟩, ⟨⟨er, by rw [cell_same (hw _ h6)]; exact h4, h5⟩, hS _ h6⟩, ⟨m, by rw [cell_same (hw _ h8)]; exact h7, hS _ h8⟩, fun j l hj => by rw [cell_same (hw _ h10)]; exact h9 j l hj, hS _ h10⟩,
 [], fun g => match Nat.beq g 0 with
  | true => some (signsL.map fun l => ds (bs l))
  | false => none,
 fun {S w g cs} hG hg => by
  split at hg
  ·rename_i hb
   obtain rfl := Nat.eq_of_beq_eq_true hb
   cases hg
   obtain ⟨-, -, -, h9, h10⟩ := hG
   refine ⟨fun j => .string (bs (signsL.getD j [])), fun _ => h10, fun j d hj => ?_⟩
   rw [List.getElem?_map] at hj
   obtain ⟨l, h1, rfl⟩ := Option.map_eq_some_iff.1 hj
   have : signsL.getD j [] = l := by rw [List.getD, h1]; rfl
   dsimp only
   rw [this]
   exact ⟨h9 j l h1, Imm.v rfl⟩
  ·cases hg⟩
theorem CallsA.gL {f : FuncId} {xs : List T1} {r : TV} (h : CallsA Tryz.prog Γ0 f xs r) : CallsA Tryz.prog ΓL f xs r := ⟨h.1, fun S w vs hS _ hv => h.2 S w vs hS trivial hv⟩
theorem trimLeft_c (Γ : Glob) (r cs : List UInt8) (hcs : cs.length < 4294967281) (ha : (cs.all fun b => decide (b.toNat < 128)) = true) :
  CallsA Tryz.prog Γ 49 [c1 (ds (bs r)), c1 (ds (bs cs))] (Tstr (bs (r.dropWhile (cs.contains ·)))) :=
 ⟨⟨_, Tryz.func49, by kernel_rfl, rfl⟩, fun S w vs hS hG hvs => by
  obtain ⟨u, v, rfl, e1, e2⟩ := two_args hvs
  obtain rfl := open_v e1
  obtain rfl := open_v e2
  refine (Any.strings_TrimLeft_laid Tryz.lays161 (by kernel_rfl) (bs r) (bs cs) w (by rw [bs_size]; exact hcs) (fun j b hb => of_decide_eq_true (List.all_eq_true.1 ha b (List.mem_of_getElem? hb)))).mono fun e w' ⟨he, hb⟩ => ?_
  subst he
  exact flat_end hS hb (Imm.v rfl)⟩
theorem prefix_c (Γ : Glob) (r p : List UInt8) : CallsA Tryz.prog Γ 30 [c1 (ds (bs r)), c1 (ds (bs p))] (Tb (Lib.hasPrefix r p)) :=
 ⟨⟨_, Tryz.func30, by kernel_rfl, rfl⟩, fun S w vs hS hG hvs => by
  obtain ⟨u, v, rfl, e1, e2⟩ := two_args hvs
  obtain rfl := open_v e1
  obtain rfl := open_v e2
  refine (Tryz.strings_HasPrefix (bs r) (bs p) w).mono fun e w' ⟨he, hb⟩ => ?_
  subst he; subst hb
  exact flat_end hS (Below.refl _ _) (Imm.v rfl)⟩
theorem lprefix_c (Γ : Glob) (r p : List UInt8) : CallsA Tryz.prog Γ 50 [c1 (ds (bs r)), c1 (ds (bs p))] (Tb (Lib.hasPrefix r p)) :=
 ⟨⟨_, Tryz.func50, by kernel_rfl, rfl⟩, fun S w vs hS hG hvs => by
  obtain ⟨u, v, rfl, e1, e2⟩ := two_args hvs
  obtain rfl := open_v e1
  obtain rfl := open_v e2
  refine (Tryz.stringslite_HasPrefix (bs r) (bs p) w).mono fun e w' ⟨he, hb⟩ => ?_
  subst he; subst hb
  exact flat_end hS (Below.refl _ _) (Imm.v rfl)⟩
theorem cut_c (r p : List UInt8) (hr : r.length < 4294967281) : CallsA Tryz.prog ΓL 31 [c1 (ds (bs r)), c1 (ds (bs p))] (.tup [c1 (ds (bs (Lib.cut r p).1)), c1 (ds (bs (Lib.cut r p).2.1)), c1 (db (Lib.cut r p).2.2)]) :=
 ⟨⟨_, Tryz.func31, by kernel_rfl, rfl⟩, fun S w vs hS hG hvs => by
  obtain ⟨u, v, rfl, e1, e2⟩ := two_args hvs
  obtain rfl := open_v e1
  obtain rfl := open_v e2
  obtain ⟨-, -, ⟨m, hm, -⟩, -⟩ := hG
  refine (Tryz.strings_Cut (bs r) (bs p) m w (by rw [bs_size]; exact hr) hm).mono fun e w' ⟨he, n, hb⟩ => ?_
  subst he; subst hb
  exact flat_end hS ((Below.refl _ _).trans ⟨rfl, rfl, rfl, Nat.le_refl _, fun _ _ => rfl⟩) ⟨[_, _, _], rfl, .cons (Imm.v rfl) (.cons (Imm.v rfl) (.cons (Imm.v rfl) .nil))⟩⟩
theorem ext_drop (r : List UInt8) (n : Nat) (h : n ≤ r.length) : (bs r).extract (n : Int).toNat ((bs r).size : Int).toNat = bs (r.drop n) := by
 apply ByteArray.ext
 rw [ByteArray.data_extract, Int.toNat_natCast, Int.toNat_natCast, bs_size]
 apply Array.ext'
 simp only [List.extract_toArray, List.extract_eq_take_drop]
 exact List.take_of_length_le (by simp)
theorem ext_take (r : List UInt8) (n : Nat) : (bs r).extract (0 : Int).toNat (n : Int).toNat = bs (r.take n) := by
 apply ByteArray.ext
 rw [ByteArray.data_extract, Int.toNat_natCast]
 apply Array.ext'
 simp [List.extract_eq_take_drop]
end Go.Proofs.YtidnlfkakhmadaaGreatDoor

namespace Go.Proofs.YtidnlfkakhmadaaGreatDoor
open Go.RowKit

theorem u8_all {p q : UInt8 → Bool} (h : ∀ n : Fin 256, p (UInt8.ofNat n.val) = q (UInt8.ofNat n.val)) (b : UInt8) : p b = q b := by
 have := h ⟨b.toNat, b.toNat_lt⟩
 rwa [show UInt8.ofNat (⟨b.toNat, b.toNat_lt⟩ : Fin 256).val = b by simp] at this
def digS : List UInt8 := [48, 49, 50, 51, 52, 53, 54, 55, 56, 57]
def hexS : List UInt8 := [48, 49, 50, 51, 52, 53, 54, 55, 56, 57, 97, 98, 99, 100, 101, 102, 65, 66, 67, 68, 69, 70]
def runS : List UInt8 := [65, 66, 67, 68, 69, 70, 71, 72, 73, 74, 75, 76, 77, 78, 79, 80, 81, 82, 83, 84, 85, 86, 87, 88, 89, 90, 97, 98, 99, 100, 101, 102, 103, 104, 105, 106, 107, 108, 109, 110, 111, 112, 113, 114, 115, 116, 117, 118, 119, 120, 121, 122, 95, 48, 49, 50, 51, 52, 53, 54, 55, 56, 57]
def blankS : List UInt8 := [32, 9, 10, 13]
theorem digS_eq (b : UInt8) : digS.contains b = isDig b := u8_all (p := digS.contains) (q := isDig) (by decide +kernel) b
theorem hexS_eq (b : UInt8) : hexS.contains b = isHex b := u8_all (p := hexS.contains) (q := isHex) (by decide +kernel) b
theorem runS_eq (b : UInt8) : runS.contains b = alnum b := u8_all (p := runS.contains) (q := alnum) (by decide +kernel) b
theorem blankS_eq (b : UInt8) : blankS.contains b = blank b := u8_all (p := blankS.contains) (q := blank) (by decide +kernel) b
theorem drop_len (p : UInt8 → Bool) : ∀ l : List UInt8, (l.dropWhile p).length + (l.takeWhile p).length = l.length
 | [] => rfl
 | a :: l => by
  rw [List.dropWhile_cons, List.takeWhile_cons]
  have := drop_len p l
  split <;> simp <;> omega
theorem take_all (p : UInt8 → Bool) : ∀ l : List UInt8, (l.takeWhile p).length = l.length ↔ l.all p = true
 | [] => by simp
 | a :: l => by
  have := take_all p l
  have h9 : (l.takeWhile p).length ≤ l.length := by have := drop_len p l; omega
  rw [List.takeWhile_cons, List.all_cons]
  split
  ·rename_i h
   rw [h, Bool.true_and, List.length_cons, List.length_cons, ← this]
   omega
  ·rename_i h
   simp [h]
theorem run_c (cs : List UInt8) (p : UInt8 → Bool) (hp : ∀ b, cs.contains b = p b) (hcs : cs.length < 4294967281) (ha : (cs.all fun b => decide (b.toNat < 128)) = true) (r : List UInt8) (hr : r.length ≤ 16384) :
  CallsA Tryz.prog Γ0 29 [c1 (ds (bs r)), c1 (ds (bs cs))] (Ti ((r.takeWhile p).length : Nat)) := by
 have hd := drop_len p r
 have hpe : (fun b => cs.contains b) = p := funext hp
 have ht := trimLeft_c Γ0 r cs hcs ha
 rw [hpe] at ht
 refine fn_rule (C := ⟨Tryz.prog, layF, Tryz.f29.ntmps, Γ0, 0, [], []⟩) layF_ok mixed Tryz.func29 rfl (by kernel_rfl) rfl rfl rfl ?_
 refine ex_call (ht) ?_
 refine ex_i64 ((r.takeWhile p).length : Nat) (by rw [bs_size, bs_size]; omega) (by omega) (by omega) ?_
 exact TLe.rfl
theorem runD_c (r : List UInt8) (hr : r.length ≤ 16384) : CallsA Tryz.prog Γ0 29 [c1 (ds (bs r)), c1 (ds (bs digS))] (Ti ((r.takeWhile isDig).length : Nat)) := run_c digS isDig digS_eq (by decide) (by decide) r hr
theorem runH_c (r : List UInt8) (hr : r.length ≤ 16384) : CallsA Tryz.prog Γ0 29 [c1 (ds (bs r)), c1 (ds (bs hexS))] (Ti ((r.takeWhile isHex).length : Nat)) := run_c hexS isHex hexS_eq (by decide) (by decide) r hr
theorem runR_c (r : List UInt8) (hr : r.length ≤ 16384) : CallsA Tryz.prog Γ0 29 [c1 (ds (bs r)), c1 (ds (bs runS))] (Ti ((r.takeWhile alnum).length : Nat)) := run_c runS alnum runS_eq (by decide) (by decide) r hr
theorem runB_c (r : List UInt8) (hr : r.length ≤ 16384) : CallsA Tryz.prog Γ0 29 [c1 (ds (bs r)), c1 (ds (bs blankS))] (Ti ((r.takeWhile blank).length : Nat)) := run_c blankS blank blankS_eq (by decide) (by decide) r hr
abbrev Sc (r : List UInt8) (p : Nat × Nat) : Blk := .obj [.d (ds (bs r)), .d (di (p.1 : Nat)), .d (di (p.2 : Nat))]
theorem byteRows_ln (l : List UInt8) : (byteRows l).length = l.length := by simp [byteRows]
theorem ex_byte {bs : List UInt8} {n : Int} (i : Nat) (x : UInt8) (hn : n = i) (hx : bs[i]? = some x) {K : List D → Prop} (h : K [.v (.int .u8 x.toNat)]) : ∃ r, 0 ≤ n ∧ (byteRows bs)[n.toNat]? = some r ∧ K r := by
 subst hn
 exact ⟨_, by omega, by simp [byteRows, hx], h⟩
theorem skip_c (r : List UInt8) (p : Nat × Nat) (n : Nat) (hr : r.length ≤ 16384) (hn : n ≤ r.length) (hp1 : p.1 ≤ 100000) (hp2 : p.2 ≤ 100000) :
  CallsM Tryz.prog Γ0 15 [(0, Sc r p)] 1 [.c (.ptr 0 0), c1 (di n)] (.tup []) [(0, Sc (r.drop n) ((r.take n).foldl skipP p))] [] := by
 obtain ⟨T, hT⟩ : ∃ T, r.take n = T := ⟨_, rfl⟩
 have hTl : T.length = n := by rw [← hT, List.length_take]; omega
 rw [hT]
 obtain ⟨Q, hQ⟩ : ∃ Q, T.foldl skipP p = Q := ⟨_, rfl⟩
 rw [hQ]
 have hrs := bs_size r
 refine fn_ruleM (C := ⟨Tryz.prog, layF, Tryz.f15.ntmps, Γ0, 1, [], []⟩) layF_ok mixed Tryz.func15 rfl (by kernel_rfl) rfl rfl rfl ?_
 refine ⟨by omega, by omega, by omega, ?_⟩
 rw [ext_take, hT]
 refine ex_is n (by rw [byteRows_ln]; exact hTl) ?_
 refine ex_loop (X := Nat × Nat × Nat) (fun ⟨q, u, v⟩ => ⟨[(0, .o (.c (.ptr 0 0))), (1, Ti n), (12, .o (c1 (.sl 1 (byteRows T)))), (13, Ti n), (14, Ti q)], [(0, .obj [.d (ds (bs r)), .d (di (u : Nat)), .d (di (v : Nat))])], 1⟩) (fun x => n - x.1)
  (fun ⟨q, u, v⟩ => q ≤ n ∧ u ≤ p.1 + q ∧ v ≤ p.2 + q + 1 ∧ (T.drop q).foldl skipP (u, v) = Q) (0, p.1, p.2) ⟨Nat.zero_le _, Nat.le_refl _, by show p.2 ≤ _; omega, hQ⟩ sS ?_
 rintro ⟨q, u, v⟩ ⟨hq, hu, hv, hs⟩
 refine ex_dec (fun h => ?_) (fun h => ?_)
 ·have hql : q < T.length := by omega
  have hc : T[q]? = some T[q] := at_some hql
  rw [List.drop_eq_getElem_cons hql, List.foldl_cons] at hs
  generalize T[q] = c at *
  refine ex_byte q c rfl hc ?_
  refine ex_i64 (((v + 1 : Nat) : Int)) (by first | rfl | omega | simp) (by omega) (by omega) ?_
  refine ex_chr 0 10 rfl rfl ?_
  refine ex_dec (fun h2 => ?_) (fun h2 => ?_)
  ·have hc10 : c = 10 := UInt8.toNat_inj.1 (Int.ofNat_inj.1 h2)
   rw [show skipP (u, v) c = (u + 1, 1) from if_pos hc10] at hs
   refine ex_i64 (((u + 1 : Nat) : Int)) (by first | rfl | omega | simp) (by omega) (by omega) ?_
   refine ex_i64 (((q + 1 : Nat) : Int)) (by first | rfl | omega | simp) (by omega) (by omega) ?_
   exact ex_round (q + 1, u + 1, 1) ⟨by omega, by omega, by omega, hs⟩ (by show _ - _ < _ - _; omega) sS
  ·have hc10 : c ≠ 10 := fun e => h2 (by rw [e])
   rw [show skipP (u, v) c = (u, v + 1) from if_neg hc10] at hs
   refine ex_i64 (((q + 1 : Nat) : Int)) (by first | rfl | omega | simp) (by omega) (by omega) ?_
   exact ex_round (q + 1, u, v + 1) ⟨by omega, by omega, by omega, hs⟩ (by show _ - _ < _ - _; omega) sS
 ·rw [List.drop_eq_nil_of_le (by omega), List.foldl_nil] at hs
  subst hs
  refine ⟨by omega, by omega, by omega, ?_⟩
  rw [ext_drop r n hn]
  exact ⟨rfl, TLe.rfl, rfl, rfl⟩
theorem cutpre_c (r p : List UInt8) : CallsA Tryz.prog Γ0 70 [c1 (ds (bs r)), c1 (ds (bs p))] (.tup [c1 (ds (bs (if Lib.hasPrefix r p then r.drop p.length else r))), c1 (db (Lib.hasPrefix r p))]) := by
 have hin : CallsA Tryz.prog Γ0 86 [c1 (ds (bs r)), c1 (ds (bs p))] (.tup [c1 (ds (bs (if Lib.hasPrefix r p then r.drop p.length else r))), c1 (db (Lib.hasPrefix r p))]) := by
  have hrs := bs_size r
  have hps := bs_size p
  refine fn_rule (C := ⟨Tryz.prog, layF, Tryz.f86.ntmps, Γ0, 0, [], []⟩) layF_ok mixed Tryz.func86 rfl (by kernel_rfl) rfl rfl rfl ?_
  refine ex_call (lprefix_c Γ0 r p) ?_
  rcases h : Lib.hasPrefix r p with _ | _
  ·repeat' (first | refine qgs ?_ | refine eD ?_ ?_ <;> intro)
   exact TLe.rfl
  ·have hl : p.length ≤ r.length := by
    obtain ⟨X, rfl⟩ := List.isPrefixOf_iff_prefix.1 h
    rw [List.length_append]; omega
   repeat' (first | refine qgs ?_ | refine eD ?_ ?_ <;> intro)
   rw [hps, ext_drop r p.length hl]
   exact TLe.rfl
 refine fn_rule (C := ⟨Tryz.prog, layF, Tryz.f70.ntmps, Γ0, 0, [], []⟩) layF_ok mixed Tryz.func70 rfl (by kernel_rfl) rfl rfl rfl ?_
 refine ex_call (hin) ?_
 exact TLe.rfl
theorem size_pos {l : List UInt8} (h : l ≠ []) : bs l ≠ ByteArray.empty := fun e => h (by
 have := congrArg ByteArray.size e
 rw [bs_size] at this
 exact List.length_eq_zero_iff.1 this)
def digF (s : List UInt8) : List UInt8 × Nat := if sixteen s then (s.drop 2, 16) else if s.all isDig then (s, 10) else ([], 0)
theorem digits_c (s : List UInt8) (hs : s.length ≤ 16384) : CallsA Tryz.prog Γ0 52 [c1 (ds (bs s))] (.tup [c1 (ds (bs (digF s).1)), c1 (di ((digF s).2 : Nat))]) := by
 have hsz := bs_size s
 have h1 := runD_c s hs
 have ha := take_all isDig s
 have hcut := cutpre_c s [48, 120]
 unfold digF sixteen
 rw [show [48, 120].isPrefixOf s = Lib.hasPrefix s [48, 120] from rfl]
 have hA : if s.all isDig then (s.takeWhile isDig).length = s.length else (s.takeWhile isDig).length ≠ s.length := by
  split
  ·rename_i h; exact ha.2 h
  ·rename_i h; exact fun e => h (ha.1 e)
 rcases hp : Lib.hasPrefix s [48, 120] with _ | _ <;> rw [hp] at hcut
 ·rcases hd : s.all isDig with _ | _ <;> rw [hd] at hA <;> simp only [if_true, if_false, Bool.false_eq_true] at hA
  all_goals
   refine fn_rule (C := ⟨Tryz.prog, layF, Tryz.f52.ntmps, Γ0, 0, [], []⟩) layF_ok mixed Tryz.func52 rfl (by kernel_rfl) rfl rfl rfl ?_
   repeat' (first | refine ex_call h1 ?_ | refine ex_call hcut ?_ | refine qg1 ?_ | refine eD ?_ ?_ <;> intro)
   exact TLe.rfl
 ·obtain ⟨x, hx⟩ : ∃ x, s.drop 2 = x := ⟨_, rfl⟩
  have hcut : CallsA Tryz.prog Γ0 70 [c1 (ds (bs s)), c1 (ds (bs [48, 120]))] (.tup [c1 (ds (bs x)), c1 (db true)]) := hx ▸ hcut
  have hxl : x.length = s.length - 2 := by rw [← hx, List.length_drop]
  have h2 := runH_c x (by omega)
  have ha2 := take_all isHex x
  have hxs := bs_size x
  rw [hx]
  have hA2 : if x.all isHex then (x.takeWhile isHex).length = x.length else (x.takeWhile isHex).length ≠ x.length := by
   split
   ·rename_i h; exact ha2.2 h
   ·rename_i h; exact fun e => h (ha2.1 e)
  rcases x with _ | ⟨c, y⟩
  ·rw [show (decide (2 < s.length)) = false from decide_eq_false (by simp at hxl; omega)]
   rcases hd : s.all isDig with _ | _ <;> rw [hd] at hA <;> simp only [if_true, if_false, Bool.false_eq_true] at hA
   all_goals
    refine fn_rule (C := ⟨Tryz.prog, layF, Tryz.f52.ntmps, Γ0, 0, [], []⟩) layF_ok mixed Tryz.func52 rfl (by kernel_rfl) rfl rfl rfl ?_
    repeat' (first | refine ex_call h1 ?_ | refine ex_call hcut ?_ | refine qg1 ?_ | refine eD ?_ ?_ <;> intro)
    exact TLe.rfl
  ·have hne := size_pos (l := c :: y) (by simp)
   rw [show (decide (2 < s.length)) = true from decide_eq_true (by simp at hxl; omega)]
   generalize c :: y = x at *
   rcases he : x.all isHex with _ | _ <;> rw [he] at hA2 <;> simp only [if_true, if_false, Bool.false_eq_true] at hA2
   ·rcases hd : s.all isDig with _ | _ <;> rw [hd] at hA <;> simp only [if_true, if_false, Bool.false_eq_true] at hA
    all_goals
     refine fn_rule (C := ⟨Tryz.prog, layF, Tryz.f52.ntmps, Γ0, 0, [], []⟩) layF_ok mixed Tryz.func52 rfl (by kernel_rfl) rfl rfl rfl ?_
     repeat' (first | refine ex_call h2 ?_ | refine ex_call h1 ?_ | refine ex_call hcut ?_ | refine qg1 ?_ | refine eD ?_ ?_ <;> intro)
     all_goals first | exact TLe.rfl | exact absurd ‹_› hne
   ·
    refine fn_rule (C := ⟨Tryz.prog, layF, Tryz.f52.ntmps, Γ0, 0, [], []⟩) layF_ok mixed Tryz.func52 rfl (by kernel_rfl) rfl rfl rfl ?_
    repeat' (first | refine ex_call h2 ?_ | refine ex_call h1 ?_ | refine ex_call hcut ?_ | refine qg1 ?_ | refine eD ?_ ?_ <;> intro)
    all_goals first | exact TLe.rfl | exact absurd ‹_› hne
end Go.Proofs.YtidnlfkakhmadaaGreatDoor

namespace Go.Proofs.YtidnlfkakhmadaaGreatDoor
open Go.RowKit

def passL (r : List UInt8) : Nat := if isCom r then (r.takeWhile notNl).length else (r.takeWhile blank).length
def passN : Nat → List UInt8 → Nat × Nat → List UInt8 × (Nat × Nat)
 | 0, r, p => (r, p)
 | n + 1, r, p => if passL r = 0 then (r, p) else passN n (r.drop (passL r)) ((r.take (passL r)).foldl skipP p)
def passF (r : List UInt8) (p : Nat × Nat) : List UInt8 × (Nat × Nat) := passN (r.length + 1) r p
theorem take_len (p : UInt8 → Bool) : ∀ l : List UInt8, l.take (l.takeWhile p).length = l.takeWhile p
 | [] => rfl
 | a :: l => by
  rw [List.takeWhile_cons]
  split
  ·rw [List.length_cons, List.take_succ_cons, take_len p l]
  ·rfl
theorem passL_le (r : List UInt8) : passL r ≤ r.length := by
 unfold passL
 have h1 := drop_len notNl r
 have h2 := drop_len blank r
 split <;> omega
def Bd (p : Nat × Nat) (n : Nat) : Prop := 1 ≤ p.1 ∧ 1 ≤ p.2 ∧ p.1 + n ≤ 16385 ∧ p.2 + n ≤ 16385
theorem skip_bd : ∀ (x : List UInt8) (p : Nat × Nat) (n : Nat), Bd p (x.length + n) → Bd (x.foldl skipP p) n
 | [], p, n, h => by rw [List.length_nil, Nat.zero_add] at h; exact h
 | b :: x, p, n, h => by
  rw [List.foldl_cons]
  refine skip_bd x _ n ?_
  obtain ⟨h1, h2, h3, h4⟩ := h
  rw [List.length_cons] at h3 h4
  unfold skipP
  split
  ·exact ⟨by show 1 ≤ p.1 + 1; omega, by show 1 ≤ 1; omega, by show p.1 + 1 + _ ≤ _; omega, by show 1 + _ ≤ _; omega⟩
  ·exact ⟨by show 1 ≤ p.1; omega, by show 1 ≤ p.2 + 1; omega, by show p.1 + _ ≤ _; omega, by show p.2 + 1 + _ ≤ _; omega⟩
theorem pass_step (r : List UInt8) (p : Nat × Nat) : lexF r p.1 p.2 = lexF (r.drop (passL r)) ((r.take (passL r)).foldl skipP p).1 ((r.take (passL r)).foldl skipP p).2 := by
 unfold passL
 split
 ·rename_i h
  rw [take_len, ← dropWhile_eq]
  exact lexF_com p h
 ·rw [take_len, ← dropWhile_eq]
  obtain ⟨X, hX, -⟩ := takeWhile_split blank r
  have hd : r.dropWhile blank = X := by
   rw [dropWhile_eq]
   conv => lhs; arg 2; rw [hX]
   rw [List.drop_left]
  rw [hd]
  conv => lhs; rw [hX]
  exact lexF_blank _ X p (takeWhile_all blank r)
def Due (r : List UInt8) : Prop := isCom r = false ∧ ∀ b, r[0]? = some b → blank b = false
theorem due_of {r : List UInt8} (h : passL r = 0) : Due r := by
 unfold passL at h
 split at h
 ·rename_i hc
  obtain ⟨X, rfl⟩ := isCom_eq hc
  rw [List.takeWhile_cons, if_pos (by decide)] at h
  cases h
 ·rename_i hc
  refine ⟨by simpa using hc, fun b hb => ?_⟩
  rcases r with _ | ⟨a, r⟩
  ·cases hb
  ·cases hb
   rw [List.takeWhile_cons] at h
   split at h
   ·cases h
   ·rename_i hn; simpa using hn
theorem passN_facts : ∀ (n : Nat) (r : List UInt8) (p : Nat × Nat), r.length < n → Bd p r.length →
  lexF r p.1 p.2 = lexF (passN n r p).1 (passN n r p).2.1 (passN n r p).2.2 ∧ Due (passN n r p).1 ∧ Bd (passN n r p).2 (passN n r p).1.length ∧ (passN n r p).1.length ≤ r.length := by
 intro n
 induction n with
 | zero => intro r p h; omega
 | succ n ih =>
  intro r p hl hb
  rw [passN]
  split
  ·rename_i h; exact ⟨rfl, due_of h, hb, Nat.le_refl _⟩
  ·rename_i h
   have hle := passL_le r
   have hd : (r.drop (passL r)).length = r.length - passL r := List.length_drop ..
   have ht : (r.take (passL r)).length = passL r := by rw [List.length_take]; omega
   obtain ⟨e1, e2, e3, e4⟩ := ih (r.drop (passL r)) ((r.take (passL r)).foldl skipP p) (by omega) (by rw [hd]; refine skip_bd _ _ _ ?_; rw [ht]; rw [show passL r + (r.length - passL r) = r.length by omega]; exact hb)
   exact ⟨by rw [pass_step r p]; exact e1, e2, e3, by omega⟩
theorem cut_nl : ∀ r : List UInt8, Lib.index r [10] = if 10 ∈ r then ((r.takeWhile notNl).length : Int) else -1
 | [] => rfl
 | a :: r => by
  rw [Lib.index, cut_nl r]
  by_cases h : a = 10
  ·subst h
   rw [show ([10] : List UInt8).isPrefixOf (10 :: r) = true from rfl, if_pos rfl, if_pos (by simp)]
   rfl
  ·have h' : ¬ (10 : UInt8) = a := fun e => h e.symm
   have hp : ([10] : List UInt8).isPrefixOf (a :: r) = false := by simp [List.isPrefixOf, h']
   have hn : notNl a = true := by simp [notNl, h]
   rw [hp, if_neg (by decide), List.takeWhile_cons, if_pos hn]
   by_cases h2 : 10 ∈ r
   ·have h4 : ¬ (((r.takeWhile notNl).length : Int) == -1) = true := by simp <;> omega
    rw [if_pos h2, if_neg h4, if_pos (show (10 : UInt8) ∈ a :: r by simp [h2]), List.length_cons]; rfl
   ·rw [if_neg h2, if_pos (show ((-1 : Int) == -1) = true from rfl), if_neg (show ¬ (10 : UInt8) ∈ a :: r by simp [h2, h'])]
theorem cut_fst (r : List UInt8) : (Lib.cut r [10]).1 = r.takeWhile notNl := by
 unfold Lib.cut
 rw [cut_nl]
 by_cases h : 10 ∈ r
 ·rw [if_pos h, if_pos (by omega)]
  exact take_len notNl r
 ·rw [if_neg h, if_neg (by omega)]
  show r = _
  have : (r.takeWhile notNl).length = r.length := (take_all notNl r).2 (by rw [List.all_eq_true]; intro c hc; simp [notNl]; intro e; exact h (e ▸ hc))
  conv => lhs; rw [← List.take_length (l := r), ← this]
  exact take_len notNl r
theorem pass_c (r : List UInt8) (p : Nat × Nat) (hb : Bd p r.length) :
  CallsM Tryz.prog ΓL 13 [(0, Sc r p)] 1 [.c (.ptr 0 0)] (.tup []) [(0, Sc (passF r p).1 (passF r p).2)] [] := by
 obtain ⟨R, hR⟩ : ∃ R, passF r p = R := ⟨_, rfl⟩
 rw [hR]
 refine fn_ruleM (C := ⟨Tryz.prog, layF, Tryz.f13.ntmps, ΓL, 1, [], []⟩) layF_ok mixed Tryz.func13 rfl (by kernel_rfl) rfl rfl rfl ?_
 refine ex_loop (X := Nat × List UInt8 × Nat × Nat) (fun ⟨m, x, u, v⟩ => ⟨[(0, .o (.c (.ptr 0 0)))], [(0, .obj [.d (ds (bs x)), .d (di (u : Nat)), .d (di (v : Nat))])], 1⟩) (fun x => x.1)
  (fun ⟨m, x, u, v⟩ => x.length < m ∧ Bd (u, v) x.length ∧ passN m x (u, v) = R) (r.length + 1, r, p) ⟨Nat.lt_succ_self _, hb, hR⟩ sS ?_
 rintro ⟨m, x, u, v⟩ ⟨hm, hbd, hs⟩
 obtain ⟨m, rfl⟩ : ∃ k, m = k + 1 := ⟨m - 1, by omega⟩
 obtain ⟨h1, h2, h3, h4⟩ := hbd
 dsimp only at h1 h2 h3 h4
 have hle := passL_le x
 have hsk := fun n hn => (skip_c x (u, v) n (by omega) hn (by show u ≤ _; omega) (by show v ≤ _; omega)).of0 (Γ := ΓL)
 rw [passN] at hs
 refine ex_call ((runB_c x (by omega)).gL) ?_
 refine ex_call (prefix_c ΓL x [47, 47]) ?_
 have fin : ∀ k : Nat, k = passL x → k ≠ 0 → (m, x.drop k, (x.take k).foldl skipP (u, v)).2.1.length < m ∧ Bd ((x.take k).foldl skipP (u, v)) (x.drop k).length ∧ passN m (x.drop k) ((x.take k).foldl skipP (u, v)) = R := by
  intro k hk h0
  subst hk
  rw [if_neg h0] at hs
  have hd : (x.drop (passL x)).length = x.length - passL x := List.length_drop ..
  have ht : (x.take (passL x)).length = passL x := by rw [List.length_take]; omega
  exact ⟨by show (x.drop (passL x)).length < m; omega, by rw [hd]; refine skip_bd _ _ _ ?_; rw [ht, show passL x + (x.length - passL x) = x.length by omega]; exact ⟨h1, h2, h3, h4⟩, hs⟩
 rcases hc : isCom x with _ | _
 ·rw [show Lib.hasPrefix x [47, 47] = false from hc]
  have hp : passL x = (x.takeWhile blank).length := by unfold passL; rw [hc]; rfl
  rw [← hp]
  repeat' (first | refine qgs ?_ | refine eD ?_ ?_ <;> intro)
  ·rename_i h0
   rw [if_pos (by omega)] at hs
   subst hs
   exact ⟨rfl, TLe.rfl, rfl, rfl⟩
  ·refine ex_callM (hsk (passL x) hle) ?_
   exact ex_round (m, x.drop (passL x), (x.take (passL x)).foldl skipP (u, v)) (fin (passL x) rfl (by omega)) (Nat.lt_succ_self _) sS
 ·rw [show Lib.hasPrefix x [47, 47] = true from hc]
  have hp : passL x = (x.takeWhile notNl).length := by unfold passL; rw [hc]; rfl
  have hp0 : passL x ≠ 0 := fun e => by
   have := (due_of e).1
   rw [hc] at this
   cases this
  have hcut := cut_c x [10] (by omega)
  rw [cut_fst] at hcut
  have hsz : (bs (x.takeWhile notNl)).size = passL x := by rw [bs_size, hp]
  generalize x.takeWhile notNl = y at *
  refine ex_call (hcut) ?_
  repeat' (first | refine qgs ?_ | refine eD ?_ ?_ <;> intro)
  rw [hsz]
  refine ex_callM (hsk (passL x) hle) ?_
  exact ex_round (m, x.drop (passL x), (x.take (passL x)).foldl skipP (u, v)) (fin (passL x) rfl hp0) (Nat.lt_succ_self _) sS
theorem lower_c (b : UInt8) : CallsA Tryz.prog Γ0 87 [c1 (.v (.int .u8 b.toNat))] (.o (c1 (.v (.int .u8 (bits .or .u8 b.toNat 32))))) :=
 ⟨⟨_, Tryz.func87, by kernel_rfl, rfl⟩, fun S w vs hS hG hvs => by
  obtain ⟨u, rfl, e1⟩ := one_arg hvs
  obtain rfl := open_v e1
  refine (Tryz.internal_strconv_lower b.toNat w).mono fun e w' ⟨he, hb⟩ => ?_
  subst he; subst hb
  exact flat_end hS (Below.refl _ _) (Imm.v rfl)⟩
theorem lower_hex (b : UInt8) : (!(isHex b && !isDig b) || decide (bits .or .u8 b.toNat 32 = (hexN b + 87 : Nat))) = true := u8_all (p := fun b => !(isHex b && !isDig b) || decide (bits .or .u8 b.toNat 32 = (hexN b + 87 : Nat))) (q := fun _ => true) (by decide +kernel) b
theorem hex_bound (b : UInt8) : (!isHex b || (decide (hexN b < 16) && (isDig b == decide (hexN b < 10)))) = true := u8_all (p := fun b => !isHex b || (decide (hexN b < 16) && (isDig b == decide (hexN b < 10)))) (q := fun _ => true) (by decide +kernel) b
abbrev rngE : Value := .iface 159 (.int .i64 1)
def tvP : Option Nat → TV
 | some n => .tup [c1 (du n), c1 (.v .nilIface)]
 | none => .tup [c1 (du 18446744073709551615), c1 (.v rngE)]
set_option maxHeartbeats 2000000 in
theorem ipu10_c (l : List UInt8) (h0 : l ≠ []) (hl : l.length ≤ 16384) (hh : ∀ b ∈ l, isHex b = true ∧ hexN b < 10) :
  CallsA Tryz.prog Γ0 71 [c1 (ds (bs l)), c1 (di 10), c1 (di 64)] (tvP (valF 10 0 l)) := by
 obtain ⟨R, hR⟩ : ∃ R, valF 10 0 l = R := ⟨_, rfl⟩
 rw [hR]
 have hsz := bs_size l
 have hne := size_pos h0
 have hpos := List.length_pos_iff.2 h0
 refine fn_rule (C := ⟨Tryz.prog, layF, Tryz.f71.ntmps, Γ0, 0, [], []⟩) layF_ok mixed Tryz.func71 rfl (by kernel_rfl) rfl rfl rfl ?_
 repeat' (first | refine qgs ?_ | refine eD ?_ ?_ <;> intro)
 refine ex_is 0 (by decide) ?_
 refine ex_is 18446744073709551615 (by decide) ?_
 refine ex_is l.length (by simp [byteRows]) ?_
 refine ex_loop (X := Nat × Nat) (fun ⟨q, n⟩ => ⟨[(1, Ti 10), (8, Tb false), (10, Tu 1844674407370955162), (11, Tu 18446744073709551615), (12, Tb false), (13, Tu n), (99, .o (c1 (.sl 1 (byteRows l)))), (100, Ti l.length), (101, Ti q)], [], 0⟩) (fun x => l.length - x.1) (fun ⟨q, n⟩ => q ≤ l.length ∧ n < 18446744073709551616 ∧ valF 10 n (l.drop q) = R) (0, 0) ⟨Nat.zero_le _, by decide, hR⟩ sS ?_
 rintro ⟨q, n⟩ ⟨hq, hn, hv⟩
 refine ex_dec (fun h => ?_) (fun h => ?_)
 ·have hql : q < l.length := by omega
  have hc : l[q]? = some l[q] := at_some hql
  have hm : l[q] ∈ l := List.getElem_mem hql
  rw [List.drop_eq_getElem_cons hql, valF] at hv
  generalize l[q] = c at *
  obtain ⟨h1, h2⟩ := hh c hm
  have h3 := lower_hex c
  have h4 := hex_bound c
  have hlow := lower_c c
  rw [h1] at h3 h4
  refine ex_byte q c rfl hc ?_
  have hcl := c.toNat_lt
  rcases hd : isDig c with _ | _ <;> rw [hd] at h3 h4
  ·have h6 : 10 ≤ hexN c ∧ hexN c < 16 := by simp at h4; omega
   exfalso; omega
  ·have h6 : hexN c < 10 := by simp at h4; omega
   have h7 : 48 ≤ c.toNat ∧ c.toNat ≤ 57 := by simp [isDig] at hd; omega
   have h8 : hexN c = c.toNat - 48 := by unfold hexN; rw [if_pos h7.2]
   rcases Nat.lt_or_ge (n * 10 + hexN c) 18446744073709551616 with h10 | h10
   ·rw [if_pos h10] at hv
    repeat' (first | refine aI ((q + 1 : Nat) : Int) ?_ | refine aU ((q + 1 : Nat) : Int) ?_ | refine aB ((q + 1 : Nat) : Int) ?_ | refine aI ((n * 10 + hexN c : Nat) : Int) ?_ | refine aU ((n * 10 + hexN c : Nat) : Int) ?_ | refine aB ((n * 10 + hexN c : Nat) : Int) ?_ | refine aI ((n * 10 : Nat) : Int) ?_ | refine aU ((n * 10 : Nat) : Int) ?_ | refine aB ((n * 10 : Nat) : Int) ?_ | refine aI ((hexN c : Nat) : Int) ?_ | refine aU ((hexN c : Nat) : Int) ?_ | refine aB ((hexN c : Nat) : Int) ?_ | refine qg1 ?_ | refine eD ?_ ?_ <;> intro)
    exact ex_round (q + 1, n * 10 + hexN c) ⟨by omega, by omega, hv⟩ (by show _ - _ < _ - _; omega) sS
   ·rw [if_neg (by omega)] at hv
    subst hv
    repeat' (first | refine aI ((q + 1 : Nat) : Int) ?_ | refine aU ((q + 1 : Nat) : Int) ?_ | refine aB ((q + 1 : Nat) : Int) ?_ | refine aI ((n * 10 + hexN c : Nat) : Int) ?_ | refine aU ((n * 10 + hexN c : Nat) : Int) ?_ | refine aB ((n * 10 + hexN c : Nat) : Int) ?_ | refine aI ((n * 10 : Nat) : Int) ?_ | refine aU ((n * 10 : Nat) : Int) ?_ | refine aB ((n * 10 : Nat) : Int) ?_ | refine aI ((hexN c : Nat) : Int) ?_ | refine aU ((hexN c : Nat) : Int) ?_ | refine aB ((hexN c : Nat) : Int) ?_ | refine qg1 ?_ | refine eD ?_ ?_ <;> intro)
    ·exact TLe.rfl
    ·refine ex_is ((n * 10 + hexN c : Nat) - 18446744073709551616 : Int) (by rw [IntKind.wrap_u64]; omega) ?_
     repeat' (first | refine qgs ?_ | refine eD ?_ ?_ <;> intro)
     exact TLe.rfl
 ·rw [List.drop_eq_nil_of_le (by omega), valF] at hv
  subst hv
  repeat' (first | refine qgs ?_ | refine eD ?_ ?_ <;> intro)
  exact TLe.rfl
set_option maxHeartbeats 2000000 in
theorem ipu16_c (l : List UInt8) (h0 : l ≠ []) (hl : l.length ≤ 16384) (hh : ∀ b ∈ l, isHex b = true ∧ hexN b < 16) :
  CallsA Tryz.prog Γ0 71 [c1 (ds (bs l)), c1 (di 16), c1 (di 64)] (tvP (valF 16 0 l)) := by
 obtain ⟨R, hR⟩ : ∃ R, valF 16 0 l = R := ⟨_, rfl⟩
 rw [hR]
 have hsz := bs_size l
 have hne := size_pos h0
 have hpos := List.length_pos_iff.2 h0
 refine fn_rule (C := ⟨Tryz.prog, layF, Tryz.f71.ntmps, Γ0, 0, [], []⟩) layF_ok mixed Tryz.func71 rfl (by kernel_rfl) rfl rfl rfl ?_
 repeat' (first | refine qgs ?_ | refine eD ?_ ?_ <;> intro)
 refine ex_is 0 (by decide) ?_
 refine ex_is 18446744073709551615 (by decide) ?_
 refine ex_is l.length (by simp [byteRows]) ?_
 refine ex_loop (X := Nat × Nat) (fun ⟨q, n⟩ => ⟨[(1, Ti 16), (8, Tb false), (10, Tu 1152921504606846976), (11, Tu 18446744073709551615), (12, Tb false), (13, Tu n), (99, .o (c1 (.sl 1 (byteRows l)))), (100, Ti l.length), (101, Ti q)], [], 0⟩) (fun x => l.length - x.1) (fun ⟨q, n⟩ => q ≤ l.length ∧ n < 18446744073709551616 ∧ valF 16 n (l.drop q) = R) (0, 0) ⟨Nat.zero_le _, by decide, hR⟩ sS ?_
 rintro ⟨q, n⟩ ⟨hq, hn, hv⟩
 refine ex_dec (fun h => ?_) (fun h => ?_)
 ·have hql : q < l.length := by omega
  have hc : l[q]? = some l[q] := at_some hql
  have hm : l[q] ∈ l := List.getElem_mem hql
  rw [List.drop_eq_getElem_cons hql, valF] at hv
  generalize l[q] = c at *
  obtain ⟨h1, h2⟩ := hh c hm
  have h3 := lower_hex c
  have h4 := hex_bound c
  have hlow := lower_c c
  rw [h1] at h3 h4
  refine ex_byte q c rfl hc ?_
  have hcl := c.toNat_lt
  rcases hd : isDig c with _ | _ <;> rw [hd] at h3 h4
  ·have h6 : 10 ≤ hexN c ∧ hexN c < 16 := by simp at h4; omega
   have h5 : bits .or .u8 c.toNat 32 = (hexN c + 87 : Nat) := by simpa using h3
   rw [h5] at hlow
   have h7 : ¬ (48 ≤ c.toNat ∧ c.toNat ≤ 57) := by simp [isDig] at hd; omega
   have h9 : c.toNat ≠ 95 := by intro e; simp [isHex, isDig, e] at h1
   repeat' (first | refine ex_call hlow ?_ | refine aI ((q + 1 : Nat) : Int) ?_ | refine aU ((q + 1 : Nat) : Int) ?_ | refine aB ((q + 1 : Nat) : Int) ?_ | refine aI ((n * 16 + hexN c : Nat) : Int) ?_ | refine aU ((n * 16 + hexN c : Nat) : Int) ?_ | refine aB ((n * 16 + hexN c : Nat) : Int) ?_ | refine aI ((n * 16 : Nat) : Int) ?_ | refine aU ((n * 16 : Nat) : Int) ?_ | refine aB ((n * 16 : Nat) : Int) ?_ | refine aI ((hexN c : Nat) : Int) ?_ | refine aU ((hexN c : Nat) : Int) ?_ | refine aB ((hexN c : Nat) : Int) ?_ | refine qg1 ?_ | refine eD ?_ ?_ <;> intro)
   all_goals first
    | (rw [if_neg (by omega)] at hv; subst hv; exact TLe.rfl)
    | (rw [if_pos (by omega)] at hv; exact ex_round (q + 1, n * 16 + hexN c) ⟨by omega, by omega, hv⟩ (by show _ - _ < _ - _; omega) sS)
  ·have h6 : hexN c < 10 := by simp at h4; omega
   have h7 : 48 ≤ c.toNat ∧ c.toNat ≤ 57 := by simp [isDig] at hd; omega
   have h8 : hexN c = c.toNat - 48 := by unfold hexN; rw [if_pos h7.2]
   repeat' (first | refine aI ((q + 1 : Nat) : Int) ?_ | refine aU ((q + 1 : Nat) : Int) ?_ | refine aB ((q + 1 : Nat) : Int) ?_ | refine aI ((n * 16 + hexN c : Nat) : Int) ?_ | refine aU ((n * 16 + hexN c : Nat) : Int) ?_ | refine aB ((n * 16 + hexN c : Nat) : Int) ?_ | refine aI ((n * 16 : Nat) : Int) ?_ | refine aU ((n * 16 : Nat) : Int) ?_ | refine aB ((n * 16 : Nat) : Int) ?_ | refine aI ((hexN c : Nat) : Int) ?_ | refine aU ((hexN c : Nat) : Int) ?_ | refine aB ((hexN c : Nat) : Int) ?_ | refine qg1 ?_ | refine eD ?_ ?_ <;> intro)
   ·rw [if_neg (by omega)] at hv
    subst hv
    exact TLe.rfl
   ·rw [if_pos (by omega)] at hv
    exact ex_round (q + 1, n * 16 + hexN c) ⟨by omega, by omega, hv⟩ (by show _ - _ < _ - _; omega) sS
 ·rw [List.drop_eq_nil_of_le (by omega), valF] at hv
  subst hv
  repeat' (first | refine qgs ?_ | refine eD ?_ ?_ <;> intro)
  exact TLe.rfl
end Go.Proofs.YtidnlfkakhmadaaGreatDoor

namespace Go.Proofs.YtidnlfkakhmadaaGreatDoor
open Go.RowKit

theorem five_args {S : Nat → Prop} {w : World} {a b c d e : T1} {vs : List Value} (h : All2 (V1 ι0 S w) [a, b, c, d, e] vs) : ∃ u v x y z, vs = [u, v, x, y, z] ∧ V1 ι0 S w a u ∧ V1 ι0 S w b v ∧ V1 ι0 S w c x ∧ V1 ι0 S w d y ∧ V1 ι0 S w e z := by
 obtain ⟨u, vs, rfl, e0, h⟩ := h.cons_left
 obtain ⟨v, vs, rfl, e1, h⟩ := h.cons_left
 obtain ⟨x, y, z, rfl, e2, e3, e4⟩ := three_args h
 exact ⟨u, v, x, y, z, rfl, e0, e1, e2, e3, e4⟩
theorem toerr_c (fn s : ByteArray) (base bits : Int) (hs : s.size ≤ 281474976710656) : CallsA Tryz.prog ΓL 72 [c1 (ds fn), c1 (ds s), c1 (di base), c1 (di bits), c1 (.v rngE)] (.o (c1 .err)) :=
 ⟨⟨_, Tryz.func72, by kernel_rfl, rfl⟩, fun S w vs hS hG hvs => by
  obtain ⟨u, v, x, y, z, rfl, e0, e1, e2, e3, e4⟩ := five_args hvs
  obtain rfl := open_v e0
  obtain rfl := open_v e1
  obtain rfl := open_v e2
  obtain rfl := open_v e3
  obtain rfl := open_v e4
  obtain ⟨-, ⟨⟨ev, h1, h2⟩, -⟩, -⟩ := hG
  refine (Tryz.strconv_toError_range fn s base bits ev w hs h1 h2).mono fun e w' ⟨N, he, _, _, hb⟩ => ?_
  subst he
  exact flat_end hS hb Imm.err⟩
def tvPu : Option Nat → TV
 | some n => .tup [c1 (du n), c1 (.v .nilIface)]
 | none => .tup [c1 (du 18446744073709551615), c1 .err]
theorem pu_c (base : Nat) (hb : base = 10 ∨ base = 16) (l : List UInt8) (h0 : l ≠ []) (hl : l.length ≤ 16384) (hh : ∀ b ∈ l, isHex b = true ∧ hexN b < base) :
  CallsA Tryz.prog ΓL 53 [c1 (ds (bs l)), c1 (di base), c1 (di 64)] (tvPu (valF base 0 l)) := by
 have hi : CallsA Tryz.prog ΓL 71 [c1 (ds (bs l)), c1 (di base), c1 (di 64)] (tvP (valF base 0 l)) := by
  rcases hb with rfl | rfl
  ·exact (ipu10_c l h0 hl hh).gL
  ·exact (ipu16_c l h0 hl hh).gL
 have hsz := bs_size l
 have he := toerr_c ⟨#[80, 97, 114, 115, 101, 85, 105, 110, 116]⟩ (bs l) base 64 (by omega)
 cases hv : valF base 0 l with
 | none =>
  rw [hv] at hi
  refine fn_rule (C := ⟨Tryz.prog, layF, Tryz.f53.ntmps, ΓL, 0, [], []⟩) layF_ok mixed Tryz.func53 rfl (by kernel_rfl) rfl rfl rfl ?_
  repeat' (first | refine ex_call he ?_ | refine ex_call hi ?_ | refine qg1 ?_ | refine eD ?_ ?_ <;> intro)
  exact TLe.rfl
 | some n =>
  rw [hv] at hi
  refine fn_rule (C := ⟨Tryz.prog, layF, Tryz.f53.ntmps, ΓL, 0, [], []⟩) layF_ok mixed Tryz.func53 rfl (by kernel_rfl) rfl rfl rfl ?_
  repeat' (first | refine ex_call he ?_ | refine ex_call hi ?_ | refine qg1 ?_ | refine eD ?_ ?_ <;> intro)
  exact TLe.rfl
def gT (k : Nat) (t : List UInt8) (n l c : Nat) : T1 := gD [di k, ds (bs t), du n, di l, di c]
def tvT : TR → TV
 | .ok k t n => .tup [gT k t n 0 0, c1 (di 0)]
 | .err e => .tup [gT 0 [] 0 0 0, c1 (di e)]
theorem number_c (s : List UInt8) (h0 : s ≠ []) (hs : s.length ≤ 16384) : CallsA Tryz.prog ΓL 32 [c1 (ds (bs s))] (tvT (numF s)) := by
 have hd := (digits_c s hs).gL
 unfold digF at hd
 unfold numF
 have fin : ∀ (l : List UInt8) (base : Nat), base ≠ 0 → CallsA Tryz.prog ΓL 52 [c1 (ds (bs s))] (.tup [c1 (ds (bs l)), c1 (di base)]) →
   CallsA Tryz.prog ΓL 53 [c1 (ds (bs l)), c1 (di base), c1 (di 64)] (tvPu (valF base 0 l)) →
   CallsA Tryz.prog ΓL 32 [c1 (ds (bs s))] (tvT (numR s (valF base 0 l))) := by
  intro l base hb hd hp
  cases hv : valF base 0 l with
  | none =>
   rw [hv] at hp
   refine fn_rule (C := ⟨Tryz.prog, layF, Tryz.f32.ntmps, ΓL, 0, [], []⟩) layF_ok mixed Tryz.func32 rfl (by kernel_rfl) rfl rfl rfl ?_
   repeat' (first | refine ex_call hp ?_ | refine ex_call hd ?_ | refine qg1 ?_ | refine eD ?_ ?_ <;> intro)
   exact TLe.rfl
  | some n =>
   rw [hv] at hp
   refine fn_rule (C := ⟨Tryz.prog, layF, Tryz.f32.ntmps, ΓL, 0, [], []⟩) layF_ok mixed Tryz.func32 rfl (by kernel_rfl) rfl rfl rfl ?_
   repeat' (first | refine ex_call hp ?_ | refine ex_call hd ?_ | refine qg1 ?_ | refine eD ?_ ?_ <;> intro)
   exact TLe.rfl
 rcases h6 : sixteen s with _ | _ <;> rw [h6] at hd
 ·rcases hA : s.all isDig with _ | _ <;> rw [hA] at hd
  ·have hd : CallsA Tryz.prog ΓL 52 [c1 (ds (bs s))] (.tup [c1 (ds (bs [])), c1 (di 0)]) := hd
   refine fn_rule (C := ⟨Tryz.prog, layF, Tryz.f32.ntmps, ΓL, 0, [], []⟩) layF_ok mixed Tryz.func32 rfl (by kernel_rfl) rfl rfl rfl ?_
   repeat' (first | refine ex_call hd ?_ | refine qg1 ?_ | refine eD ?_ ?_ <;> intro)
   exact TLe.rfl
  ·refine fin s 10 (by decide) hd (pu_c 10 (.inl rfl) s h0 hs (fun b hb => ?_))
   have h1 := List.all_eq_true.1 hA b hb
   have h2 := hex_bound b
   have h3 : isHex b = true := by unfold isHex; rw [h1]; rfl
   rw [h3, h1] at h2
   simp at h2
   exact ⟨h3, by omega⟩
 ·have h7 := h6
  unfold sixteen at h7
  simp only [Bool.and_eq_true, decide_eq_true_eq] at h7
  refine fin (s.drop 2) 16 (by decide) hd (pu_c 16 (.inr rfl) (s.drop 2) (fun e => ?_) (by rw [List.length_drop]; omega) (fun b hb => ?_))
  ·have := congrArg List.length e
   rw [List.length_drop] at this
   simp at this
   omega
  ·have h1 := List.all_eq_true.1 h7.2.2 b hb
   have h2 := hex_bound b
   rw [h1] at h2
   simp at h2
   exact ⟨h1, h2.1⟩
theorem token_c (r : List UInt8) (p : Nat × Nat) (hr : r.length ≤ 16384) :
  CallsM Tryz.prog ΓL 14 [(0, Sc r p)] 1 [.c (.ptr 0 0)] (tvT (tokF r)) [(0, Sc r p)] [] := by
 have hR := (runR_c r hr).gL
 have hsz := bs_size r
 have hdl := drop_len alnum r
 have htl := take_len alnum r
 unfold tokF
 rcases hw : r.takeWhile alnum with _ | ⟨b, w⟩ <;> rw [hw] at hR hdl htl
 ·dsimp only
  obtain ⟨R, hR2⟩ : ∃ R, signF r = R := ⟨_, rfl⟩
  rw [hR2]
  refine fn_ruleM (C := ⟨Tryz.prog, layF, Tryz.f14.ntmps, ΓL, 1, [], []⟩) layF_ok mixed Tryz.func14 rfl (by kernel_rfl) rfl rfl rfl ?_
  repeat' (first | refine ex_call hR ?_ | refine qg1 ?_ | refine eD ?_ ?_ <;> intro)
  refine ex_loop (X := Nat) (fun q => ⟨[(0, .o (.c (.ptr 0 0))), (2, .o (.c (.ptr 1 0))), (35, .o (.g (signsL.map fun l => .d (ds (bs l))))), (36, Ti q)], [(0, Sc r p), (1, .obj [.d (di 0), .d (ds (bs [])), .d (du 0), .d (di 0), .d (di 0)])], 2⟩) (fun q => 29 - q) (fun q => q ≤ 29 ∧ (signsL.drop q).find? (·.isPrefixOf r) = R) 0 ⟨by decide, hR2⟩ sS ?_
  rintro q ⟨hq, hs⟩
  refine ex_dec (fun h => ?_) (fun h => ?_)
  ·have hql : q < signsL.length := by rw [show signsL.length = 29 from rfl]; omega
   have hc : signsL[q]? = some signsL[q] := at_some hql
   have hix : List.take 1 (List.drop (((q : Nat) : Int).toNat * 1) (signsL.map fun l => CV.d (ds (bs l)))) = [CV.d (ds (bs signsL[q]))] := by
    rw [Int.toNat_natCast, Nat.mul_one, ← List.map_drop, List.drop_eq_getElem_cons hql, List.map_cons, List.take_succ_cons, List.take_zero]
   rw [List.drop_eq_getElem_cons hql, List.find?_cons] at hs
   generalize signsL[q] = c at *
   refine ⟨by omega, by omega, ex_is _ hix ?_⟩
   have hp := prefix_c ΓL r c
   rcases hpr : c.isPrefixOf r with _ | _
   ·rw [hpr] at hs
    rw [show Lib.hasPrefix r c = false from hpr] at hp
    refine ex_call (hp) ?_
    repeat' (first | refine aI ((q + 1 : Nat) : Int) ?_ | refine aU ((q + 1 : Nat) : Int) ?_ | refine aB ((q + 1 : Nat) : Int) ?_ | refine qg1 ?_ | refine eD ?_ ?_ <;> intro)
    exact ex_round (q + 1) ⟨by omega, hs⟩ (by show _ - _ < _ - _; omega) sS
   ·rw [hpr] at hs
    subst hs
    rw [show Lib.hasPrefix r c = true from hpr] at hp
    refine ex_call (hp) ?_
    repeat' (first | refine qgs ?_ | refine eD ?_ ?_ <;> intro)
    exact ⟨rfl, TLe.rfl, rfl, rfl⟩
  ·have : q = 29 := by omega
   subst this
   subst hs
   exact ⟨rfl, TLe.rfl, rfl, rfl⟩
 ·have hwl : (b :: w).length ≤ r.length := by omega
  have hD := (runD_c (b :: w) (by omega)).gL
  have hN := number_c (b :: w) (by simp) (by omega)
  have hE := ext_take r (b :: w).length
  rw [htl] at hE
  have hbd : 0 < (b :: w).length := by simp
  dsimp only
  rcases hb : isDig b with _ | _
  ·have hD0 : ((b :: w).takeWhile isDig).length = 0 := by rw [List.takeWhile_cons, hb]; rfl
   rw [hD0] at hD
   generalize b :: w = y at *
   by_cases h32 : y.length ≤ 32
   ·rw [if_neg (by decide), if_pos h32]
    refine fn_ruleM (C := ⟨Tryz.prog, layF, Tryz.f14.ntmps, ΓL, 1, [], []⟩) layF_ok mixed Tryz.func14 rfl (by kernel_rfl) rfl rfl rfl ?_
    repeat' (first | refine ex_call hR ?_ | refine qg1 ?_ | refine eD ?_ ?_ <;> intro)
    rw [hE]
    repeat' (first | refine ex_call hD ?_ | refine qg1 ?_ | refine eD ?_ ?_ <;> intro)
    exact ⟨rfl, TLe.rfl, rfl, rfl⟩
   ·rw [if_neg (by decide), if_neg h32]
    refine fn_ruleM (C := ⟨Tryz.prog, layF, Tryz.f14.ntmps, ΓL, 1, [], []⟩) layF_ok mixed Tryz.func14 rfl (by kernel_rfl) rfl rfl rfl ?_
    repeat' (first | refine ex_call hR ?_ | refine qg1 ?_ | refine eD ?_ ?_ <;> intro)
    rw [hE]
    repeat' (first | refine ex_call hD ?_ | refine qg1 ?_ | refine eD ?_ ?_ <;> intro)
    exact ⟨rfl, TLe.rfl, rfl, rfl⟩
  ·have hD0 : 0 < ((b :: w).takeWhile isDig).length := by rw [List.takeWhile_cons, hb]; simp
   rw [if_pos rfl]
   generalize b :: w = y at *
   generalize (y.takeWhile isDig).length = d at *
   rcases hn : numF y with ⟨k, t, n⟩ | e <;> rw [hn] at hN
   ·
    refine fn_ruleM (C := ⟨Tryz.prog, layF, Tryz.f14.ntmps, ΓL, 1, [], []⟩) layF_ok mixed Tryz.func14 rfl (by kernel_rfl) rfl rfl rfl ?_
    repeat' (first | refine ex_call hR ?_ | refine qg1 ?_ | refine eD ?_ ?_ <;> intro)
    rw [hE]
    repeat' (first | refine ex_call hN ?_ | refine ex_call hD ?_ | refine qg1 ?_ | refine eD ?_ ?_ <;> intro)
    exact ⟨rfl, TLe.rfl, rfl, rfl⟩
   ·
    refine fn_ruleM (C := ⟨Tryz.prog, layF, Tryz.f14.ntmps, ΓL, 1, [], []⟩) layF_ok mixed Tryz.func14 rfl (by kernel_rfl) rfl rfl rfl ?_
    repeat' (first | refine ex_call hR ?_ | refine qg1 ?_ | refine eD ?_ ?_ <;> intro)
    rw [hE]
    repeat' (first | refine ex_call hN ?_ | refine ex_call hD ?_ | refine qg1 ?_ | refine eD ?_ ?_ <;> intro)
    exact ⟨rfl, TLe.rfl, rfl, rfl⟩
end Go.Proofs.YtidnlfkakhmadaaGreatDoor

namespace Go.Proofs.YtidnlfkakhmadaaGreatDoor
open Go.RowKit

def tokD (t : TokP) : List D := [di t.k, ds (bs t.t), du t.n, di t.l, di t.c]
def lexT : LR → TV
 | .ok ts => .tup [c1 (.sl 5 (ts.map tokD)), gD [di 0, di 0], c1 (di 0)]
 | .err l c e => .tup [c1 (.sl 5 []), gD [di l, di c], c1 (di e)]
def lexV (s : List UInt8) : LR := if s.length ≤ 16384 then lexF s 1 1 else .err 1 1 7
theorem passF_facts (r : List UInt8) (p : Nat × Nat) (h : Bd p r.length) : lexF r p.1 p.2 = lexF (passF r p).1 (passF r p).2.1 (passF r p).2.2 ∧ Due (passF r p).1 ∧ Bd (passF r p).2 (passF r p).1.length ∧ (passF r p).1.length ≤ r.length := passN_facts _ r p (Nat.lt_succ_self _) h
theorem TLe.nilc {s : Nat} {l : List T1} : TLe (.tup (c1 (.v (.slice none 0 0)) :: l)) (.tup (c1 (.sl s []) :: l)) := fun ι S w v ⟨us, hu, h⟩ => by
 have h : All2 (V1 ι S w) (c1 (.v (.slice none 0 0)) :: l) us := h
 obtain ⟨u, us, rfl, e, h⟩ := h.cons_left
 exact ⟨u :: us, hu, .cons (TLe.nil ι S w u e) h⟩
theorem numF_err {s : List UInt8} {e : Nat} (h : numF s = .err e) : 4 ≤ e ∧ e ≤ 7 := by
 unfold numF at h
 split at h
 ·revert h; cases valF 16 0 (s.drop 2) <;> intro h <;> cases h; decide
 ·split at h
  ·revert h; cases valF 10 0 s <;> intro h <;> cases h; decide
  ·cases h; decide
theorem tokF_err {r : List UInt8} {e : Nat} (h : tokF r = .err e) : 4 ≤ e ∧ e ≤ 7 := by
 unfold tokF at h
 split at h
 ·split at h
  ·cases h; decide
  ·cases h
 ·split at h
  ·exact numF_err h
  ·split at h
   ·cases h
   ·cases h; decide
abbrev Pz : Blk := .obj [.d (di 0), .d (di 0)]
theorem lex_c (s : List UInt8) : CallsA Tryz.prog ΓL 5 [c1 (ds (bs s))] (lexT (lexV s)) := by
 have hsz := bs_size s
 unfold lexV
 by_cases hs : s.length ≤ 16384
 ·rw [if_pos hs]
  obtain ⟨R, hR⟩ : ∃ R, lexF s 1 1 = R := ⟨_, rfl⟩
  rw [hR]
  refine fn_rule (C := ⟨Tryz.prog, layF, Tryz.f5.ntmps, ΓL, 0, [], []⟩) layF_ok mixed Tryz.func5 rfl (by kernel_rfl) rfl rfl rfl ?_
  repeat' (first | refine qgs ?_ | refine eD ?_ ?_ <;> intro)
  refine ex_loop (X := List UInt8 × Nat × Nat × List TokP) (fun ⟨r, u, v, o⟩ => ⟨[(3, .o (.c (.ptr 0 0))), (5, .o (.c (.ptr 1 0))), (6, .o (.c (.row 2)))], [(0, Pz), (1, Sc r (u, v)), (2, .row 5 40 (o.map tokD))], 3⟩) (fun x => x.1.length)
   (fun ⟨r, u, v, o⟩ => Bd (u, v) r.length ∧ o.length + r.length ≤ s.length ∧ (lexF r u v).pre o = R) (s, 1, 1, []) ⟨⟨by decide, by decide, by show 1 + _ ≤ _; omega, by show 1 + _ ≤ _; omega⟩, by simp, by rw [hR]; cases R <;> rfl⟩ (SLe.trans sS (SLe.own 6 2 5 40 rfl rfl rfl rfl rfl)) ?_
  rintro ⟨r, u, v, o⟩ ⟨hb, hol, hs2⟩
  obtain ⟨e1, e2, e3, e4⟩ := passF_facts r (u, v) hb
  have hp := pass_c r (u, v) hb
  rw [e1] at hs2
  generalize passF r (u, v) = Q at *
  obtain ⟨x, u, v⟩ := Q
  dsimp only at e1 e2 e3 e4 hs2 hp
  refine ex_callM (CallsM.ren (hp) [1] 3 rfl rfl rfl rfl) ?_
  have hxs := bs_size x
  rcases x with _ | ⟨b, y⟩
  ·rw [lexF_nil] at hs2
   subst hs2
   repeat' (first | refine qgs ?_ | refine eD ?_ ?_ <;> intro)
   refine ex_app (o.length) (1) 1000 (by first | rfl | (simp; done) | (simp; omega)) (by first | rfl | (simp; done) | (simp; omega)) rfl (by omega) ?_
   refine ex_is (List.map tokD (o ++ [(⟨3, [], 0, u, v⟩ : TokP)])) (by rw [List.map_append]; rfl) ?_
   repeat' (first | refine qgs ?_ | refine eD ?_ ?_ <;> intro)
   exact TLe.rfl
  ·have hne := size_pos (l := b :: y) (by simp)
   have hx0 : b :: y ≠ [] := by simp
   have hxl : 1 ≤ (b :: y).length := by simp
   generalize b :: y = x at *
   refine ex_false hne ?_
   have ht := token_c x (u, v) (by omega)
   rw [lexF_tok u v hx0 e2.2 e2.1] at hs2
   rcases hk : tokF x with ⟨k, t, n⟩ | e <;> rw [hk] at ht hs2
   ·dsimp only at hs2
    obtain ⟨⟨X, hX⟩, ht0, hk3, ht10⟩ := tokF_ok hk
    refine ex_callM (CallsM.ren (ht) [1] 3 rfl rfl rfl rfl) ?_
    repeat' (first | refine qgs ?_ | refine eD ?_ ?_ <;> intro)
    refine ex_app (o.length) (1) 1000 (by first | rfl | (simp; done) | (simp; omega)) (by first | rfl | (simp; done) | (simp; omega)) rfl (by omega) ?_
    refine ex_is (List.map tokD (o ++ [(⟨k, t, n, u, v⟩ : TokP)])) (by rw [List.map_append]; rfl) ?_
    repeat' (first | refine qgs ?_ | refine eD ?_ ?_ <;> intro)
    have hbt := bs_size t
    have hxt : x.length = t.length + X.length := by rw [hX, List.length_append]
    have hsk := skip_c x (u, v) (bs t).size (by omega) (by omega) (by have := e3.2.2.1; show u ≤ _; omega) (by have := e3.2.2.2; show v ≤ _; omega)
    have hq : (x.take (bs t).size).foldl skipP (u, v) = (u, v + t.length) := by rw [hbt, hX, List.take_left, skip_line t u v ht10]
    have hdr : x.drop (bs t).size = X := by rw [hbt, hX, List.drop_left]
    rw [hq, hdr] at hsk
    rw [← hbt, hdr, hbt, LR.pre_pre] at hs2
    refine ex_callM (CallsM.ren (hsk.of0) [1] 6 rfl rfl rfl rfl) ?_
    have hpos : 0 < t.length := List.length_pos_iff.2 ht0
    exact ex_round (X, u, v + t.length, o ++ [⟨k, t, n, u, v⟩]) ⟨⟨e3.1, by have := e3.2.1; show 1 ≤ v + _; omega, by have := e3.2.2.1; show u + _ ≤ _; omega, by have := e3.2.2.2; show v + _ + _ ≤ _; omega⟩, by show (o ++ [_]).length + X.length ≤ _; rw [List.length_append, List.length_cons, List.length_nil]; omega, hs2⟩ (by show X.length < r.length; omega) (sR [(0, 0), (1, 1), (5, 2)])
   ·have he := tokF_err hk
    subst hs2
    refine ex_callM (CallsM.ren (ht) [1] 3 rfl rfl rfl rfl) ?_
    repeat' (first | refine qgs ?_ | refine eD ?_ ?_ <;> intro)
    exact TLe.nilc
 ·rw [if_neg hs]
  refine fn_rule (C := ⟨Tryz.prog, layF, Tryz.f5.ntmps, ΓL, 0, [], []⟩) layF_ok mixed Tryz.func5 rfl (by kernel_rfl) rfl rfl rfl ?_
  repeat' (first | refine qgs ?_ | refine eD ?_ ?_ <;> intro)
  exact TLe.nilc
end Go.Proofs.YtidnlfkakhmadaaGreatDoor

namespace Go.Proofs.YtidnlfkakhmadaaGreatDoor
open Go.RowKit

def intsD (l : List Int) : D := .sl 1 (l.map fun k => [di k])
def exD (x : EX) : List D := [di x.k, ds (bs x.op), du x.n, ds (bs x.nm), intsD x.kids]
def caD (c : CA) : List D := [du c.n, di c.t]
def tyD (t : TY) : List D := [di t.k, di t.size, db t.little, ds (bs t.nm), intsD t.args, di t.ex, di t.inn, .sl 2 (t.cases.map caD)]
def sbD (s : SB) : List D := [ds (bs s.nm), di s.bits]
def itD (x : IT) : List D := [ds (bs x.nm), di x.ty, di x.der, ds (bs x.a), ds (bs x.b), di x.wh, di x.size, db x.little, .sl 2 (x.subs.map sbD)]
def rcD (r : RC) : List D := [ds (bs r.nm), .sl 1 (r.ps.map fun p => [ds (bs p)]), .sl 9 (r.its.map itD)]
def coD (c : CO) : List D := [ds (bs c.nm), du c.n]
abbrev Qz (L : List TokP) (m i : Nat) : Blk := .obj [.d (.sl 5 (L.map tokD)), .d (di i), .d (di (32 - (m : Int))), .ptr 1 0]
abbrev Fz (a b c d : Nat) : Blk := .obj [.row a, .row b, .row c, .row d]
abbrev Xz (l : List EX) : Blk := .row 5 59 (l.map exD)
abbrev Tz (l : List TY) : Blk := .row 8 88 (l.map tyD)
abbrev fltV (l c e : Nat) : Value := .iface 70 (.agg #[.int .i64 l, .int .i64 c, .int .i64 e])
abbrev flt (L : List TokP) (i e : Nat) : Value := fltV (tk L i).l (tk L i).c e
def PR.tv {α : Type} (L : List TokP) (g : α → TV) : PR α → TV
 | .ok v _ => g v
 | .err i e => .pan (flt L i e)
def PR.u0 {α : Type} (L : List TokP) (m : Nat) : PR α → List (Nat × Blk)
 | .ok _ s => [(0, Qz L m s.i)]
 | .err _ _ => [(0, .dead)]
def PR.u1 {α : Type} (L : List TokP) (m : Nat) : PR α → List (Nat × Blk)
 | .ok _ s => [(0, Qz L m s.i), (1, Fz 2 3 6 5), (4, .dead)]
 | .err _ _ => [(0, .dead), (1, .dead), (4, .dead)]
def PR.n1 {α : Type} : PR α → List Blk
 | .ok _ s => [Xz s.xs]
 | .err _ _ => []
def PR.u2 {α : Type} (L : List TokP) (m : Nat) : PR α → List (Nat × Blk)
 | .ok _ s => [(0, Qz L m s.i), (1, Fz 2 3 6 7), (4, .dead), (5, .dead)]
 | .err _ _ => [(0, .dead), (1, .dead), (4, .dead), (5, .dead)]
def PR.n2 {α : Type} : PR α → List Blk
 | .ok _ s => [Xz s.xs, Tz s.ts]
 | .err _ _ => []
abbrev P0 : T1 := .c (.ptr 0 0)
def C0 (L : List TokP) (m : Nat) (f : FuncId) (xs : List T1) {α : Type} (x : PM α) (g : α → TV) (s : PS) : Prop := CallsM Tryz.prog ΓL f [(0, Qz L m s.i)] 2 (P0 :: xs) ((x s).tv L g) ((x s).u0 L m) []
def C1 (L : List TokP) (m : Nat) (f : FuncId) (xs : List T1) {α : Type} (x : PM α) (g : α → TV) (s : PS) : Prop := CallsM Tryz.prog ΓL f [(0, Qz L m s.i), (1, Fz 2 3 4 5), (4, Xz s.xs)] 6 (P0 :: xs) ((x s).tv L g) ((x s).u1 L m) (x s).n1
def C2 (L : List TokP) (m : Nat) (f : FuncId) (xs : List T1) {α : Type} (x : PM α) (g : α → TV) (s : PS) : Prop := CallsM Tryz.prog ΓL f [(0, Qz L m s.i), (1, Fz 2 3 4 5), (4, Xz s.xs), (5, Tz s.ts)] 6 (P0 :: xs) ((x s).tv L g) ((x s).u2 L m) (x s).n2
section
variable {L : List TokP} {m : Nat} {f : FuncId} {xs : List T1} {α : Type} {x : PM α} {g : α → TV} {s s' : PS} {v : α} {i e : Nat}
theorem C0.ok (h : C0 L m f xs x g s) (hx : x s = .ok v s') : CallsM Tryz.prog ΓL f [(0, Qz L m s.i)] 2 (P0 :: xs) (g v) [(0, Qz L m s'.i)] [] := by unfold C0 at h; rw [hx] at h; exact h
theorem C0.err (h : C0 L m f xs x g s) (hx : x s = .err i e) : CallsM Tryz.prog ΓL f [(0, Qz L m s.i)] 2 (P0 :: xs) (.pan (flt L i e)) [(0, .dead)] [] := by unfold C0 at h; rw [hx] at h; exact h
theorem C1.ok (h : C1 L m f xs x g s) (hx : x s = .ok v s') : CallsM Tryz.prog ΓL f [(0, Qz L m s.i), (1, Fz 2 3 4 5), (4, Xz s.xs)] 6 (P0 :: xs) (g v) [(0, Qz L m s'.i), (1, Fz 2 3 6 5), (4, .dead)] [Xz s'.xs] := by unfold C1 at h; rw [hx] at h; exact h
theorem C1.err (h : C1 L m f xs x g s) (hx : x s = .err i e) : CallsM Tryz.prog ΓL f [(0, Qz L m s.i), (1, Fz 2 3 4 5), (4, Xz s.xs)] 6 (P0 :: xs) (.pan (flt L i e)) [(0, .dead), (1, .dead), (4, .dead)] [] := by unfold C1 at h; rw [hx] at h; exact h
theorem C2.ok (h : C2 L m f xs x g s) (hx : x s = .ok v s') : CallsM Tryz.prog ΓL f [(0, Qz L m s.i), (1, Fz 2 3 4 5), (4, Xz s.xs), (5, Tz s.ts)] 6 (P0 :: xs) (g v) [(0, Qz L m s'.i), (1, Fz 2 3 6 7), (4, .dead), (5, .dead)] [Xz s'.xs, Tz s'.ts] := by unfold C2 at h; rw [hx] at h; exact h
theorem C2.err (h : C2 L m f xs x g s) (hx : x s = .err i e) : CallsM Tryz.prog ΓL f [(0, Qz L m s.i), (1, Fz 2 3 4 5), (4, Xz s.xs), (5, Tz s.ts)] 6 (P0 :: xs) (.pan (flt L i e)) [(0, .dead), (1, .dead), (4, .dead), (5, .dead)] [] := by unfold C2 at h; rw [hx] at h; exact h
theorem C0.of (h : ∀ T, x s = T → CallsM Tryz.prog ΓL f [(0, Qz L m s.i)] 2 (P0 :: xs) (T.tv L g) (T.u0 L m) []) : C0 L m f xs x g s := h _ rfl
theorem C1.of (h : ∀ T, x s = T → CallsM Tryz.prog ΓL f [(0, Qz L m s.i), (1, Fz 2 3 4 5), (4, Xz s.xs)] 6 (P0 :: xs) (T.tv L g) (T.u1 L m) T.n1) : C1 L m f xs x g s := h _ rfl
theorem C2.of (h : ∀ T, x s = T → CallsM Tryz.prog ΓL f [(0, Qz L m s.i), (1, Fz 2 3 4 5), (4, Xz s.xs), (5, Tz s.ts)] 6 (P0 :: xs) (T.tv L g) (T.u2 L m) T.n2) : C2 L m f xs x g s := h _ rfl
theorem Up.ok {a b c : Nat} (h : Up L x a b) (hs : SOk L (c + a) s) (hx : x s = .ok v s') : SOk L (c + b) s' ∧ s.i ≤ s'.i := by have := h s c hs; rw [hx] at this; exact this
end
section
variable {P : Program} {Γ : Glob} {f : FuncId} {nx : Nat} {xs : List T1} {r : TV} {upd : List (Nat × Blk)} {new : List Blk} {a b c d : Nat × Blk} {m : List (Nat × Blk)}
theorem CallsM.more0 (h : CallsM P Γ f [a] nx xs r upd new) : CallsM P Γ f (a :: m) nx xs r upd new := h.more fun p hp => by
 simp only [List.mem_cons, List.not_mem_nil, or_false] at hp ⊢; exact .inl hp
theorem CallsM.more1 (h : CallsM P Γ f [a, b, c] nx xs r upd new) : CallsM P Γ f (a :: b :: c :: m) nx xs r upd new := h.more fun p hp => by
 simp only [List.mem_cons, List.not_mem_nil, or_false] at hp ⊢; rcases hp with hp | hp | hp <;> simp [hp]
theorem CallsM.moreL (h : CallsM P Γ f [a, b, d] nx xs r upd new) : CallsM P Γ f (a :: b :: c :: d :: m) nx xs r upd new := h.more fun p hp => by
 simp only [List.mem_cons, List.not_mem_nil, or_false] at hp ⊢; rcases hp with hp | hp | hp <;> simp [hp]
end
theorem bsj {l m : List UInt8} : bs l = bs m ↔ l = m := ⟨fun h => by simpa [bs] using h, fun h => by rw [h]⟩
theorem at_pos {α : Type} {p : Nat → Bool} {x y : PM α} {s : PS} (h : p s.i = true) : atM p x y s = x s := if_pos h
theorem at_neg {α : Type} {p : Nat → Bool} {x y : PM α} {s : PS} (h : p s.i = false) : atM p x y s = y s := if_neg (by rw [h]; decide)

section
variable {L : List TokP} {m : Nat}
theorem tk_at {i : Nat} (h : i < L.length) : L[i]? = some (tk L i) := by
 unfold tk
 rw [List.getD_eq_getElem?_getD, List.getElem?_eq_getElem h]; rfl
theorem ahead_c (i : Nat) (h : i < L.length) : CallsM Tryz.prog ΓL 37 [(0, Qz L m i)] 2 [P0] (.o (gD (tokD (tk L i)))) [(0, Qz L m i)] [] := by
 refine fn_ruleM (C := ⟨Tryz.prog, layF, Tryz.f37.ntmps, ΓL, 2, [], []⟩) layF_ok mixed Tryz.func37 rfl (by kernel_rfl) rfl rfl rfl ?_
 repeat' (first | refine (ex_row i _ rfl (tk_at h)) ?_ | refine qg1 ?_ | refine eD ?_ ?_ <;> intro)
 exact ⟨rfl, TLe.rfl, rfl, rfl⟩
theorem fail_c (i e : Nat) (h : i < L.length) : CallsM Tryz.prog ΓL 38 [(0, Qz L m i)] 2 [P0, c1 (di e)] (.pan (flt L i e)) [(0, .dead)] [] := by
 refine fn_ruleP (C := ⟨Tryz.prog, layF, Tryz.f38.ntmps, ΓL, 2, [], []⟩) layF_ok mixed Tryz.func38 rfl (by kernel_rfl) rfl rfl rfl SLe.rfl ?_
 refine ex_callM (CallsM.ren ((ahead_c i h)) [0, 1] 2 rfl rfl rfl rfl) ?_
 repeat' (first | refine qgs ?_ | refine eD ?_ ?_ <;> intro)
 exact ⟨⟨_, rfl, rfl⟩, rfl, rfl⟩
end
end Go.Proofs.YtidnlfkakhmadaaGreatDoor

namespace Go.Proofs.YtidnlfkakhmadaaGreatDoor
open Go.RowKit

def wordF (size : Int) (little : Bool) : List UInt8 :=
 let e : List UInt8 := if little = true then [108, 101] else [98, 101]
 if size = 1 then [117, 56] else if size = 2 then [117, 49, 54] ++ e else if size = 3 then [117, 50, 52] ++ e else if size = 4 then [117, 51, 50] ++ e else if size = 8 then [117, 54, 52] ++ e else []
theorem word_c (size : Int) (little : Bool) : CallsA Tryz.prog Γ0 47 [c1 (di size), c1 (db little)] (Tstr (bs (wordF size little))) := by
 by_cases h : size = 1 ∨ size = 2 ∨ size = 3 ∨ size = 4 ∨ size = 8
 ·rcases h with rfl | rfl | rfl | rfl | rfl <;> cases little
  all_goals
   refine fn_rule (C := ⟨Tryz.prog, layF, Tryz.f47.ntmps, Γ0, 0, [], []⟩) layF_ok mixed Tryz.func47 rfl (by kernel_rfl) rfl rfl rfl ?_
   repeat' (first | refine (and_mk (by decide)) ?_ | refine qg1 ?_ | refine eD ?_ ?_ <;> intro)
   first | exact TLe.rfl | exact TLe.eq (congrArg (fun s => Tstr s) (bs_app _ _))
 ·rw [show wordF size little = [] by unfold wordF; rw [if_neg (by omega), if_neg (by omega), if_neg (by omega), if_neg (by omega), if_neg (by omega)]]
  cases little
  all_goals
   refine fn_rule (C := ⟨Tryz.prog, layF, Tryz.f47.ntmps, Γ0, 0, [], []⟩) layF_ok mixed Tryz.func47 rfl (by kernel_rfl) rfl rfl rfl ?_
   repeat' (first | refine qgs ?_ | refine eD ?_ ?_ <;> intro)
   exact TLe.rfl
theorem level_c (w : List UInt8) : CallsA Tryz.prog Γ0 120 [c1 (ds (bs w))] (Ti (levelV w)) := by
 by_cases hm : w ∈ levelsL.map (·.1)
 ·simp only [levelsL, List.map_cons, List.map_nil, List.mem_cons, List.not_mem_nil, or_false] at hm
  rcases hm with rfl | rfl | rfl | rfl | rfl | rfl | rfl | rfl | rfl | rfl | rfl | rfl | rfl | rfl | rfl | rfl | rfl
  all_goals
   refine fn_rule (C := ⟨Tryz.prog, layF, Tryz.f120.ntmps, Γ0, 0, [], []⟩) layF_ok mixed Tryz.func120 rfl (by kernel_rfl) rfl rfl rfl ?_
   repeat' (first | refine qgs ?_ | refine eD ?_ ?_ <;> intro)
   exact TLe.eq (congrArg (fun n : Nat => Ti (n : Int)) (show _ = levelV _ by decide +kernel))
 ·have hne : ∀ l, l ∈ levelsL.map (·.1) → ¬ bs w = bs l := fun l hl he => hm (by rw [bsj.1 he]; exact hl)
  have h0 : levelV w = 0 := by
   have : List.find? (fun p => p.1 == w) levelsL = none := List.find?_eq_none.2 (fun p hp he => hm (List.mem_map.2 ⟨p, hp, by simpa using he⟩))
   unfold levelV; rw [this]; rfl
  rw [h0]
  refine fn_rule (C := ⟨Tryz.prog, layF, Tryz.f120.ntmps, Γ0, 0, [], []⟩) layF_ok mixed Tryz.func120 rfl (by kernel_rfl) rfl rfl rfl ?_
  repeat' (first | refine ex_false (hne _ (by decide)) ?_ | refine qg1 ?_ | refine eD ?_ ?_ <;> intro)
  exact TLe.rfl
def szL : List Nat := [1, 2, 3, 4, 8]
theorem integer_none {w : List UInt8} (h : ∀ k, k < 5 → ∀ l, wordF (szL.getD k 0 : Nat) l ≠ w) : integerV w = none := by
 have hn : w ∉ intsL.map (·.1) := by
  intro hm
  simp only [intsL, List.map_cons, List.map_nil, List.mem_cons, List.not_mem_nil, or_false] at hm
  rcases hm with rfl | rfl | rfl | rfl | rfl | rfl | rfl | rfl | rfl
  ·exact h 0 (by decide) false rfl
  ·exact h 1 (by decide) false rfl
  ·exact h 1 (by decide) true rfl
  ·exact h 2 (by decide) false rfl
  ·exact h 2 (by decide) true rfl
  ·exact h 3 (by decide) false rfl
  ·exact h 3 (by decide) true rfl
  ·exact h 4 (by decide) false rfl
  ·exact h 4 (by decide) true rfl
 exact Option.map_eq_none_iff.2 (List.find?_eq_none.2 fun p hp he => hn (List.mem_map.2 ⟨p, hp, by simpa using he⟩))
def intTV : Option (Nat × Bool) → TV
 | some (n, l) => .tup [c1 (di n), c1 (db l), c1 (db true)]
 | none => .tup [c1 (di 0), c1 (db false), c1 (db false)]
set_option maxHeartbeats 2000000 in
theorem integer_c (w : List UInt8) : CallsA Tryz.prog Γ0 27 [c1 (ds (bs w))] (intTV (integerV w)) := by
 refine fn_rule (C := ⟨Tryz.prog, layF, Tryz.f27.ntmps, Γ0, 0, [], []⟩) layF_ok mixed Tryz.func27 rfl (by kernel_rfl) rfl rfl rfl ?_
 repeat' (first | refine qgs ?_ | refine eD ?_ ?_ <;> intro)
 refine ex_loop (X := Nat) (fun i => ⟨[(0, Tstr (bs w)), (9, .o (gD [di 1, di 2, di 3, di 4, di 8])), (10, Ti i)], [], 0⟩) (fun i => 5 - i) (fun i => i ≤ 5 ∧ ∀ k, k < i → ∀ l, wordF (szL.getD k 0 : Nat) l ≠ w) 0 ⟨by omega, fun k h => absurd h (by omega)⟩ sS ?_
 rintro i ⟨hi, hP⟩
 by_cases h5 : i = 5
 ·subst h5
  rw [integer_none hP]
  repeat' (first | refine qgs ?_ | refine eD ?_ ?_ <;> intro)
  exact TLe.rfl
 ·have key : ∀ (z : Nat), szL.getD i 0 = z → (∀ l, wordF z l ≠ w) → ∀ k, k < i + 1 → ∀ l, wordF (szL.getD k 0 : Nat) l ≠ w := fun z hz hl k hk l => by
   by_cases e : k = i
   ·subst e; rw [hz]; exact hl l
   ·exact hP k (by omega) l
  rcases (show i = 0 ∨ i = 1 ∨ i = 2 ∨ i = 3 ∨ i = 4 by omega) with rfl | rfl | rfl | rfl | rfl
  ·repeat' (first | refine (ex_is ([.d (di 1)] : List CV) rfl) ?_ | refine qg1 ?_ | refine eD ?_ ?_ <;> intro)
   refine ex_loop (X := Nat) (fun j => ⟨[(0, Tstr (bs w)), (6, Ti 1), (9, .o (gD [di 1, di 2, di 3, di 4, di 8])), (10, Ti 0), (13, .o (gD [db false, db true])), (14, Ti j)], [], 0⟩) (fun j => 2 - j) (fun j => j ≤ 2 ∧ (0 < j → wordF 1 false ≠ w) ∧ (1 < j → wordF 1 true ≠ w)) 0 ⟨by omega, fun h => absurd h (by omega), fun h => absurd h (by omega)⟩ sS ?_
   rintro j ⟨hj, q0, q1⟩
   rcases (show j = 0 ∨ j = 1 ∨ j = 2 by omega) with rfl | rfl | rfl
   ·repeat' (first | refine ex_call (word_c 1 false) ?_ | refine (ex_is ([.d (db false)] : List CV) rfl) ?_ | refine qg1 ?_ | refine eD ?_ ?_ <;> intro)
    ·rename_i e
     obtain rfl := bsj.1 e
     exact TLe.rfl
    ·rename_i e
     exact ex_round 1 ⟨by omega, fun _ h => e (by rw [h]), fun h => absurd h (by omega)⟩ (by show 2 - 1 < 2 - 0; decide) sS
   ·repeat' (first | refine ex_call (word_c 1 true) ?_ | refine (ex_is ([.d (db true)] : List CV) rfl) ?_ | refine qg1 ?_ | refine eD ?_ ?_ <;> intro)
    ·rename_i e
     obtain rfl := bsj.1 e
     first | exact TLe.rfl | exact absurd rfl (q0 (by omega))
    ·rename_i e
     exact ex_round 2 ⟨by omega, fun _ => q0 (by omega), fun _ h => e (by rw [h])⟩ (by show 2 - 2 < 2 - 1; decide) sS
   ·repeat' (first | refine qgs ?_ | refine eD ?_ ?_ <;> intro)
    exact ex_round (0 + 1) ⟨by omega, key 1 (by decide) fun l => by cases l; exact q0 (by omega); exact q1 (by omega)⟩ (by show 5 - (0 + 1) < 5 - 0; omega) sS
  ·repeat' (first | refine (ex_is ([.d (di 2)] : List CV) rfl) ?_ | refine qg1 ?_ | refine eD ?_ ?_ <;> intro)
   refine ex_loop (X := Nat) (fun j => ⟨[(0, Tstr (bs w)), (6, Ti 2), (9, .o (gD [di 1, di 2, di 3, di 4, di 8])), (10, Ti 1), (13, .o (gD [db false, db true])), (14, Ti j)], [], 0⟩) (fun j => 2 - j) (fun j => j ≤ 2 ∧ (0 < j → wordF 2 false ≠ w) ∧ (1 < j → wordF 2 true ≠ w)) 0 ⟨by omega, fun h => absurd h (by omega), fun h => absurd h (by omega)⟩ sS ?_
   rintro j ⟨hj, q0, q1⟩
   rcases (show j = 0 ∨ j = 1 ∨ j = 2 by omega) with rfl | rfl | rfl
   ·repeat' (first | refine ex_call (word_c 2 false) ?_ | refine (ex_is ([.d (db false)] : List CV) rfl) ?_ | refine qg1 ?_ | refine eD ?_ ?_ <;> intro)
    ·rename_i e
     obtain rfl := bsj.1 e
     exact TLe.rfl
    ·rename_i e
     exact ex_round 1 ⟨by omega, fun _ h => e (by rw [h]), fun h => absurd h (by omega)⟩ (by show 2 - 1 < 2 - 0; decide) sS
   ·repeat' (first | refine ex_call (word_c 2 true) ?_ | refine (ex_is ([.d (db true)] : List CV) rfl) ?_ | refine qg1 ?_ | refine eD ?_ ?_ <;> intro)
    ·rename_i e
     obtain rfl := bsj.1 e
     first | exact TLe.rfl | exact absurd rfl (q0 (by omega))
    ·rename_i e
     exact ex_round 2 ⟨by omega, fun _ => q0 (by omega), fun _ h => e (by rw [h])⟩ (by show 2 - 2 < 2 - 1; decide) sS
   ·repeat' (first | refine qgs ?_ | refine eD ?_ ?_ <;> intro)
    exact ex_round (1 + 1) ⟨by omega, key 2 (by decide) fun l => by cases l; exact q0 (by omega); exact q1 (by omega)⟩ (by show 5 - (1 + 1) < 5 - 1; omega) sS
  ·repeat' (first | refine (ex_is ([.d (di 3)] : List CV) rfl) ?_ | refine qg1 ?_ | refine eD ?_ ?_ <;> intro)
   refine ex_loop (X := Nat) (fun j => ⟨[(0, Tstr (bs w)), (6, Ti 3), (9, .o (gD [di 1, di 2, di 3, di 4, di 8])), (10, Ti 2), (13, .o (gD [db false, db true])), (14, Ti j)], [], 0⟩) (fun j => 2 - j) (fun j => j ≤ 2 ∧ (0 < j → wordF 3 false ≠ w) ∧ (1 < j → wordF 3 true ≠ w)) 0 ⟨by omega, fun h => absurd h (by omega), fun h => absurd h (by omega)⟩ sS ?_
   rintro j ⟨hj, q0, q1⟩
   rcases (show j = 0 ∨ j = 1 ∨ j = 2 by omega) with rfl | rfl | rfl
   ·repeat' (first | refine ex_call (word_c 3 false) ?_ | refine (ex_is ([.d (db false)] : List CV) rfl) ?_ | refine qg1 ?_ | refine eD ?_ ?_ <;> intro)
    ·rename_i e
     obtain rfl := bsj.1 e
     exact TLe.rfl
    ·rename_i e
     exact ex_round 1 ⟨by omega, fun _ h => e (by rw [h]), fun h => absurd h (by omega)⟩ (by show 2 - 1 < 2 - 0; decide) sS
   ·repeat' (first | refine ex_call (word_c 3 true) ?_ | refine (ex_is ([.d (db true)] : List CV) rfl) ?_ | refine qg1 ?_ | refine eD ?_ ?_ <;> intro)
    ·rename_i e
     obtain rfl := bsj.1 e
     first | exact TLe.rfl | exact absurd rfl (q0 (by omega))
    ·rename_i e
     exact ex_round 2 ⟨by omega, fun _ => q0 (by omega), fun _ h => e (by rw [h])⟩ (by show 2 - 2 < 2 - 1; decide) sS
   ·repeat' (first | refine qgs ?_ | refine eD ?_ ?_ <;> intro)
    exact ex_round (2 + 1) ⟨by omega, key 3 (by decide) fun l => by cases l; exact q0 (by omega); exact q1 (by omega)⟩ (by show 5 - (2 + 1) < 5 - 2; omega) sS
  ·repeat' (first | refine (ex_is ([.d (di 4)] : List CV) rfl) ?_ | refine qg1 ?_ | refine eD ?_ ?_ <;> intro)
   refine ex_loop (X := Nat) (fun j => ⟨[(0, Tstr (bs w)), (6, Ti 4), (9, .o (gD [di 1, di 2, di 3, di 4, di 8])), (10, Ti 3), (13, .o (gD [db false, db true])), (14, Ti j)], [], 0⟩) (fun j => 2 - j) (fun j => j ≤ 2 ∧ (0 < j → wordF 4 false ≠ w) ∧ (1 < j → wordF 4 true ≠ w)) 0 ⟨by omega, fun h => absurd h (by omega), fun h => absurd h (by omega)⟩ sS ?_
   rintro j ⟨hj, q0, q1⟩
   rcases (show j = 0 ∨ j = 1 ∨ j = 2 by omega) with rfl | rfl | rfl
   ·repeat' (first | refine ex_call (word_c 4 false) ?_ | refine (ex_is ([.d (db false)] : List CV) rfl) ?_ | refine qg1 ?_ | refine eD ?_ ?_ <;> intro)
    ·rename_i e
     obtain rfl := bsj.1 e
     exact TLe.rfl
    ·rename_i e
     exact ex_round 1 ⟨by omega, fun _ h => e (by rw [h]), fun h => absurd h (by omega)⟩ (by show 2 - 1 < 2 - 0; decide) sS
   ·repeat' (first | refine ex_call (word_c 4 true) ?_ | refine (ex_is ([.d (db true)] : List CV) rfl) ?_ | refine qg1 ?_ | refine eD ?_ ?_ <;> intro)
    ·rename_i e
     obtain rfl := bsj.1 e
     first | exact TLe.rfl | exact absurd rfl (q0 (by omega))
    ·rename_i e
     exact ex_round 2 ⟨by omega, fun _ => q0 (by omega), fun _ h => e (by rw [h])⟩ (by show 2 - 2 < 2 - 1; decide) sS
   ·repeat' (first | refine qgs ?_ | refine eD ?_ ?_ <;> intro)
    exact ex_round (3 + 1) ⟨by omega, key 4 (by decide) fun l => by cases l; exact q0 (by omega); exact q1 (by omega)⟩ (by show 5 - (3 + 1) < 5 - 3; omega) sS
  ·repeat' (first | refine (ex_is ([.d (di 8)] : List CV) rfl) ?_ | refine qg1 ?_ | refine eD ?_ ?_ <;> intro)
   refine ex_loop (X := Nat) (fun j => ⟨[(0, Tstr (bs w)), (6, Ti 8), (9, .o (gD [di 1, di 2, di 3, di 4, di 8])), (10, Ti 4), (13, .o (gD [db false, db true])), (14, Ti j)], [], 0⟩) (fun j => 2 - j) (fun j => j ≤ 2 ∧ (0 < j → wordF 8 false ≠ w) ∧ (1 < j → wordF 8 true ≠ w)) 0 ⟨by omega, fun h => absurd h (by omega), fun h => absurd h (by omega)⟩ sS ?_
   rintro j ⟨hj, q0, q1⟩
   rcases (show j = 0 ∨ j = 1 ∨ j = 2 by omega) with rfl | rfl | rfl
   ·repeat' (first | refine ex_call (word_c 8 false) ?_ | refine (ex_is ([.d (db false)] : List CV) rfl) ?_ | refine qg1 ?_ | refine eD ?_ ?_ <;> intro)
    ·rename_i e
     obtain rfl := bsj.1 e
     exact TLe.rfl
    ·rename_i e
     exact ex_round 1 ⟨by omega, fun _ h => e (by rw [h]), fun h => absurd h (by omega)⟩ (by show 2 - 1 < 2 - 0; decide) sS
   ·repeat' (first | refine ex_call (word_c 8 true) ?_ | refine (ex_is ([.d (db true)] : List CV) rfl) ?_ | refine qg1 ?_ | refine eD ?_ ?_ <;> intro)
    ·rename_i e
     obtain rfl := bsj.1 e
     first | exact TLe.rfl | exact absurd rfl (q0 (by omega))
    ·rename_i e
     exact ex_round 2 ⟨by omega, fun _ => q0 (by omega), fun _ h => e (by rw [h])⟩ (by show 2 - 2 < 2 - 1; decide) sS
   ·repeat' (first | refine qgs ?_ | refine eD ?_ ?_ <;> intro)
    exact ex_round (4 + 1) ⟨by omega, key 8 (by decide) fun l => by cases l; exact q0 (by omega); exact q1 (by omega)⟩ (by show 5 - (4 + 1) < 5 - 4; omega) sS
theorem key_c (w : List UInt8) :
  CallsA Tryz.prog Γ0 11 [c1 (ds (bs w))] (Tb (keyV w)) := by
 by_cases hm : w ∈ keysL
 ·rw [show keyV w = true by unfold keyV; rw [List.contains_iff_mem.2 hm]; rfl]
  simp only [keysL, List.mem_cons, List.not_mem_nil, or_false] at hm
  rcases hm with rfl | rfl | rfl | rfl | rfl | rfl | rfl | rfl | rfl | rfl | rfl | rfl | rfl | rfl | rfl | rfl | rfl | rfl | rfl
  all_goals
   refine fn_rule (C := ⟨Tryz.prog, layF, Tryz.f11.ntmps, Γ0, 0, [], []⟩) layF_ok mixed Tryz.func11 rfl (by kernel_rfl) rfl rfl rfl ?_
   repeat' (first | refine qgs ?_ | refine eD ?_ ?_ <;> intro)
   exact TLe.rfl
 ·have hne : ∀ l, l ∈ keysL → ¬ bs w = bs l := fun l hl he => hm (by rw [bsj.1 he]; exact hl)
  have hk : keyV w = (integerV w).isSome := by unfold keyV; rw [show keysL.contains w = false by simpa using hm]; rfl
  rw [hk]
  have hc := integer_c w
  rcases hv : integerV w with _ | ⟨n, l⟩ <;> rw [hv] at hc
  ·have hc : CallsA Tryz.prog Γ0 27 [c1 (ds (bs w))] (.tup [c1 (di 0), c1 (db false), c1 (db false)]) := hc
   refine fn_rule (C := ⟨Tryz.prog, layF, Tryz.f11.ntmps, Γ0, 0, [], []⟩) layF_ok mixed Tryz.func11 rfl (by kernel_rfl) rfl rfl rfl ?_
   repeat' (first | refine ex_call hc ?_ | refine ex_false (hne _ (by decide)) ?_ | refine qg1 ?_ | refine eD ?_ ?_ <;> intro)
   exact TLe.rfl
  ·have hc : CallsA Tryz.prog Γ0 27 [c1 (ds (bs w))] (.tup [c1 (di n), c1 (db l), c1 (db true)]) := hc
   refine fn_rule (C := ⟨Tryz.prog, layF, Tryz.f11.ntmps, Γ0, 0, [], []⟩) layF_ok mixed Tryz.func11 rfl (by kernel_rfl) rfl rfl rfl ?_
   repeat' (first | refine ex_call hc ?_ | refine ex_false (hne _ (by decide)) ?_ | refine qg1 ?_ | refine eD ?_ ?_ <;> intro)
   exact TLe.rfl
end Go.Proofs.YtidnlfkakhmadaaGreatDoor

namespace Go.Proofs.YtidnlfkakhmadaaGreatDoor
open Go.RowKit

section
variable {L : List TokP} {m : Nat}
theorem is_c (i : Nat) (h : i < L.length) (t : List UInt8) : CallsM Tryz.prog ΓL 33 [(0, Qz L m i)] 2 [P0, c1 (ds (bs t))] (Tb (isV L i t)) [(0, Qz L m i)] [] := by
 have ha := ahead_c (L := L) (m := m) i h
 obtain ⟨R, hR⟩ : ∃ R, isV L i t = R := ⟨_, rfl⟩
 rw [hR]
 unfold isV at hR
 generalize tk L i = u at *
 by_cases hk : u.k = 3
 ·obtain rfl : false = R := by rw [← hR]; simp [hk]
  refine fn_ruleM (C := ⟨Tryz.prog, layF, Tryz.f33.ntmps, ΓL, 2, [], []⟩) layF_ok mixed Tryz.func33 rfl (by kernel_rfl) rfl rfl rfl ?_
  refine ex_callM (CallsM.ren (ha) [0, 1] 2 rfl rfl rfl rfl) ?_
  repeat' (first | refine qgs ?_ | refine eD ?_ ?_ <;> intro)
  exact ⟨rfl, TLe.rfl, rfl, rfl⟩
 ·by_cases ht : u.t = t
  ·obtain rfl : true = R := by rw [← hR]; simp [hk, ht]
   refine fn_ruleM (C := ⟨Tryz.prog, layF, Tryz.f33.ntmps, ΓL, 2, [], []⟩) layF_ok mixed Tryz.func33 rfl (by kernel_rfl) rfl rfl rfl ?_
   refine ex_callM (CallsM.ren (ha) [0, 1] 2 rfl rfl rfl rfl) ?_
   repeat' (first | refine qgs ?_ | refine eD ?_ ?_ <;> intro)
   refine ex_callM (CallsM.ren (ha) [0, 1] 2 rfl rfl rfl rfl) ?_
   refine ex_true (by rw [ht]) ?_
   repeat' (first | refine qgs ?_ | refine eD ?_ ?_ <;> intro)
   exact ⟨rfl, TLe.rfl, rfl, rfl⟩
  ·obtain rfl : false = R := by rw [← hR]; simp [hk, ht]
   refine fn_ruleM (C := ⟨Tryz.prog, layF, Tryz.f33.ntmps, ΓL, 2, [], []⟩) layF_ok mixed Tryz.func33 rfl (by kernel_rfl) rfl rfl rfl ?_
   refine ex_callM (CallsM.ren (ha) [0, 1] 2 rfl rfl rfl rfl) ?_
   repeat' (first | refine qgs ?_ | refine eD ?_ ?_ <;> intro)
   refine ex_callM (CallsM.ren (ha) [0, 1] 2 rfl rfl rfl rfl) ?_
   refine ex_false (fun e => ht (bsj.1 e)) ?_
   repeat' (first | refine qgs ?_ | refine eD ?_ ?_ <;> intro)
   exact ⟨rfl, TLe.rfl, rfl, rfl⟩
theorem take_c (s : PS) (h : s.i < L.length) (hn : L.length ≤ 1000000) (t : List UInt8) : C0 L m 54 [c1 (ds (bs t))] (takeM L t) (fun _ => .tup []) s := by
 have hi := is_c (m := m) s.i h t
 refine C0.of fun T hT => ?_
 unfold takeM at hT
 rcases hv : isV L s.i t with _ | _ <;> rw [hv] at hi hT
 ·obtain rfl : PR.err s.i 4 = T := hT
  refine fn_ruleP (C := ⟨Tryz.prog, layF, Tryz.f54.ntmps, ΓL, 2, [], []⟩) layF_ok mixed Tryz.func54 rfl (by kernel_rfl) rfl rfl rfl SLe.rfl ?_
  refine ex_callM (CallsM.ren (hi) [0, 1] 2 rfl rfl rfl rfl) ?_
  repeat' (first | refine qgs ?_ | refine eD ?_ ?_ <;> intro)
  refine ex_callM (CallsM.ren ((fail_c s.i 4 h)) [0, 1] 2 rfl rfl rfl rfl) ?_
  exact ⟨⟨_, rfl, rfl⟩, rfl, rfl⟩
 ·obtain rfl : PR.ok () { s with i := s.i + 1 } = T := hT
  refine fn_ruleP (C := ⟨Tryz.prog, layF, Tryz.f54.ntmps, ΓL, 2, [], []⟩) layF_ok mixed Tryz.func54 rfl (by kernel_rfl) rfl rfl rfl SLe.rfl ?_
  refine ex_callM (CallsM.ren (hi) [0, 1] 2 rfl rfl rfl rfl) ?_
  repeat' (first | refine aI ((s.i + 1 : Nat) : Int) ?_ | refine aU ((s.i + 1 : Nat) : Int) ?_ | refine aB ((s.i + 1 : Nat) : Int) ?_ | refine qg1 ?_ | refine eD ?_ ?_ <;> intro)
  exact ⟨rfl, TLe.rfl, rfl, rfl⟩
theorem may_yes (i : Nat) (h : i < L.length) (hn : L.length ≤ 1000000) (t : List UInt8) (hv : isV L i t = true) : CallsM Tryz.prog ΓL 57 [(0, Qz L m i)] 2 [P0, c1 (ds (bs t))] (Tb true) [(0, Qz L m (i + 1))] [] := by
 have hi := is_c (m := m) i h t
 rw [hv] at hi
 refine fn_ruleM (C := ⟨Tryz.prog, layF, Tryz.f57.ntmps, ΓL, 2, [], []⟩) layF_ok mixed Tryz.func57 rfl (by kernel_rfl) rfl rfl rfl ?_
 refine ex_callM (CallsM.ren (hi) [0, 1] 2 rfl rfl rfl rfl) ?_
 repeat' (first | refine aI ((i + 1 : Nat) : Int) ?_ | refine aU ((i + 1 : Nat) : Int) ?_ | refine aB ((i + 1 : Nat) : Int) ?_ | refine qg1 ?_ | refine eD ?_ ?_ <;> intro)
 exact ⟨rfl, TLe.rfl, rfl, rfl⟩
theorem may_no (i : Nat) (h : i < L.length) (t : List UInt8) (hv : isV L i t = false) : CallsM Tryz.prog ΓL 57 [(0, Qz L m i)] 2 [P0, c1 (ds (bs t))] (Tb false) [(0, Qz L m i)] [] := by
 have hi := is_c (m := m) i h t
 rw [hv] at hi
 refine fn_ruleM (C := ⟨Tryz.prog, layF, Tryz.f57.ntmps, ΓL, 2, [], []⟩) layF_ok mixed Tryz.func57 rfl (by kernel_rfl) rfl rfl rfl ?_
 refine ex_callM (CallsM.ren (hi) [0, 1] 2 rfl rfl rfl rfl) ?_
 repeat' (first | refine qgs ?_ | refine eD ?_ ?_ <;> intro)
 exact ⟨rfl, TLe.rfl, rfl, rfl⟩
theorem named_c (i : Nat) (h : i < L.length) : CallsM Tryz.prog ΓL 58 [(0, Qz L m i)] 2 [P0] (Tb (namedV L i)) [(0, Qz L m i)] [] := by
 have ha := ahead_c (L := L) (m := m) i h
 obtain ⟨R, hR⟩ : ∃ R, namedV L i = R := ⟨_, rfl⟩
 rw [hR]
 unfold namedV at hR
 generalize tk L i = u at *
 have hk := (key_c u.t).gL
 generalize keyV u.t = q at *
 by_cases h0 : u.k = 0
 ·obtain rfl : (!q) = R := by rw [← hR, decide_eq_true h0]; rfl
  cases q
  all_goals
   refine fn_ruleM (C := ⟨Tryz.prog, layF, Tryz.f58.ntmps, ΓL, 2, [], []⟩) layF_ok mixed Tryz.func58 rfl (by kernel_rfl) rfl rfl rfl ?_
   refine ex_callM (CallsM.ren (ha) [0, 1] 2 rfl rfl rfl rfl) ?_
   repeat' (first | refine qgs ?_ | refine eD ?_ ?_ <;> intro)
   refine ex_callM (CallsM.ren (ha) [0, 1] 2 rfl rfl rfl rfl) ?_
   repeat' (first | refine ex_call hk ?_ | refine qg1 ?_ | refine eD ?_ ?_ <;> intro)
   exact ⟨rfl, TLe.rfl, rfl, rfl⟩
 ·obtain rfl : false = R := by rw [← hR, decide_eq_false h0]; rfl
  refine fn_ruleM (C := ⟨Tryz.prog, layF, Tryz.f58.ntmps, ΓL, 2, [], []⟩) layF_ok mixed Tryz.func58 rfl (by kernel_rfl) rfl rfl rfl ?_
  refine ex_callM (CallsM.ren (ha) [0, 1] 2 rfl rfl rfl rfl) ?_
  repeat' (first | refine qgs ?_ | refine eD ?_ ?_ <;> intro)
  exact ⟨rfl, TLe.rfl, rfl, rfl⟩
theorem name_c (s : PS) (h : s.i < L.length) (hn : L.length ≤ 1000000) : C0 L m 55 [] (nameM L) (fun w => Tstr (bs w)) s := by
 have hi := named_c (m := m) s.i h
 refine C0.of fun T hT => ?_
 unfold nameM at hT
 rcases hv : namedV L s.i with _ | _ <;> rw [hv] at hi hT
 ·obtain rfl : PR.err s.i 4 = T := hT
  refine fn_ruleP (C := ⟨Tryz.prog, layF, Tryz.f55.ntmps, ΓL, 2, [], []⟩) layF_ok mixed Tryz.func55 rfl (by kernel_rfl) rfl rfl rfl SLe.rfl ?_
  refine ex_callM (CallsM.ren (hi) [0, 1] 2 rfl rfl rfl rfl) ?_
  repeat' (first | refine qgs ?_ | refine eD ?_ ?_ <;> intro)
  refine ex_callM (CallsM.ren ((fail_c s.i 4 h)) [0, 1] 2 rfl rfl rfl rfl) ?_
  exact ⟨⟨_, rfl, rfl⟩, rfl, rfl⟩
 ·obtain rfl : PR.ok (tk L s.i).t { s with i := s.i + 1 } = T := hT
  refine fn_ruleP (C := ⟨Tryz.prog, layF, Tryz.f55.ntmps, ΓL, 2, [], []⟩) layF_ok mixed Tryz.func55 rfl (by kernel_rfl) rfl rfl rfl SLe.rfl ?_
  refine ex_callM (CallsM.ren (hi) [0, 1] 2 rfl rfl rfl rfl) ?_
  repeat' (first | refine aI ((s.i : Nat) : Int) ?_ | refine aU ((s.i : Nat) : Int) ?_ | refine aB ((s.i : Nat) : Int) ?_ | refine aI ((s.i + 1 : Nat) : Int) ?_ | refine aU ((s.i + 1 : Nat) : Int) ?_ | refine aB ((s.i + 1 : Nat) : Int) ?_ | refine (ex_row s.i _ rfl (tk_at h)) ?_ | refine qg1 ?_ | refine eD ?_ ?_ <;> intro)
  exact ⟨rfl, TLe.rfl, rfl, rfl⟩
theorem num_c (s : PS) (h : s.i < L.length) (hn : L.length ≤ 1000000) : C0 L m 56 [] (numberM L) (fun n => Tu n) s := by
 have ha := ahead_c (L := L) (m := m) s.i h
 refine C0.of fun T hT => ?_
 unfold numberM at hT
 by_cases hv : (tk L s.i).k = 1
 ·rw [if_pos hv] at hT
  subst hT
  refine fn_ruleP (C := ⟨Tryz.prog, layF, Tryz.f56.ntmps, ΓL, 2, [], []⟩) layF_ok mixed Tryz.func56 rfl (by kernel_rfl) rfl rfl rfl SLe.rfl ?_
  refine ex_callM (CallsM.ren (ha) [0, 1] 2 rfl rfl rfl rfl) ?_
  repeat' (first | refine aI ((s.i : Nat) : Int) ?_ | refine aU ((s.i : Nat) : Int) ?_ | refine aB ((s.i : Nat) : Int) ?_ | refine aI ((s.i + 1 : Nat) : Int) ?_ | refine aU ((s.i + 1 : Nat) : Int) ?_ | refine aB ((s.i + 1 : Nat) : Int) ?_ | refine (ex_row s.i _ rfl (tk_at h)) ?_ | refine qg1 ?_ | refine eD ?_ ?_ <;> intro)
  exact ⟨rfl, TLe.rfl, rfl, rfl⟩
 ·rw [if_neg hv] at hT
  obtain rfl : PR.err s.i 4 = T := hT
  refine fn_ruleP (C := ⟨Tryz.prog, layF, Tryz.f56.ntmps, ΓL, 2, [], []⟩) layF_ok mixed Tryz.func56 rfl (by kernel_rfl) rfl rfl rfl SLe.rfl ?_
  refine ex_callM (CallsM.ren (ha) [0, 1] 2 rfl rfl rfl rfl) ?_
  repeat' (first | refine qgs ?_ | refine eD ?_ ?_ <;> intro)
  refine ex_callM (CallsM.ren ((fail_c s.i 4 h)) [0, 1] 2 rfl rfl rfl rfl) ?_
  exact ⟨⟨_, rfl, rfl⟩, rfl, rfl⟩
theorem room_c (s : PS) (h : s.i < L.length) (n : Nat) (hn : n ≤ 1000000) : C0 L m 34 [c1 (di n), c1 (di 64)] (roomM n) (fun _ => .tup []) s := by
 refine C0.of fun T hT => ?_
 unfold roomM at hT
 by_cases hv : 64 ≤ n
 ·rw [if_pos hv] at hT
  obtain rfl : PR.err s.i 10 = T := hT
  refine fn_ruleP (C := ⟨Tryz.prog, layF, Tryz.f34.ntmps, ΓL, 2, [], []⟩) layF_ok mixed Tryz.func34 rfl (by kernel_rfl) rfl rfl rfl SLe.rfl ?_
  repeat' (first | refine qgs ?_ | refine eD ?_ ?_ <;> intro)
  refine ex_callM (CallsM.ren ((fail_c s.i 10 h)) [0, 1] 2 rfl rfl rfl rfl) ?_
  exact ⟨⟨_, rfl, rfl⟩, rfl, rfl⟩
 ·rw [if_neg hv] at hT
  subst hT
  refine fn_ruleP (C := ⟨Tryz.prog, layF, Tryz.f34.ntmps, ΓL, 2, [], []⟩) layF_ok mixed Tryz.func34 rfl (by kernel_rfl) rfl rfl rfl SLe.rfl ?_
  repeat' (first | refine qgs ?_ | refine eD ?_ ?_ <;> intro)
  exact ⟨rfl, TLe.rfl, rfl, rfl⟩
theorem begins_c (i : Nat) (h : i < L.length) : CallsM Tryz.prog ΓL 118 [(0, Qz L m i)] 2 [P0] (Tb (beginsV L i)) [(0, Qz L m i)] [] := by
 have ha := ahead_c (L := L) (m := m) i h
 have h1 := is_c (m := m) i h t_bang
 have h2 := is_c (m := m) i h t_lpar
 have h3 := named_c (m := m) i h
 unfold beginsV
 generalize isV L i t_bang = a at *
 generalize isV L i t_lpar = b at *
 generalize namedV L i = c at *
 generalize tk L i = u at *
 cases a
 ·cases b
  ·cases c
   ·by_cases h4 : u.k = 1
    ·rw [decide_eq_true h4]
     refine fn_ruleM (C := ⟨Tryz.prog, layF, Tryz.f118.ntmps, ΓL, 2, [], []⟩) layF_ok mixed Tryz.func118 rfl (by kernel_rfl) rfl rfl rfl ?_
     refine ex_callM (CallsM.ren (h1) [0, 1] 2 rfl rfl rfl rfl) ?_
     repeat' (first | refine qgs ?_ | refine eD ?_ ?_ <;> intro)
     refine ex_callM (CallsM.ren (h2) [0, 1] 2 rfl rfl rfl rfl) ?_
     repeat' (first | refine qgs ?_ | refine eD ?_ ?_ <;> intro)
     refine ex_callM (CallsM.ren (h3) [0, 1] 2 rfl rfl rfl rfl) ?_
     repeat' (first | refine qgs ?_ | refine eD ?_ ?_ <;> intro)
     refine ex_callM (CallsM.ren (ha) [0, 1] 2 rfl rfl rfl rfl) ?_
     repeat' (first | refine qgs ?_ | refine eD ?_ ?_ <;> intro)
     exact ⟨rfl, TLe.rfl, rfl, rfl⟩
    ·rw [decide_eq_false h4]
     refine fn_ruleM (C := ⟨Tryz.prog, layF, Tryz.f118.ntmps, ΓL, 2, [], []⟩) layF_ok mixed Tryz.func118 rfl (by kernel_rfl) rfl rfl rfl ?_
     refine ex_callM (CallsM.ren (h1) [0, 1] 2 rfl rfl rfl rfl) ?_
     repeat' (first | refine qgs ?_ | refine eD ?_ ?_ <;> intro)
     refine ex_callM (CallsM.ren (h2) [0, 1] 2 rfl rfl rfl rfl) ?_
     repeat' (first | refine qgs ?_ | refine eD ?_ ?_ <;> intro)
     refine ex_callM (CallsM.ren (h3) [0, 1] 2 rfl rfl rfl rfl) ?_
     repeat' (first | refine qgs ?_ | refine eD ?_ ?_ <;> intro)
     refine ex_callM (CallsM.ren (ha) [0, 1] 2 rfl rfl rfl rfl) ?_
     repeat' (first | refine qgs ?_ | refine eD ?_ ?_ <;> intro)
     exact ⟨rfl, TLe.rfl, rfl, rfl⟩
   ·
    refine fn_ruleM (C := ⟨Tryz.prog, layF, Tryz.f118.ntmps, ΓL, 2, [], []⟩) layF_ok mixed Tryz.func118 rfl (by kernel_rfl) rfl rfl rfl ?_
    refine ex_callM (CallsM.ren (h1) [0, 1] 2 rfl rfl rfl rfl) ?_
    repeat' (first | refine qgs ?_ | refine eD ?_ ?_ <;> intro)
    refine ex_callM (CallsM.ren (h2) [0, 1] 2 rfl rfl rfl rfl) ?_
    repeat' (first | refine qgs ?_ | refine eD ?_ ?_ <;> intro)
    refine ex_callM (CallsM.ren (h3) [0, 1] 2 rfl rfl rfl rfl) ?_
    repeat' (first | refine qgs ?_ | refine eD ?_ ?_ <;> intro)
    exact ⟨rfl, TLe.rfl, rfl, rfl⟩
  ·
   refine fn_ruleM (C := ⟨Tryz.prog, layF, Tryz.f118.ntmps, ΓL, 2, [], []⟩) layF_ok mixed Tryz.func118 rfl (by kernel_rfl) rfl rfl rfl ?_
   refine ex_callM (CallsM.ren (h1) [0, 1] 2 rfl rfl rfl rfl) ?_
   repeat' (first | refine qgs ?_ | refine eD ?_ ?_ <;> intro)
   refine ex_callM (CallsM.ren (h2) [0, 1] 2 rfl rfl rfl rfl) ?_
   repeat' (first | refine qgs ?_ | refine eD ?_ ?_ <;> intro)
   exact ⟨rfl, TLe.rfl, rfl, rfl⟩
 ·
  refine fn_ruleM (C := ⟨Tryz.prog, layF, Tryz.f118.ntmps, ΓL, 2, [], []⟩) layF_ok mixed Tryz.func118 rfl (by kernel_rfl) rfl rfl rfl ?_
  refine ex_callM (CallsM.ren (h1) [0, 1] 2 rfl rfl rfl rfl) ?_
  repeat' (first | refine qgs ?_ | refine eD ?_ ?_ <;> intro)
  exact ⟨rfl, TLe.rfl, rfl, rfl⟩
set_option maxHeartbeats 4000000 in
theorem starts_c (i : Nat) (h : i < L.length) : CallsM Tryz.prog ΓL 95 [(0, Qz L m i)] 2 [P0] (Tb (startsV L i)) [(0, Qz L m i)] [] := by
 have ha := ahead_c (L := L) (m := m) i h
 have h3 := named_c (m := m) i h
 unfold startsV
 generalize namedV L i = c at *
 generalize tk L i = u at *
 obtain ⟨w, hw⟩ : ∃ w, u.t = w := ⟨_, rfl⟩
 simp only [tokD, hw] at ha
 rw [hw]
 cases c
 ·rw [Bool.false_or]
  by_cases h4 : u.k = 0
  ·rw [decide_eq_true h4, Bool.true_and]
   by_cases hm : w ∈ typesL
   ·rw [List.contains_iff_mem.2 hm, Bool.true_or]
    simp only [typesL, List.mem_cons, List.not_mem_nil, or_false] at hm
    rcases hm with rfl | rfl | rfl | rfl | rfl | rfl | rfl | rfl | rfl
    all_goals
     refine fn_ruleM (C := ⟨Tryz.prog, layF, Tryz.f95.ntmps, ΓL, 2, [], []⟩) layF_ok mixed Tryz.func95 rfl (by kernel_rfl) rfl rfl rfl ?_
     refine ex_callM (CallsM.ren (h3) [0, 1] 2 rfl rfl rfl rfl) ?_
     repeat' (first | refine qgs ?_ | refine eD ?_ ?_ <;> intro)
     refine ex_callM (CallsM.ren (ha) [0, 1] 2 rfl rfl rfl rfl) ?_
     repeat' (first | refine qgs ?_ | refine eD ?_ ?_ <;> intro)
     refine ex_callM (CallsM.ren (ha) [0, 1] 2 rfl rfl rfl rfl) ?_
     repeat' (first | refine qgs ?_ | refine eD ?_ ?_ <;> intro)
     exact ⟨rfl, TLe.rfl, rfl, rfl⟩
   ·have hne : ∀ l, l ∈ typesL → ¬ bs w = bs l := fun l hl he => hm (by rw [bsj.1 he]; exact hl)
    rw [show typesL.contains w = false by simpa using hm, Bool.false_or]
    have hc := (integer_c w).gL
    rcases hv : integerV w with _ | ⟨n, l⟩ <;> rw [hv] at hc
    ·have hc : CallsA Tryz.prog ΓL 27 [c1 (ds (bs w))] (.tup [c1 (di 0), c1 (db false), c1 (db false)]) := hc
     refine fn_ruleM (C := ⟨Tryz.prog, layF, Tryz.f95.ntmps, ΓL, 2, [], []⟩) layF_ok mixed Tryz.func95 rfl (by kernel_rfl) rfl rfl rfl ?_
     refine ex_callM (CallsM.ren (h3) [0, 1] 2 rfl rfl rfl rfl) ?_
     repeat' (first | refine qgs ?_ | refine eD ?_ ?_ <;> intro)
     refine ex_callM (CallsM.ren (ha) [0, 1] 2 rfl rfl rfl rfl) ?_
     repeat' (first | refine qgs ?_ | refine eD ?_ ?_ <;> intro)
     refine ex_callM (CallsM.ren (ha) [0, 1] 2 rfl rfl rfl rfl) ?_
     repeat' (first | refine ex_call hc ?_ | refine ex_false (hne _ (by decide)) ?_ | refine qg1 ?_ | refine eD ?_ ?_ <;> intro)
     exact ⟨rfl, TLe.rfl, rfl, rfl⟩
    ·have hc : CallsA Tryz.prog ΓL 27 [c1 (ds (bs w))] (.tup [c1 (di n), c1 (db l), c1 (db true)]) := hc
     refine fn_ruleM (C := ⟨Tryz.prog, layF, Tryz.f95.ntmps, ΓL, 2, [], []⟩) layF_ok mixed Tryz.func95 rfl (by kernel_rfl) rfl rfl rfl ?_
     refine ex_callM (CallsM.ren (h3) [0, 1] 2 rfl rfl rfl rfl) ?_
     repeat' (first | refine qgs ?_ | refine eD ?_ ?_ <;> intro)
     refine ex_callM (CallsM.ren (ha) [0, 1] 2 rfl rfl rfl rfl) ?_
     repeat' (first | refine qgs ?_ | refine eD ?_ ?_ <;> intro)
     refine ex_callM (CallsM.ren (ha) [0, 1] 2 rfl rfl rfl rfl) ?_
     repeat' (first | refine ex_call hc ?_ | refine ex_false (hne _ (by decide)) ?_ | refine qg1 ?_ | refine eD ?_ ?_ <;> intro)
     exact ⟨rfl, TLe.rfl, rfl, rfl⟩
  ·rw [decide_eq_false h4, Bool.false_and]
   refine fn_ruleM (C := ⟨Tryz.prog, layF, Tryz.f95.ntmps, ΓL, 2, [], []⟩) layF_ok mixed Tryz.func95 rfl (by kernel_rfl) rfl rfl rfl ?_
   refine ex_callM (CallsM.ren (h3) [0, 1] 2 rfl rfl rfl rfl) ?_
   repeat' (first | refine qgs ?_ | refine eD ?_ ?_ <;> intro)
   refine ex_callM (CallsM.ren (ha) [0, 1] 2 rfl rfl rfl rfl) ?_
   repeat' (first | refine qgs ?_ | refine eD ?_ ?_ <;> intro)
   exact ⟨rfl, TLe.rfl, rfl, rfl⟩
 ·rw [Bool.true_or]
  refine fn_ruleM (C := ⟨Tryz.prog, layF, Tryz.f95.ntmps, ΓL, 2, [], []⟩) layF_ok mixed Tryz.func95 rfl (by kernel_rfl) rfl rfl rfl ?_
  refine ex_callM (CallsM.ren (h3) [0, 1] 2 rfl rfl rfl rfl) ?_
  repeat' (first | refine qgs ?_ | refine eD ?_ ?_ <;> intro)
  exact ⟨rfl, TLe.rfl, rfl, rfl⟩
end
end Go.Proofs.YtidnlfkakhmadaaGreatDoor

namespace Go.Proofs.YtidnlfkakhmadaaGreatDoor
open Go.RowKit

section
variable {L : List TokP} {m : Nat}
theorem put_c (s : PS) (x : EX) (hx : s.xs.length ≤ 1000000) : C1 L m 122 [gD (exD x)] (putM x) (fun k => Ti k) s := by
 refine C1.of fun T hT => ?_
 obtain rfl : PR.ok (s.xs.length : Int) { s with xs := s.xs ++ [x] } = T := hT
 refine fn_ruleP (C := ⟨Tryz.prog, layF, Tryz.f122.ntmps, ΓL, 6, [], []⟩) layF_ok mixed Tryz.func122 rfl (by kernel_rfl) rfl rfl rfl SLe.rfl ?_
 repeat' (first | refine qgs ?_ | refine eD ?_ ?_ <;> intro)
 refine ex_app (s.xs.length) (1) 1000 (by first | rfl | (simp; done) | (simp; omega)) (by first | rfl | (simp; done) | (simp; omega)) rfl (by omega) ?_
 refine ex_is (List.map exD (s.xs ++ [x])) (by rw [List.map_append]; rfl) ?_
 repeat' (first | refine aI ((s.xs.length : Nat) : Int) ?_ | refine aU ((s.xs.length : Nat) : Int) ?_ | refine aB ((s.xs.length : Nat) : Int) ?_ | refine (ex_is (s.xs.length + 1) (by simp)) ?_ | refine qg1 ?_ | refine eD ?_ ?_ <;> intro)
 exact ⟨rfl, TLe.rfl, rfl, rfl⟩
theorem lay_c (s : PS) (x : TY) (hx : s.ts.length ≤ 1000000) : CallsM Tryz.prog ΓL 100 [(0, Qz L m s.i), (1, Fz 2 3 4 5), (5, Tz s.ts)] 6 [P0, gD (tyD x)] (Ti s.ts.length) [(0, Qz L m s.i), (1, Fz 2 3 4 6), (5, .dead)] [Tz (s.ts ++ [x])] := by
 refine fn_ruleP (C := ⟨Tryz.prog, layF, Tryz.f100.ntmps, ΓL, 6, [], []⟩) layF_ok mixed Tryz.func100 rfl (by kernel_rfl) rfl rfl rfl SLe.rfl ?_
 repeat' (first | refine qgs ?_ | refine eD ?_ ?_ <;> intro)
 refine ex_app (s.ts.length) (1) 1000 (by first | rfl | (simp; done) | (simp; omega)) (by first | rfl | (simp; done) | (simp; omega)) rfl (by omega) ?_
 refine ex_is (List.map tyD (s.ts ++ [x])) (by rw [List.map_append]; rfl) ?_
 repeat' (first | refine aI ((s.ts.length : Nat) : Int) ?_ | refine aU ((s.ts.length : Nat) : Int) ?_ | refine aB ((s.ts.length : Nat) : Int) ?_ | refine (ex_is (s.ts.length + 1) (by simp)) ?_ | refine qg1 ?_ | refine eD ?_ ?_ <;> intro)
 exact ⟨rfl, TLe.rfl, rfl, rfl⟩
theorem put0_c (i : Nat) (xs : List EX) (k : Nat) (n : Nat) (w : List UInt8) (hx : xs.length ≤ 1000000) :
  CallsM Tryz.prog ΓL 122 [(0, Qz L m i), (1, Fz 2 3 4 5), (4, Xz xs)] 6 [P0, gD [di k, ds ⟨#[]⟩, du n, ds (bs w), dnil]] (Ti xs.length) [(0, Qz L m i), (1, Fz 2 3 6 5), (4, .dead)] [Xz (xs ++ [⟨k, [], n, w, []⟩])] :=
 ((put_c (L := L) (m := m) ⟨i, xs, []⟩ ⟨k, [], n, w, []⟩ hx).ok rfl).argsLe (.cons T1Le.rfl (.cons (T1Le.g (.cons DLe.rfl (.cons DLe.rfl (.cons DLe.rfl (.cons DLe.rfl (.cons DLe.nil .nil)))))) .nil))
theorem deeper_no (s : PS) (hi : s.i < L.length) (h a : Nat) (l : List CV) : CallsM Tryz.prog ΓL 119 [(0, Qz L m s.i)] 2 [P0, c1 (db false), .f h a l] (.pan (flt L s.i 4)) [(0, .dead)] [] := by
 refine fn_ruleP (C := ⟨Tryz.prog, layF, Tryz.f119.ntmps, ΓL, 2, [], []⟩) layF_ok mixed Tryz.func119 rfl (by kernel_rfl) rfl rfl rfl SLe.rfl ?_
 repeat' (first | refine qgs ?_ | refine eD ?_ ?_ <;> intro)
 refine sC (CallsM.ren ((fail_c s.i 4 hi)) [0, 1] 2 rfl rfl rfl rfl) ?_
 exact ⟨⟨_, rfl, rfl⟩, rfl, rfl⟩
theorem deeper_deep (s : PS) (hi : s.i < L.length) (h a : Nat) (l : List CV) : CallsM Tryz.prog ΓL 119 [(0, Qz L 0 s.i)] 2 [P0, c1 (db true), .f h a l] (.pan (flt L s.i 8)) [(0, .dead)] [] := by
 refine fn_ruleP (C := ⟨Tryz.prog, layF, Tryz.f119.ntmps, ΓL, 2, [], []⟩) layF_ok mixed Tryz.func119 rfl (by kernel_rfl) rfl rfl rfl SLe.rfl ?_
 repeat' (first | refine qgs ?_ | refine eD ?_ ?_ <;> intro)
 refine sC (CallsM.ren ((fail_c s.i 8 hi)) [0, 1] 2 rfl rfl rfl rfl) ?_
 exact ⟨⟨_, rfl, rfl⟩, rfl, rfl⟩
theorem deep_assoc {α β : Type} {x : PM α} {f : α → PM β} {p : Nat → Bool} {s : PS} {T : PR β} (h : ((fun s => enterM m (p s.i) s) >>= fun _ => x >>= f) s = T) : ((enterM m (p s.i) >>= fun _ => x) >>= f) s = T := by
 rw [← h]
 show PM.and (PM.and (enterM m (p s.i)) fun _ => x) f s = PM.and (fun s => enterM m (p s.i) s) (fun _ => PM.and x f) s
 unfold PM.and
 dsimp only
 cases enterM m (p s.i) s <;> rfl
theorem PR.end1 {T : PR Int} {k : Int} {s : PS} (h : T = .ok k s) : PR.ok k s = T := h.symm
theorem deeper1_c {x : PM Int} {h : FuncId} (s : PS) (hi : s.i < L.length) (hm : m ≤ 32) (hc : ∀ m', m = m' + 1 → C1 L m' h [] x (fun k => Ti k) s) (b : Bool) :
  C1 L m 119 [c1 (db b), .f h 1 [.ptr 0 0]] (enterM m b >>= fun _ => x) (fun k => Ti k) s := by
 refine C1.of fun T hT => ?_
 cases b
 ·obtain rfl : PR.err s.i 4 = T := hT
  refine fn_ruleP (C := ⟨Tryz.prog, layF, Tryz.f119.ntmps, ΓL, 6, [], []⟩) layF_ok mixed Tryz.func119 rfl (by kernel_rfl) rfl rfl rfl SLe.rfl ?_
  repeat' (first | refine qgs ?_ | refine eD ?_ ?_ <;> intro)
  refine sC (CallsM.ren ((fail_c s.i 4 hi)) [0, 1] 6 rfl rfl rfl rfl) ?_
  exact ⟨⟨_, rfl, rfl⟩, rfl, rfl⟩
 ·cases m with
  | zero =>
   obtain rfl : PR.err s.i 8 = T := hT
   refine fn_ruleP (C := ⟨Tryz.prog, layF, Tryz.f119.ntmps, ΓL, 6, [], []⟩) layF_ok mixed Tryz.func119 rfl (by kernel_rfl) rfl rfl rfl SLe.rfl ?_
   repeat' (first | refine qgs ?_ | refine eD ?_ ?_ <;> intro)
   refine sC (CallsM.ren ((fail_c s.i 8 hi)) [0, 1] 6 rfl rfl rfl rfl) ?_
   exact ⟨⟨_, rfl, rfl⟩, rfl, rfl⟩
  | succ m =>
   have hT : x s = T := hT
   have hc := hc m rfl
   rcases T with ⟨k, s1⟩ | ⟨i, e⟩
   ·
    refine fn_ruleP (C := ⟨Tryz.prog, layF, Tryz.f119.ntmps, ΓL, 6, [], []⟩) layF_ok mixed Tryz.func119 rfl (by kernel_rfl) rfl rfl rfl SLe.rfl ?_
    repeat' (first | refine aI (32 - ((m : Nat) : Int)) ?_ | refine aU (32 - ((m : Nat) : Int)) ?_ | refine aB (32 - ((m : Nat) : Int)) ?_ | refine qg1 ?_ | refine eD ?_ ?_ <;> intro)
    refine sC (CallsM.ren ((hc.ok hT)) [0, 1, 2, 3, 4, 5] 6 rfl rfl rfl rfl) ?_
    repeat' (first | refine aI (32 - ((m + 1 : Nat) : Int)) ?_ | refine aU (32 - ((m + 1 : Nat) : Int)) ?_ | refine aB (32 - ((m + 1 : Nat) : Int)) ?_ | refine qg1 ?_ | refine eD ?_ ?_ <;> intro)
    exact ⟨rfl, TLe.rfl, rfl, rfl⟩
   ·
    refine fn_ruleP (C := ⟨Tryz.prog, layF, Tryz.f119.ntmps, ΓL, 6, [], []⟩) layF_ok mixed Tryz.func119 rfl (by kernel_rfl) rfl rfl rfl SLe.rfl ?_
    repeat' (first | refine aI (32 - ((m : Nat) : Int)) ?_ | refine aU (32 - ((m : Nat) : Int)) ?_ | refine aB (32 - ((m : Nat) : Int)) ?_ | refine qg1 ?_ | refine eD ?_ ?_ <;> intro)
    refine sC (CallsM.ren ((hc.err hT)) [0, 1, 2, 3, 4, 5] 6 rfl rfl rfl rfl) ?_
    exact ⟨⟨_, rfl, rfl⟩, rfl, rfl⟩
theorem mv_take1 {t : List UInt8} {i : Nat} {xs : List EX} {ts : List TY} {v : Unit} {s' : PS} (h : takeM L t ⟨i, xs, ts⟩ = .ok v s') : s' = ⟨i + 1, xs, ts⟩ := by
 unfold takeM at h; split at h <;> cases h; rfl
theorem mv_name1 {i : Nat} {xs : List EX} {ts : List TY} {v : List UInt8} {s' : PS} (h : nameM L ⟨i, xs, ts⟩ = .ok v s') : s' = ⟨i + 1, xs, ts⟩ := by
 unfold nameM at h; split at h <;> cases h; rfl
theorem mv_num1 {i : Nat} {xs : List EX} {ts : List TY} {v : Nat} {s' : PS} (h : numberM L ⟨i, xs, ts⟩ = .ok v s') : s' = ⟨i + 1, xs, ts⟩ := by
 unfold numberM at h; split at h <;> cases h; rfl
theorem mv_room1 {n i : Nat} {xs : List EX} {ts : List TY} {v : Unit} {s' : PS} (h : roomM n ⟨i, xs, ts⟩ = .ok v s') : s' = ⟨i, xs, ts⟩ := by
 unfold roomM at h; split at h <;> cases h; rfl
section
variable {α β : Type} {p : Nat → Bool} {x y : PM α} {f : Unit → PM β} {i : Nat} {xs : List EX} {ts : List TY}
theorem aty {T : PR α} (hT : atM p x y ⟨i, xs, ts⟩ = T) (h : p i = true) : x ⟨i, xs, ts⟩ = T := (at_pos (s := ⟨i, xs, ts⟩) h).symm.trans hT
theorem atn {T : PR α} (hT : atM p x y ⟨i, xs, ts⟩ = T) (h : p i = false) : y ⟨i, xs, ts⟩ = T := (at_neg (s := ⟨i, xs, ts⟩) h).symm.trans hT
theorem stp1 {T : PR β} (hT : (stepM >>= f) ⟨i, xs, ts⟩ = T) : f () ⟨i + 1, xs, ts⟩ = T := hT
theorem stpS (hL : TokOk L) {c : Nat} (h : SOk L c ⟨i, xs, ts⟩) (hk : (tk L i).k ≠ 3) : SOk L (c + 1) ⟨i + 1, xs, ts⟩ := stepP_ok hL h hk
theorem SOk.lt {c : Nat} (h : SOk L c ⟨i, xs, ts⟩) : i < L.length := h.i
theorem SOk.lx {c : Nat} (h : SOk L c ⟨i, xs, ts⟩) : xs.length + c ≤ i := h.x
theorem SOk.lt' {c : Nat} (h : SOk L c ⟨i, xs, ts⟩) : ts.length + c ≤ i := h.t
end
set_option maxHeartbeats 4000000 in
theorem unary_step (hL : TokOk L) (hn : L.length ≤ 100000) (hm : m ≤ 32) {un ex : PM Int} (hu : m ≠ 0 → Up L un 0 0) (he : m ≠ 0 → Up L ex 0 0)
  (h1 : ∀ m', m = m' + 1 → ∀ s, SOk L 0 s → C1 L m' 121 [] un (fun k => Ti k) s)
  (h2 : ∀ m', m = m' + 1 → ∀ s, SOk L 0 s → C1 L m' 75 [] ex (fun k => Ti k) s) (s : PS) (hs : SOk L 0 s) : C1 L m 121 [] (unF L m un ex) (fun k => Ti k) s := by
 refine C1.of fun T hT => ?_
 unfold unF at hT
 obtain ⟨i, xs, ts⟩ := s
 have hi := hs.lt
 have hxl := hs.lx
 have hdeep : ∀ {x : PM Int}, (m ≠ 0 → Up L x 0 0) → ∀ b, Up L (enterM m b >>= fun _ => x) 0 0 := fun {x} h b => by
  by_cases h0 : m = 0
  ·intro s c hs
   subst h0
   have e : (enterM 0 b >>= fun _ => x) s = .err s.i (if b = true then 8 else 4) := by cases b <;> rfl
   rw [e]
   cases b
   ·exact ⟨Nat.le_refl _, hs.i, by decide, by decide⟩
   ·exact ⟨Nat.le_refl _, hs.i, by decide, by decide⟩
  ·exact (Up.enter m b 0).and fun _ => h h0
 have hbg := fun h => begins_c (L := L) (m := m) (i + 1) h
 rcases hv : isV L i t_bang with _ | _
 ·replace hT := atn hT hv
  rcases hv2 : isV L i t_lpar with _ | _
  ·replace hT := atn hT hv2
   have hnm := named_c (m := m) i hi
   rcases hv3 : namedV L i with _ | _ <;> rw [hv3] at hnm
   ·replace hT := atn hT hv3
    refine fn_ruleP (C := ⟨Tryz.prog, layF, Tryz.f121.ntmps, ΓL, 6, [], []⟩) layF_ok mixed Tryz.func121 rfl (by kernel_rfl) rfl rfl rfl SLe.rfl ?_
    refine sC (CallsM.ren ((may_no i hi _ hv)) [0, 1] 6 rfl rfl rfl rfl) ?_
    repeat' (first | refine qgs ?_ | refine eD ?_ ?_ <;> intro)
    refine sC (CallsM.ren ((may_no i hi _ hv2)) [0, 1] 6 rfl rfl rfl rfl) ?_
    repeat' (first | refine qgs ?_ | refine eD ?_ ?_ <;> intro)
    refine sC (CallsM.ren (hnm) [0, 1] 6 rfl rfl rfl rfl) ?_
    repeat' (first | refine qgs ?_ | refine eD ?_ ?_ <;> intro)
    have hcon := num_c (m := m) ⟨i, xs, ts⟩ hs.i (by omega)
    rcases hx129 : (numberM L) ⟨i, xs, ts⟩ with ⟨n, s9⟩ | ⟨i9, e9⟩
    rotate_left
    ·obtain rfl := (and_err hx129).symm.trans hT
     refine sC (CallsM.ren (hcon.err hx129) [0, 1] 6 rfl rfl rfl rfl) ?_
     first | exact ⟨⟨_, rfl, rfl⟩, rfl, rfl⟩ | exact ⟨by kernel_rfl, ⟨_, rfl, rfl⟩, rfl, rfl⟩
    replace hT := (and_ok hx129).symm.trans hT
    refine sC (CallsM.ren (hcon.ok hx129) [0, 1] 6 rfl rfl rfl rfl) ?_
    clear hcon
    have hs1 := (Up.ok (Up.number hL 0) hs hx129).1
    obtain rfl := mv_num1 hx129
    repeat' (first | refine qgs ?_ | refine eD ?_ ?_ <;> intro)
    obtain rfl : PR.ok (xs.length : Int) ⟨i + 1, xs ++ [(⟨0, [], n, [], []⟩ : EX)], ts⟩ = T := hT
    refine sC (CallsM.ren ((put0_c (m := m) (i + 1) xs 0 n [] (by omega))) [0, 1, 2, 3, 4, 5] 6 rfl rfl rfl rfl) ?_
    repeat' (first | refine qgs ?_ | refine eD ?_ ?_ <;> intro)
    exact ⟨rfl, TLe.rfl, rfl, rfl⟩
   ·replace hT := aty hT hv3
    refine fn_ruleP (C := ⟨Tryz.prog, layF, Tryz.f121.ntmps, ΓL, 6, [], []⟩) layF_ok mixed Tryz.func121 rfl (by kernel_rfl) rfl rfl rfl SLe.rfl ?_
    refine sC (CallsM.ren ((may_no i hi _ hv)) [0, 1] 6 rfl rfl rfl rfl) ?_
    repeat' (first | refine qgs ?_ | refine eD ?_ ?_ <;> intro)
    refine sC (CallsM.ren ((may_no i hi _ hv2)) [0, 1] 6 rfl rfl rfl rfl) ?_
    repeat' (first | refine qgs ?_ | refine eD ?_ ?_ <;> intro)
    refine sC (CallsM.ren (hnm) [0, 1] 6 rfl rfl rfl rfl) ?_
    repeat' (first | refine qgs ?_ | refine eD ?_ ?_ <;> intro)
    have hcon := name_c (m := m) ⟨i, xs, ts⟩ hs.i (by omega)
    rcases hx143 : (nameM L) ⟨i, xs, ts⟩ with ⟨w, s9⟩ | ⟨i9, e9⟩
    rotate_left
    ·obtain rfl := (and_err hx143).symm.trans hT
     refine sC (CallsM.ren (hcon.err hx143) [0, 1] 6 rfl rfl rfl rfl) ?_
     first | exact ⟨⟨_, rfl, rfl⟩, rfl, rfl⟩ | exact ⟨by kernel_rfl, ⟨_, rfl, rfl⟩, rfl, rfl⟩
    replace hT := (and_ok hx143).symm.trans hT
    refine sC (CallsM.ren (hcon.ok hx143) [0, 1] 6 rfl rfl rfl rfl) ?_
    clear hcon
    have hs1 := (Up.ok (Up.name hL 0) hs hx143).1
    obtain rfl := mv_name1 hx143
    repeat' (first | refine qgs ?_ | refine eD ?_ ?_ <;> intro)
    obtain rfl : PR.ok (xs.length : Int) ⟨i + 1, xs ++ [(⟨1, [], 0, w, []⟩ : EX)], ts⟩ = T := hT
    refine sC (CallsM.ren ((put0_c (m := m) (i + 1) xs 1 0 w (by omega))) [0, 1, 2, 3, 4, 5] 6 rfl rfl rfl rfl) ?_
    repeat' (first | refine qgs ?_ | refine eD ?_ ?_ <;> intro)
    exact ⟨rfl, TLe.rfl, rfl, rfl⟩
  ·replace hT := deep_assoc (stp1 (aty hT hv2))
   have hs1 := stpS hL hs (isV_k hv2)
   refine fn_ruleP (C := ⟨Tryz.prog, layF, Tryz.f121.ntmps, ΓL, 6, [], []⟩) layF_ok mixed Tryz.func121 rfl (by kernel_rfl) rfl rfl rfl SLe.rfl ?_
   refine sC (CallsM.ren ((may_no i hi _ hv)) [0, 1] 6 rfl rfl rfl rfl) ?_
   repeat' (first | refine qgs ?_ | refine eD ?_ ?_ <;> intro)
   refine sC (CallsM.ren ((may_yes i hi (by omega) _ hv2)) [0, 1] 6 rfl rfl rfl rfl) ?_
   repeat' (first | refine qgs ?_ | refine eD ?_ ?_ <;> intro)
   refine sC (CallsM.ren ((hbg hs1.lt)) [0, 1] 6 rfl rfl rfl rfl) ?_
   repeat' (first | refine qgs ?_ | refine eD ?_ ?_ <;> intro)
   have hcon := deeper1_c (m := m) ⟨i + 1, xs, ts⟩ hs1.lt hm (fun m' e => h2 m' e _ (hs1.less (by omega))) (beginsV L (i + 1))
   rcases hx : ((enterM m (beginsV L (i + 1)) >>= fun _ => ex)) ⟨i + 1, xs, ts⟩ with ⟨k, ⟨i2, xs2, ts2⟩⟩ | ⟨i9, e9⟩
   rotate_left
   ·obtain rfl := (and_err hx).symm.trans hT
    refine sC (CallsM.ren (hcon.err hx) [0, 1, 2, 3, 4, 5] 6 rfl rfl rfl rfl) ?_
    first | exact ⟨⟨_, rfl, rfl⟩, rfl, rfl⟩ | exact ⟨by kernel_rfl, ⟨_, rfl, rfl⟩, rfl, rfl⟩
   replace hT := (and_ok hx).symm.trans hT
   refine sC (CallsM.ren (hcon.ok hx) [0, 1, 2, 3, 4, 5] 6 rfl rfl rfl rfl) ?_
   clear hcon
   have hs2 := (Up.ok ((hdeep he _).less (a' := 1) (b' := 1) 1 (by omega) (by omega)) hs1 hx).1
   repeat' (first | refine qgs ?_ | refine eD ?_ ?_ <;> intro)
   have hcon := take_c (m := m) ⟨i2, xs2, ts2⟩ hs2.i (by omega) t_rpar
   rcases hx160 : (takeM L t_rpar) ⟨i2, xs2, ts2⟩ with ⟨_, s9⟩ | ⟨i9, e9⟩
   rotate_left
   ·obtain rfl := (and_err hx160).symm.trans hT
    refine sC (CallsM.ren (hcon.err hx160) [0, 1] 7 rfl rfl rfl rfl) ?_
    first | exact ⟨⟨_, rfl, rfl⟩, rfl, rfl⟩ | exact ⟨by kernel_rfl, ⟨_, rfl, rfl⟩, rfl, rfl⟩
   replace hT := (and_ok hx160).symm.trans hT
   refine sC (CallsM.ren (hcon.ok hx160) [0, 1] 7 rfl rfl rfl rfl) ?_
   clear hcon
   have hs3 := (Up.ok (Up.take hL t_rpar 0) hs2 hx160).1
   obtain rfl := mv_take1 hx160
   obtain rfl : PR.ok k ⟨i2 + 1, xs2, ts2⟩ = T := hT
   repeat' (first | refine qgs ?_ | refine eD ?_ ?_ <;> intro)
   exact ⟨rfl, TLe.rfl, rfl, rfl⟩
 ·replace hT := deep_assoc (stp1 (aty hT hv))
  have hs1 := stpS hL hs (isV_k hv)
  refine fn_ruleP (C := ⟨Tryz.prog, layF, Tryz.f121.ntmps, ΓL, 6, [], []⟩) layF_ok mixed Tryz.func121 rfl (by kernel_rfl) rfl rfl rfl SLe.rfl ?_
  refine sC (CallsM.ren ((may_yes i hi (by omega) _ hv)) [0, 1] 6 rfl rfl rfl rfl) ?_
  repeat' (first | refine qgs ?_ | refine eD ?_ ?_ <;> intro)
  refine sC (CallsM.ren ((hbg hs1.lt)) [0, 1] 6 rfl rfl rfl rfl) ?_
  repeat' (first | refine qgs ?_ | refine eD ?_ ?_ <;> intro)
  have hcon := deeper1_c (m := m) ⟨i + 1, xs, ts⟩ hs1.lt hm (fun m' e => h1 m' e _ (hs1.less (by omega))) (beginsV L (i + 1))
  rcases hx : ((enterM m (beginsV L (i + 1)) >>= fun _ => un)) ⟨i + 1, xs, ts⟩ with ⟨k, ⟨i2, xs2, ts2⟩⟩ | ⟨i9, e9⟩
  rotate_left
  ·obtain rfl := (and_err hx).symm.trans hT
   refine sC (CallsM.ren (hcon.err hx) [0, 1, 2, 3, 4, 5] 6 rfl rfl rfl rfl) ?_
   first | exact ⟨⟨_, rfl, rfl⟩, rfl, rfl⟩ | exact ⟨by kernel_rfl, ⟨_, rfl, rfl⟩, rfl, rfl⟩
  replace hT := (and_ok hx).symm.trans hT
  refine sC (CallsM.ren (hcon.ok hx) [0, 1, 2, 3, 4, 5] 6 rfl rfl rfl rfl) ?_
  clear hcon
  have hs2 := (Up.ok ((hdeep hu _).less (a' := 1) (b' := 1) 1 (by omega) (by omega)) hs1 hx).1
  repeat' (first | refine qgs ?_ | refine eD ?_ ?_ <;> intro)
  obtain rfl : PR.ok (xs2.length : Int) ⟨i2, xs2 ++ [(⟨2, [], 0, [], [k]⟩ : EX)], ts2⟩ = T := hT
  have hx2 := hs2.lx
  have hl2 := hs2.lt
  have hp := (put_c (L := L) (m := m) ⟨i2, xs2, ts2⟩ ⟨2, [], 0, [], [k]⟩ (by show xs2.length ≤ _; omega)).ok rfl
  refine sC (CallsM.ren (hp) [0, 1, 2, 3, 6, 5] 8 rfl rfl rfl rfl) ?_
  repeat' (first | refine qgs ?_ | refine eD ?_ ?_ <;> intro)
  exact ⟨rfl, TLe.rfl, rfl, rfl⟩
end
end Go.Proofs.YtidnlfkakhmadaaGreatDoor

namespace Go.Proofs.YtidnlfkakhmadaaGreatDoor
open Go.RowKit

section
variable {L : List TokP} {m : Nat}
set_option maxHeartbeats 4000000 in
theorem line_step (hL : TokOk L) (hn : L.length ≤ 100000) (j : Nat) (hj : j ≤ 7) {x : PM Int} (hx : Up L x 0 0) (hc : ∀ s, SOk L 0 s → C1 L m 102 [c1 (di (9 - (j : Int)))] x (fun k => Ti k) s) (s : PS) (hs : SOk L 0 s) :
  C1 L m 102 [c1 (di (9 - ((j + 1 : Nat) : Int)))] (x >>= fun left => fun s => lineN L (8 - j) x (L.length - s.i + 1) left s) (fun k => Ti k) s := by
 refine C1.of fun T hT => ?_
 obtain ⟨i, xs, ts⟩ := s
 have h8 := (level_c [42]).gL
 rw [show levelV [42] = 8 by decide +kernel] at h8
 refine fn_ruleP (C := ⟨Tryz.prog, layF, Tryz.f102.ntmps, ΓL, 6, [], []⟩) layF_ok mixed Tryz.func102 rfl (by kernel_rfl) rfl rfl rfl SLe.rfl ?_
 repeat' (first | refine ex_call h8 ?_ | refine aI (9 - (j : Int)) ?_ | refine aU (9 - (j : Int)) ?_ | refine aB (9 - (j : Int)) ?_ | refine qg1 ?_ | refine eD ?_ ?_ <;> intro)
 have hcon := hc ⟨i, xs, ts⟩ hs
 rcases hx1 : (x) ⟨i, xs, ts⟩ with ⟨left, ⟨i1, xs1, ts1⟩⟩ | ⟨i9, e9⟩
 rotate_left
 ·obtain rfl := (and_err hx1).symm.trans hT
  refine sC (CallsM.ren (hcon.err hx1) [0, 1, 2, 3, 4, 5] 6 rfl rfl rfl rfl) ?_
  first | exact ⟨⟨_, rfl, rfl⟩, rfl, rfl⟩ | exact ⟨by kernel_rfl, ⟨_, rfl, rfl⟩, rfl, rfl⟩
 replace hT := (and_ok hx1).symm.trans hT
 refine sC (CallsM.ren (hcon.ok hx1) [0, 1, 2, 3, 4, 5] 6 rfl rfl rfl rfl) ?_
 clear hcon
 have hs1 := (Up.ok hx hs hx1).1
 repeat' (first | refine qgs ?_ | refine eD ?_ ?_ <;> intro)
 refine ex_loop (X := Nat × List EX × List TY × Int × Nat) (fun ⟨i, xs, _, left, _⟩ => ⟨[(0, .o P0), (1, Ti (9 - ((j + 1 : Nat) : Int))), (5, Ti left)], [(0, Qz L m i), (1, Fz 2 3 6 5), (4, .dead), (6, Xz xs)], 7⟩) (fun y => L.length - y.1)
  (fun ⟨i, xs, ts, left, n⟩ => SOk L 0 ⟨i, xs, ts⟩ ∧ L.length < i + n ∧ lineN L (8 - j) x n left ⟨i, xs, ts⟩ = T) (i1, xs1, ts1, left, L.length - i1 + 1) ⟨hs1, by omega, hT⟩ sS ?_
 clear hT hx1 hs1
 rintro ⟨i, xs, ts, left, n⟩ ⟨hs, hf, hT⟩
 have hi := hs.lt
 have ha := ahead_c (L := L) (m := m) i hi
 cases n with
 | zero => omega
 | succ n =>
  by_cases h2 : (tk L i).k = 2
  ·have hlv := (level_c (tk L i).t).gL
   by_cases h3 : levelV (tk L i).t = 8 - j
   ·have ho : opAt L (8 - j) i = true := by unfold opAt; rw [decide_eq_true h2, decide_eq_true h3]; rfl
    have hs1 := stpS hL hs (by omega)
    replace hT : (x >>= fun right => putM ⟨3, (tk L i).t, 0, [], [left, right]⟩ >>= fun k => lineN L (8 - j) x n k) ⟨i + 1, xs, ts⟩ = T := by
     rw [← hT, lineN]
     exact (if_pos ho).symm
    generalize tk L i = u at *
    refine sC (CallsM.ren (ha) [0, 1] 7 rfl rfl rfl rfl) ?_
    repeat' (first | refine qgs ?_ | refine eD ?_ ?_ <;> intro)
    refine sC (CallsM.ren (ha) [0, 1] 7 rfl rfl rfl rfl) ?_
    repeat' (first | refine ex_call hlv ?_ | refine qg1 ?_ | refine eD ?_ ?_ <;> intro)
    refine sC (CallsM.ren (ha) [0, 1] 7 rfl rfl rfl rfl) ?_
    repeat' (first | refine aI (9 - (j : Int)) ?_ | refine aU (9 - (j : Int)) ?_ | refine aB (9 - (j : Int)) ?_ | refine aI ((i + 1 : Nat) : Int) ?_ | refine aU ((i + 1 : Nat) : Int) ?_ | refine aB ((i + 1 : Nat) : Int) ?_ | refine qg1 ?_ | refine eD ?_ ?_ <;> intro)
    have hcon := hc ⟨i + 1, xs, ts⟩ (hs1.less (by omega))
    rcases hx1 : (x) ⟨i + 1, xs, ts⟩ with ⟨right, ⟨i1, xs1, ts1⟩⟩ | ⟨i9, e9⟩
    rotate_left
    ·obtain rfl := (and_err hx1).symm.trans hT
     refine sC (CallsM.ren (hcon.err hx1) [0, 1, 2, 3, 6, 5] 7 rfl rfl rfl rfl) ?_
     first | exact ⟨⟨_, rfl, rfl⟩, rfl, rfl⟩ | exact ⟨by kernel_rfl, ⟨_, rfl, rfl⟩, rfl, rfl⟩
    replace hT := (and_ok hx1).symm.trans hT
    refine sC (CallsM.ren (hcon.ok hx1) [0, 1, 2, 3, 6, 5] 7 rfl rfl rfl rfl) ?_
    clear hcon
    have hs2 := (Up.ok (hx.less (a' := 1) (b' := 1) 1 (by omega) (by omega)) hs1 hx1).1
    repeat' (first | refine qgs ?_ | refine eD ?_ ?_ <;> intro)
    have hx2 := hs2.lx
    have hl2 := hs2.lt
    have hp := (put_c (L := L) (m := m) ⟨i1, xs1, ts1⟩ ⟨3, u.t, 0, [], [left, right]⟩ (by show xs1.length ≤ _; omega)).ok rfl
    refine sC (CallsM.ren (hp) [0, 1, 2, 3, 7, 5] 9 rfl rfl rfl rfl) ?_
    repeat' (first | refine qgs ?_ | refine eD ?_ ?_ <;> intro)
    have hi1 : i + 1 ≤ i1 := by have := (Up.ok hx (hs1.less (Nat.zero_le _)) hx1).2; exact this
    exact ex_round (i1, xs1 ++ [(⟨3, u.t, 0, [], [left, right]⟩ : EX)], ts1, (xs1.length : Int), n) ⟨(Up.ok (Up.put _ 0) hs2 rfl).1, by omega, hT⟩ (by show L.length - i1 < L.length - i; omega) (sR [(0, 0), (1, 1), (2, 2), (3, 3), (4, 4), (5, 5), (9, 6)])
   ·have ho : opAt L (8 - j) i = false := by unfold opAt; rw [decide_eq_false h3]; simp
    obtain rfl : PR.ok left ⟨i, xs, ts⟩ = T := by rw [← hT, lineN]; exact (if_neg (by rw [ho]; decide)).symm
    generalize tk L i = u at *
    refine sC (CallsM.ren (ha) [0, 1] 7 rfl rfl rfl rfl) ?_
    repeat' (first | refine qgs ?_ | refine eD ?_ ?_ <;> intro)
    refine sC (CallsM.ren (ha) [0, 1] 7 rfl rfl rfl rfl) ?_
    repeat' (first | refine ex_call hlv ?_ | refine qg1 ?_ | refine eD ?_ ?_ <;> intro)
    exact ⟨rfl, TLe.rfl, rfl, rfl⟩
  ·have ho : opAt L (8 - j) i = false := by unfold opAt; rw [decide_eq_false h2]; rfl
   obtain rfl : PR.ok left ⟨i, xs, ts⟩ = T := by rw [← hT, lineN]; exact (if_neg (by rw [ho]; decide)).symm
   generalize tk L i = u at *
   refine sC (CallsM.ren (ha) [0, 1] 7 rfl rfl rfl rfl) ?_
   repeat' (first | refine qgs ?_ | refine eD ?_ ?_ <;> intro)
   exact ⟨rfl, TLe.rfl, rfl, rfl⟩
theorem line0_c {un : PM Int} (s : PS) (hc : C1 L m 121 [] un (fun k => Ti k) s) : C1 L m 102 [c1 (di (9 - ((0 : Nat) : Int)))] un (fun k => Ti k) s := by
 refine C1.of fun T hT => ?_
 have h8 := (level_c [42]).gL
 rw [show levelV [42] = 8 by decide +kernel] at h8
 rcases T with ⟨k, s1⟩ | ⟨i, e⟩
 ·
  refine fn_ruleP (C := ⟨Tryz.prog, layF, Tryz.f102.ntmps, ΓL, 6, [], []⟩) layF_ok mixed Tryz.func102 rfl (by kernel_rfl) rfl rfl rfl SLe.rfl ?_
  repeat' (first | refine ex_call h8 ?_ | refine qg1 ?_ | refine eD ?_ ?_ <;> intro)
  refine sC (CallsM.ren ((hc.ok hT)) [0, 1, 2, 3, 4, 5] 6 rfl rfl rfl rfl) ?_
  repeat' (first | refine qgs ?_ | refine eD ?_ ?_ <;> intro)
  exact ⟨rfl, TLe.rfl, rfl, rfl⟩
 ·
  refine fn_ruleP (C := ⟨Tryz.prog, layF, Tryz.f102.ntmps, ΓL, 6, [], []⟩) layF_ok mixed Tryz.func102 rfl (by kernel_rfl) rfl rfl rfl SLe.rfl ?_
  repeat' (first | refine ex_call h8 ?_ | refine qg1 ?_ | refine eD ?_ ?_ <;> intro)
  refine sC (CallsM.ren ((hc.err hT)) [0, 1, 2, 3, 4, 5] 6 rfl rfl rfl rfl) ?_
  exact ⟨⟨_, rfl, rfl⟩, rfl, rfl⟩
theorem line_c (hL : TokOk L) (hn : L.length ≤ 100000) {un : PM Int} (hu : Up L un 0 0) (hc : ∀ s, SOk L 0 s → C1 L m 121 [] un (fun k => Ti k) s) : ∀ j : Nat, j ≤ 8 → ∀ s, SOk L 0 s → C1 L m 102 [c1 (di (9 - (j : Int)))] (lineJ L un j) (fun k => Ti k) s
 | 0, _, s, hs => line0_c s (hc s hs)
 | j + 1, hj, s, hs => line_step hL hn j (by omega) (up_lineJ hL hu j) (line_c hL hn hu hc j (by omega)) s hs
theorem expr_of {x : PM Int} (s : PS) (hc : C1 L m 102 [c1 (di (9 - ((8 : Nat) : Int)))] x (fun k => Ti k) s) : C1 L m 75 [] x (fun k => Ti k) s := by
 have hc : C1 L m 102 [c1 (di 1)] x (fun k => Ti k) s := hc
 refine C1.of fun T hT => ?_
 rcases T with ⟨k, s1⟩ | ⟨i, e⟩
 ·
  refine fn_ruleP (C := ⟨Tryz.prog, layF, Tryz.f75.ntmps, ΓL, 6, [], []⟩) layF_ok mixed Tryz.func75 rfl (by kernel_rfl) rfl rfl rfl SLe.rfl ?_
  repeat' (first | refine qgs ?_ | refine eD ?_ ?_ <;> intro)
  refine sC (CallsM.ren ((hc.ok hT)) [0, 1, 2, 3, 4, 5] 6 rfl rfl rfl rfl) ?_
  repeat' (first | refine qgs ?_ | refine eD ?_ ?_ <;> intro)
  exact ⟨rfl, TLe.rfl, rfl, rfl⟩
 ·
  refine fn_ruleP (C := ⟨Tryz.prog, layF, Tryz.f75.ntmps, ΓL, 6, [], []⟩) layF_ok mixed Tryz.func75 rfl (by kernel_rfl) rfl rfl rfl SLe.rfl ?_
  repeat' (first | refine qgs ?_ | refine eD ?_ ?_ <;> intro)
  refine sC (CallsM.ren ((hc.err hT)) [0, 1, 2, 3, 4, 5] 6 rfl rfl rfl rfl) ?_
  exact ⟨⟨_, rfl, rfl⟩, rfl, rfl⟩
theorem unary_c (hL : TokOk L) (hn : L.length ≤ 100000) : ∀ m, m ≤ 32 → ∀ s, SOk L 0 s → C1 L m 121 [] (unM L m) (fun k => Ti k) s
 | 0, hm, s, hs => unary_step hL hn hm (fun h => absurd rfl h) (fun h => absurd rfl h) (fun _ h => by omega) (fun _ h => by omega) s hs
 | m + 1, hm, s, hs => unary_step hL hn hm (fun _ => up_unM hL m) (fun _ => up_lineJ hL (up_unM hL m) 8)
   (fun m' h s hs => by
    obtain rfl : m = m' := by omega
    exact unary_c hL hn m (by omega) s hs)
   (fun m' h s hs => by
    obtain rfl : m = m' := by omega
    exact expr_of s (line_c hL hn (up_unM hL m) (unary_c hL hn m (by omega)) 8 (Nat.le_refl _) s hs)) s hs
theorem expr_c (hL : TokOk L) (hn : L.length ≤ 100000) (m : Nat) (hm : m ≤ 32) (s : PS) (hs : SOk L 0 s) : C1 L m 75 [] (exprM L m) (fun k => Ti k) s :=
 expr_of s (line_c hL hn (up_unM hL m) (unary_c hL hn m hm) 8 (Nat.le_refl _) s hs)
end
end Go.Proofs.YtidnlfkakhmadaaGreatDoor

namespace Go.Proofs.YtidnlfkakhmadaaGreatDoor
open Go.RowKit

def Keep {α : Type} (x : PM α) : Prop := ∀ s v s', x s = .ok v s' → s'.ts = s.ts
theorem Keep.and {α β : Type} {x : PM α} {f : α → PM β} (hx : Keep x) (hf : ∀ v, Keep (f v)) : Keep (x >>= f) := fun s v s' h => by
 have hb : PM.and x f s = .ok v s' := h
 unfold PM.and at hb
 rcases hxs : x s with ⟨u, s1⟩ | ⟨i, e⟩
 ·rw [hxs] at hb; exact (hf u _ _ _ hb).trans (hx _ _ _ hxs)
 ·rw [hxs] at hb; cases hb
theorem Keep.at {α : Type} {p : Nat → Bool} {x y : PM α} (hx : Keep x) (hy : Keep y) : Keep (atM p x y) := fun s v s' h => by
 unfold atM at h
 split at h
 ·exact hx _ _ _ h
 ·exact hy _ _ _ h
theorem Keep.pure {α : Type} (v : α) : Keep (pure v) := fun s v s' h => by cases h; rfl
theorem Keep.step : Keep stepM := fun s v s' h => by cases h; rfl
theorem Keep.put (x : EX) : Keep (putM x) := fun s v s' h => by cases h; rfl
section
variable {L : List TokP} {m : Nat}
theorem Keep.take (t : List UInt8) : Keep (takeM L t) := fun s v s' h => by unfold takeM at h; split at h <;> cases h; rfl
theorem Keep.name : Keep (nameM L) := fun s v s' h => by unfold nameM at h; split at h <;> cases h; rfl
theorem Keep.num : Keep (numberM L) := fun s v s' h => by unfold numberM at h; split at h <;> cases h; rfl
theorem Keep.enter (p : Nat → Bool) : Keep (fun s => enterM m (p s.i) s) := fun s v s' h => by
 dsimp only at h; unfold enterM at h; split at h
 ·cases h
 ·split at h <;> cases h; rfl
theorem Keep.fail {α : Type} (e : Nat) : Keep (failM e : PM α) := fun s v s' h => by cases h
theorem keep_un (m : Nat) {un ex : PM Int} (h1 : Keep un) (h2 : Keep ex) : Keep (unF L m un ex) := by
 unfold unF
 exact Keep.at (Keep.step.and fun _ => (Keep.enter _).and fun _ => h1.and fun _ => Keep.put _) (Keep.at (Keep.step.and fun _ => (Keep.enter _).and fun _ => h2.and fun _ => (Keep.take _).and fun _ => Keep.pure _) (Keep.at (Keep.name.and fun _ => Keep.put _) (Keep.num.and fun _ => Keep.put _)))
theorem keep_line (lv : Nat) {x : PM Int} (hx : Keep x) : ∀ n left, Keep (lineN L lv x n left)
 | 0, left => Keep.pure _
 | n + 1, left => fun s v s' h => by
  rw [lineN] at h
  change (if opAt L lv s.i = true then _ else _) = _ at h
  split at h
  ·exact (Keep.step.and fun _ => hx.and fun r => (Keep.put ⟨3, (tk L s.i).t, 0, [], [left, r]⟩).and fun k => keep_line lv hx n k) _ _ _ h
  ·cases h; rfl
theorem keep_lineJ {un : PM Int} (hx : Keep un) : ∀ j, Keep (lineJ L un j)
 | 0 => hx
 | j + 1 => (keep_lineJ hx j).and fun left => fun s v s' h => keep_line _ (keep_lineJ hx j) _ _ s v s' h
theorem keep_unM : ∀ m, Keep (unM L m)
 | 0 => keep_un 0 (Keep.fail _) (Keep.fail _)
 | m + 1 => keep_un _ (keep_unM m) (keep_lineJ (keep_unM m) 8)
theorem keep_expr (m : Nat) : Keep (exprM L m) := keep_lineJ (keep_unM m) 8
theorem keep_bracket (m : Nat) : Keep (bracketM L m) := (Keep.take _).and fun _ => (keep_expr m).and fun _ => (Keep.take _).and fun _ => Keep.pure _
theorem Keep.eq {α : Type} {x : PM α} (h : Keep x) {i i1 : Nat} {xs xs1 : List EX} {ts ts1 : List TY} {v : α} (hx : x ⟨i, xs, ts⟩ = .ok v ⟨i1, xs1, ts1⟩) : ts = ts1 := (h _ _ _ hx).symm
theorem keep_args : ∀ n l, Keep (argsN L m n l)
 | 0, l => Keep.pure _
 | n + 1, l => Keep.at (Keep.step.and fun _ => (show Keep (fun s => if beginsV L s.i = true then roomM l.length s else .ok () s) from fun s v s' h => by
   dsimp only at h
   split at h
   ·unfold roomM at h; split at h <;> cases h; rfl
   ·cases h; rfl).and fun _ => (keep_expr m).and fun x => keep_args n _) (Keep.pure _)
theorem keep_ref : Keep (refM L m) := Keep.name.and fun w => Keep.at (Keep.step.and fun _ => (keep_expr m).and fun x => (show Keep (fun s => argsN L m (L.length - s.i + 1) [x] s) from fun s v s' h => keep_args _ _ s v s' h).and fun l => (Keep.take _).and fun _ => Keep.pure _) (Keep.pure _)
theorem start1 {i : Nat} {xs : List EX} : SLe 6 ⟨argTm 0 [P0], [(4, .dead), (0, Qz L m i), (1, Fz 2 3 6 5), (6, Xz xs)], 7⟩ ⟨argTm 0 [P0], [(0, Qz L m i), (1, Fz 2 3 4 5), (4, Xz xs)], 6⟩ :=
 SLe.kill (nx := 7) 4 (sR [(0, 0), (1, 1), (2, 2), (3, 3), (4, 6), (5, 5)])
theorem start2 {i : Nat} {xs : List EX} {ts : List TY} : SLe 6 ⟨argTm 0 [P0], [(4, .dead), (0, Qz L m i), (1, Fz 2 3 6 5), (6, Xz xs), (5, Tz ts)], 7⟩ ⟨argTm 0 [P0], [(0, Qz L m i), (1, Fz 2 3 4 5), (4, Xz xs), (5, Tz ts)], 6⟩ :=
 SLe.kill (nx := 7) 4 (sR [(0, 0), (1, 1), (2, 2), (3, 3), (4, 6), (5, 5)])
theorem start2t {i : Nat} {xs : List EX} {ts : List TY} {t : TY} : SLe 6 ⟨argTm 0 [P0, gD (tyD t)], [(4, .dead), (0, Qz L m i), (1, Fz 2 3 6 5), (6, Xz xs), (5, Tz ts)], 7⟩ ⟨argTm 0 [P0, gD (tyD t)], [(0, Qz L m i), (1, Fz 2 3 4 5), (4, Xz xs), (5, Tz ts)], 6⟩ :=
 SLe.kill (nx := 7) 4 (sR [(0, 0), (1, 1), (2, 2), (3, 3), (4, 6), (5, 5)])
theorem plain_c (k : Nat) : CallsA Tryz.prog ΓL 97 [c1 (di k)] (.o (gD [di k, di 0, db false, ds ⟨#[]⟩, dnil, di (-1), di (-1), dnil])) := by
 refine fn_rule (C := ⟨Tryz.prog, layF, Tryz.f97.ntmps, ΓL, 0, [], []⟩) layF_ok mixed Tryz.func97 rfl (by kernel_rfl) rfl rfl rfl ?_
 repeat' (first | refine qgs ?_ | refine eD ?_ ?_ <;> intro)
 exact TLe.rfl
theorem bracket_c (hL : TokOk L) (hn : L.length ≤ 100000) (hm : m ≤ 32) (s : PS) {c : Nat} (hs : SOk L c s) : C1 L m 98 [] (bracketM L m) (fun k => Ti k) s := by
 refine C1.of fun T hT => ?_
 unfold bracketM at hT
 obtain ⟨i, xs, ts⟩ := s
 refine fn_ruleP (C := ⟨Tryz.prog, layF, Tryz.f98.ntmps, ΓL, 6, [], []⟩) layF_ok mixed Tryz.func98 rfl (by kernel_rfl) rfl rfl rfl SLe.rfl ?_
 repeat' (first | refine qgs ?_ | refine eD ?_ ?_ <;> intro)
 have hcon := take_c (m := m) ⟨i, xs, ts⟩ hs.i (by omega) t_lsq
 rcases hx78 : (takeM L t_lsq) ⟨i, xs, ts⟩ with ⟨_, s9⟩ | ⟨i9, e9⟩
 rotate_left
 ·obtain rfl := (and_err hx78).symm.trans hT
  refine sC (CallsM.ren (hcon.err hx78) [0, 1] 6 rfl rfl rfl rfl) ?_
  first | exact ⟨⟨_, rfl, rfl⟩, rfl, rfl⟩ | exact ⟨by kernel_rfl, ⟨_, rfl, rfl⟩, rfl, rfl⟩
 replace hT := (and_ok hx78).symm.trans hT
 refine sC (CallsM.ren (hcon.ok hx78) [0, 1] 6 rfl rfl rfl rfl) ?_
 clear hcon
 have hs1 := (Up.ok (Up.take hL t_lsq 0) hs hx78).1
 obtain rfl := mv_take1 hx78
 repeat' (first | refine qgs ?_ | refine eD ?_ ?_ <;> intro)
 have hcon := expr_c hL hn m hm ⟨i + 1, xs, ts⟩ (hs1.less (by omega))
 rcases hx : (exprM L m) ⟨i + 1, xs, ts⟩ with ⟨k, ⟨i2, xs2, ts2⟩⟩ | ⟨i9, e9⟩
 rotate_left
 ·obtain rfl := (and_err hx).symm.trans hT
  refine sC (CallsM.ren (hcon.err hx) [0, 1, 2, 3, 4, 5] 6 rfl rfl rfl rfl) ?_
  first | exact ⟨⟨_, rfl, rfl⟩, rfl, rfl⟩ | exact ⟨by kernel_rfl, ⟨_, rfl, rfl⟩, rfl, rfl⟩
 replace hT := (and_ok hx).symm.trans hT
 refine sC (CallsM.ren (hcon.ok hx) [0, 1, 2, 3, 4, 5] 6 rfl rfl rfl rfl) ?_
 clear hcon
 have hs2 := (Up.ok (up_expr hL m 1) hs1 hx).1
 repeat' (first | refine qgs ?_ | refine eD ?_ ?_ <;> intro)
 have hcon := take_c (m := m) ⟨i2, xs2, ts2⟩ hs2.i (by omega) t_rsq
 rcases hx82 : (takeM L t_rsq) ⟨i2, xs2, ts2⟩ with ⟨_, s9⟩ | ⟨i9, e9⟩
 rotate_left
 ·obtain rfl := (and_err hx82).symm.trans hT
  refine sC (CallsM.ren (hcon.err hx82) [0, 1] 7 rfl rfl rfl rfl) ?_
  first | exact ⟨⟨_, rfl, rfl⟩, rfl, rfl⟩ | exact ⟨by kernel_rfl, ⟨_, rfl, rfl⟩, rfl, rfl⟩
 replace hT := (and_ok hx82).symm.trans hT
 refine sC (CallsM.ren (hcon.ok hx82) [0, 1] 7 rfl rfl rfl rfl) ?_
 clear hcon
 have hs3 := (Up.ok (Up.take hL t_rsq 0) hs2 hx82).1
 obtain rfl := mv_take1 hx82
 obtain rfl : PR.ok k ⟨i2 + 1, xs2, ts2⟩ = T := hT
 repeat' (first | refine qgs ?_ | refine eD ?_ ?_ <;> intro)
 exact ⟨rfl, TLe.rfl, rfl, rfl⟩
theorem layn_c (i : Nat) (ts : List TY) (k size : Nat) (little : Bool) (w : List UInt8) (x n : Int) (hx : ts.length ≤ 1000000) : CallsM Tryz.prog ΓL 100 [(0, Qz L m i), (1, Fz 2 3 4 5), (5, Tz ts)] 6 [P0, gD [di k, di size, db little, ds (bs w), dnil, di x, di n, dnil]] (Ti ts.length) [(0, Qz L m i), (1, Fz 2 3 4 6), (5, .dead)] [Tz (ts ++ [⟨k, size, little, w, [], x, n, []⟩])] :=
 (lay_c (L := L) (m := m) ⟨i, [], ts⟩ ⟨k, size, little, w, [], x, n, []⟩ hx).argsLe (.cons T1Le.rfl (.cons (T1Le.g (.cons DLe.rfl (.cons DLe.rfl (.cons DLe.rfl (.cons DLe.rfl (.cons DLe.nil (.cons DLe.rfl (.cons DLe.rfl (.cons DLe.nil .nil))))))))) .nil))
set_option maxHeartbeats 4000000 in
theorem array_c (hL : TokOk L) (hn : L.length ≤ 100000) (hm : m ≤ 32) (t : TY) (s : PS) {c : Nat} (hs : SOk L (c + 1) s) : C2 L m 93 [gD (tyD t)] (arrayM L m t) (fun k => Ti k) s := by
 refine C2.of fun T hT => ?_
 unfold arrayM at hT
 obtain ⟨i, xs, ts⟩ := s
 have hi := hs.lt
 have hxl := hs.lx
 have htl := hs.lt'
 replace hT : atM (isV L · t_lsq) (bracketM L m >>= fun x => layM { tyP 5 with ex := x, inn := ts.length }) (pure (ts.length : Int)) ⟨i, xs, ts ++ [t]⟩ = T := hT
 have hq : SOk L c ⟨i, xs, ts ++ [t]⟩ := (Up.ok (Up.lay t 0) hs rfl).1
 have hl := lay_c (L := L) (m := m) ⟨i, xs, ts⟩ t (by show ts.length ≤ _; omega)
 refine fn_ruleP (C := ⟨Tryz.prog, layF, Tryz.f93.ntmps, ΓL, 6, [], []⟩) layF_ok mixed Tryz.func93 rfl (by kernel_rfl) rfl rfl rfl start2t ?_
 repeat' (first | refine qgs ?_ | refine eD ?_ ?_ <;> intro)
 refine sC (CallsM.ren (hl) [0, 1, 2, 3, 6, 5] 8 rfl rfl rfl rfl) ?_
 repeat' (first | refine qgs ?_ | refine eD ?_ ?_ <;> intro)
 rcases hv : isV L i t_lsq with _ | _
 ·replace hT := atn hT hv
  obtain rfl : PR.ok (ts.length : Int) ⟨i, xs, ts ++ [t]⟩ = T := hT
  have hi := is_c (m := m) i hi t_lsq
  rw [hv] at hi
  refine sC (CallsM.ren (hi) [0, 1] 9 rfl rfl rfl rfl) ?_
  repeat' (first | refine qgs ?_ | refine eD ?_ ?_ <;> intro)
  exact ⟨rfl, TLe.rfl, rfl, rfl⟩
 ·replace hT := aty hT hv
  have hi := is_c (m := m) i hi t_lsq
  rw [hv] at hi
  refine sC (CallsM.ren (hi) [0, 1] 9 rfl rfl rfl rfl) ?_
  repeat' (first | refine ex_call (plain_c 5) ?_ | refine qg1 ?_ | refine eD ?_ ?_ <;> intro)
  have hcon := bracket_c hL hn hm ⟨i, xs, ts ++ [t]⟩ hq
  rcases hx : (bracketM L m) ⟨i, xs, ts ++ [t]⟩ with ⟨x, ⟨i2, xs2, ts2⟩⟩ | ⟨i9, e9⟩
  rotate_left
  ·obtain rfl := (and_err hx).symm.trans hT
   refine sC (CallsM.ren (hcon.err hx) [0, 1, 2, 3, 6, 8] 10 rfl rfl rfl rfl) ?_
   first | exact ⟨⟨_, rfl, rfl⟩, rfl, rfl⟩ | exact ⟨by kernel_rfl, ⟨_, rfl, rfl⟩, rfl, rfl⟩
  replace hT := (and_ok hx).symm.trans hT
  refine sC (CallsM.ren (hcon.ok hx) [0, 1, 2, 3, 6, 8] 10 rfl rfl rfl rfl) ?_
  clear hcon
  have hs2 := (Up.ok (up_bracket hL m 0) hq hx).1
  obtain rfl := (keep_bracket m).eq hx
  have hl2 := hs2.lt'
  have hi2 := hs2.lt
  obtain rfl : PR.ok ((ts ++ [t]).length : Int) ⟨i2, xs2, (ts ++ [t]) ++ [(⟨5, 0, false, [], [], x, ts.length, []⟩ : TY)]⟩ = T := hT
  repeat' (first | refine qgs ?_ | refine eD ?_ ?_ <;> intro)
  refine sC (CallsM.ren ((layn_c (L := L) (m := m) i2 (ts ++ [t]) 5 0 false [] x ts.length (by omega))) [0, 1, 2, 3, 10, 8] 11 rfl rfl rfl rfl) ?_
  repeat' (first | refine qgs ?_ | refine eD ?_ ?_ <;> intro)
  exact ⟨rfl, TLe.rfl, rfl, rfl⟩
end
end Go.Proofs.YtidnlfkakhmadaaGreatDoor

namespace Go.Proofs.YtidnlfkakhmadaaGreatDoor
open Go.RowKit

section
variable {L : List TokP} {m : Nat}
section
variable {α β γ : Type} {x y : PM α} {g : α → PM β} {f : β → PM γ} {F : α → PM β} {p : Nat → Bool} {i : Nat} {xs : List EX} {ts : List TY}
theorem asc {s : PS} {T : PR γ} (h : ((x >>= g) >>= f) s = T) : (x >>= fun v => g v >>= f) s = T := by
 rw [← h]
 show PM.and x (fun v => PM.and (g v) f) s = PM.and (PM.and x g) f s
 unfold PM.and
 cases x s <;> rfl
theorem atyB {T : PR β} (hT : (atM p x y >>= F) ⟨i, xs, ts⟩ = T) (h : p i = true) : (x >>= F) ⟨i, xs, ts⟩ = T := by
 rw [← hT]
 show PM.and _ _ _ = PM.and _ _ _
 unfold PM.and
 rw [at_pos (s := ⟨i, xs, ts⟩) h]
theorem atnB {T : PR β} (hT : (atM p x y >>= F) ⟨i, xs, ts⟩ = T) (h : p i = false) : (y >>= F) ⟨i, xs, ts⟩ = T := by
 rw [← hT]
 show PM.and _ _ _ = PM.and _ _ _
 unfold PM.and
 rw [at_neg (s := ⟨i, xs, ts⟩) h]
theorem pureT {v : α} {s : PS} {T : PR β} (hT : ((pure v : PM α) >>= F) s = T) : F v s = T := hT
theorem rmT {n : Nat} {F : Unit → PM β} {T : PR β} (hT : ((fun s => if p s.i = true then roomM n s else .ok () s) >>= F) ⟨i, xs, ts⟩ = T) (h : p i = true) : (roomM n >>= F) ⟨i, xs, ts⟩ = T := by
 rw [← hT]
 show PM.and _ _ _ = PM.and _ _ _
 unfold PM.and
 dsimp only
 rw [if_pos h]
theorem rmF {n : Nat} {F : Unit → PM β} {T : PR β} (hT : ((fun s => if p s.i = true then roomM n s else .ok () s) >>= F) ⟨i, xs, ts⟩ = T) (h : p i = false) : F () ⟨i, xs, ts⟩ = T := by
 rw [← hT]
 show _ = PM.and _ _ _
 unfold PM.and
 dsimp only
 rw [if_neg (by rw [h]; decide)]
end
theorem tyLe {k size : Nat} {little : Bool} {w : List UInt8} {x n : Int} : TLe (.o (gD [di k, di size, db little, ds (bs w), dnil, di x, di n, dnil])) (.o (gD (tyD ⟨k, size, little, w, [], x, n, []⟩))) :=
 TLe.o (T1Le.g (.cons DLe.rfl (.cons DLe.rfl (.cons DLe.rfl (.cons DLe.rfl (.cons DLe.nil (.cons DLe.rfl (.cons DLe.rfl (.cons DLe.nil .nil)))))))))
theorem tyLe1 {k size : Nat} {little : Bool} {w : List UInt8} {x n : Int} {l : List Int} : TLe (.o (gD [di k, di size, db little, ds (bs w), intsD l, di x, di n, dnil])) (.o (gD (tyD ⟨k, size, little, w, l, x, n, []⟩))) :=
 TLe.o (T1Le.g (.cons DLe.rfl (.cons DLe.rfl (.cons DLe.rfl (.cons DLe.rfl (.cons DLe.rfl (.cons DLe.rfl (.cons DLe.rfl (.cons DLe.nil .nil)))))))))
set_option maxHeartbeats 4000000 in
theorem ref_c (hL : TokOk L) (hn : L.length ≤ 100000) (hm : m ≤ 32) (s : PS) {c : Nat} (hs : SOk L c s) : C1 L m 94 [] (refM L m) (fun t => .o (gD (tyD t))) s := by
 refine C1.of fun T hT => ?_
 unfold refM at hT
 obtain ⟨i, xs, ts⟩ := s
 refine fn_ruleP (C := ⟨Tryz.prog, layF, Tryz.f94.ntmps, ΓL, 6, [], []⟩) layF_ok mixed Tryz.func94 rfl (by kernel_rfl) rfl rfl rfl start1 ?_
 repeat' (first | refine ex_call (plain_c 10) ?_ | refine qg1 ?_ | refine eD ?_ ?_ <;> intro)
 have hcon := name_c (m := m) ⟨i, xs, ts⟩ hs.i (by omega)
 rcases hx50 : (nameM L) ⟨i, xs, ts⟩ with ⟨w, s9⟩ | ⟨i9, e9⟩
 rotate_left
 ·obtain rfl := (and_err hx50).symm.trans hT
  refine sC (CallsM.ren (hcon.err hx50) [0, 1] 9 rfl rfl rfl rfl) ?_
  first | exact ⟨⟨_, rfl, rfl⟩, rfl, rfl⟩ | exact ⟨by kernel_rfl, ⟨_, rfl, rfl⟩, rfl, rfl⟩
 replace hT := (and_ok hx50).symm.trans hT
 refine sC (CallsM.ren (hcon.ok hx50) [0, 1] 9 rfl rfl rfl rfl) ?_
 clear hcon
 have hs1 := (Up.ok (Up.name hL 0) hs hx50).1
 obtain rfl := mv_name1 hx50
 repeat' (first | refine qgs ?_ | refine eD ?_ ?_ <;> intro)
 rcases hv : isV L (i + 1) t_lpar with _ | _
 ·replace hT := atn hT hv
  obtain rfl : PR.ok ({ tyP 10 with nm := w } : TY) ⟨i + 1, xs, ts⟩ = T := hT
  refine sC (CallsM.ren ((may_no (i + 1) hs1.lt _ hv)) [0, 1] 9 rfl rfl rfl rfl) ?_
  repeat' (first | refine qgs ?_ | refine eD ?_ ?_ <;> intro)
  exact ⟨rfl, tyLe, rfl, rfl⟩
 ·replace hT := stp1 (aty hT hv)
  have hs2 := stpS hL hs1 (isV_k hv)
  refine sC (CallsM.ren ((may_yes (i + 1) hs1.lt (by omega) _ hv)) [0, 1] 9 rfl rfl rfl rfl) ?_
  repeat' (first | refine qgs ?_ | refine eD ?_ ?_ <;> intro)
  have hcon := expr_c hL hn m hm ⟨i + 1 + 1, xs, ts⟩ (hs2.less (by omega))
  rcases hx : (exprM L m) ⟨i + 1 + 1, xs, ts⟩ with ⟨x, ⟨i2, xs2, ts2⟩⟩ | ⟨i9, e9⟩
  rotate_left
  ·obtain rfl := (and_err hx).symm.trans hT
   refine sC (CallsM.ren (hcon.err hx) [0, 1, 2, 3, 6, 5] 9 rfl rfl rfl rfl) ?_
   first | exact ⟨⟨_, rfl, rfl⟩, rfl, rfl⟩ | exact ⟨by kernel_rfl, ⟨_, rfl, rfl⟩, rfl, rfl⟩
  replace hT := (and_ok hx).symm.trans hT
  refine sC (CallsM.ren (hcon.ok hx) [0, 1, 2, 3, 6, 5] 9 rfl rfl rfl rfl) ?_
  clear hcon
  have hs3 := (Up.ok (up_expr hL m 2) hs2 hx).1
  repeat' (first | refine qgs ?_ | refine eD ?_ ?_ <;> intro)
  refine ex_app (0) (1) 1000 (by first | rfl | (simp; done) | (simp; omega)) (by first | rfl | (simp; done) | (simp; omega)) rfl (by omega) ?_
  refine ex_is (List.map (fun k : Int => [di k]) [x]) (rfl) ?_
  repeat' (first | refine qgs ?_ | refine eD ?_ ?_ <;> intro)
  replace hT : (argsN L m (L.length - i2 + 1) [x] >>= fun l => takeM L t_rpar >>= fun _ => pure ({ tyP 10 with nm := w, args := l } : TY)) ⟨i2, xs2, ts2⟩ = T := hT
  refine ex_loop (X := Nat × List EX × List TY × List Int × Nat) (fun ⟨i, xs, _, l, _⟩ => ⟨[(0, .o P0), (2, .o (.c (.ptr 7 0))), (3, .o (.c (.ptr 8 0)))], [(0, Qz L m i), (1, Fz 2 3 9 5), (4, .dead), (7, .obj [.d (di 0), .d (di 0), .d (db false), .d (ds ⟨#[]⟩), .d dnil, .d (di 0), .d (di 0), .d dnil]), (8, .obj [.d (di 10), .d (di 0), .d (db false), .d (ds (bs w)), .row 11, .d (di (-1)), .d (di (-1)), .d dnil]), (9, Xz xs), (11, .row 1 3 (l.map fun k => [di k]))], 12⟩) (fun y => L.length - y.1)
   (fun ⟨i, xs, ts, l, n⟩ => SOk L 2 ⟨i, xs, ts⟩ ∧ L.length < i + n ∧ l.length ≤ i ∧ (argsN L m n l >>= fun l => takeM L t_rpar >>= fun _ => pure ({ tyP 10 with nm := w, args := l } : TY)) ⟨i, xs, ts⟩ = T) (i2, xs2, ts2, [x], L.length - i2 + 1) ⟨hs3.less (by omega), by omega, by have := hs3.lx; show 1 ≤ i2; omega, hT⟩ sS ?_
  clear hT hx hs3 hs2 hs1 hs hv
  rintro ⟨i, xs, ts, l, n⟩ ⟨hs, hf, hll, hT⟩
  have hi := hs.lt
  cases n with
  | zero => omega
  | succ n =>
   rw [argsN] at hT
   rcases hv : isV L i t_comma with _ | _
   ·replace hT := pureT (atnB hT hv)
    refine sC (CallsM.ren ((may_no i hi _ hv)) [0, 1] 12 rfl rfl rfl rfl) ?_
    repeat' (first | refine qgs ?_ | refine eD ?_ ?_ <;> intro)
    have hcon := take_c (m := m) ⟨i, xs, ts⟩ hs.i (by omega) t_rpar
    rcases hx81 : (takeM L t_rpar) ⟨i, xs, ts⟩ with ⟨_, s9⟩ | ⟨i9, e9⟩
    rotate_left
    ·obtain rfl := (and_err hx81).symm.trans hT
     refine sC (CallsM.ren (hcon.err hx81) [0, 1] 12 rfl rfl rfl rfl) ?_
     first | exact ⟨⟨_, rfl, rfl⟩, rfl, rfl⟩ | exact ⟨by kernel_rfl, ⟨_, rfl, rfl⟩, rfl, rfl⟩
    replace hT := (and_ok hx81).symm.trans hT
    refine sC (CallsM.ren (hcon.ok hx81) [0, 1] 12 rfl rfl rfl rfl) ?_
    clear hcon
    have hs1 := (Up.ok (Up.take hL t_rpar 0) hs hx81).1
    obtain rfl := mv_take1 hx81
    obtain rfl : PR.ok ({ tyP 10 with nm := w, args := l } : TY) ⟨i + 1, xs, ts⟩ = T := hT
    repeat' (first | refine qgs ?_ | refine eD ?_ ?_ <;> intro)
    exact ⟨rfl, tyLe1, rfl, rfl⟩
   ·replace hT := asc (stp1 (asc (atyB hT hv)))
    have hs1 := stpS hL hs (isV_k hv)
    have hbc := begins_c (L := L) (m := m) (i + 1) hs1.lt
    refine sC (CallsM.ren ((may_yes i hi (by omega) _ hv)) [0, 1] 12 rfl rfl rfl rfl) ?_
    repeat' (first | refine qgs ?_ | refine eD ?_ ?_ <;> intro)
    rcases hb : beginsV L (i + 1) with _ | _ <;> rw [hb] at hbc
    ·replace hT := rmF hT hb
     refine sC (CallsM.ren (hbc) [0, 1] 12 rfl rfl rfl rfl) ?_
     repeat' (first | refine qgs ?_ | refine eD ?_ ?_ <;> intro)
     replace hT := asc hT
     have hcon := expr_c hL hn m hm ⟨i + 1, xs, ts⟩ (hs1.less (by omega))
     rcases hx : (exprM L m) ⟨i + 1, xs, ts⟩ with ⟨x, ⟨i2, xs2, ts2⟩⟩ | ⟨i9, e9⟩
     rotate_left
     ·obtain rfl := (and_err hx).symm.trans hT
      refine sC (CallsM.ren (hcon.err hx) [0, 1, 2, 3, 9, 5] 12 rfl rfl rfl rfl) ?_
      first | exact ⟨⟨_, rfl, rfl⟩, rfl, rfl⟩ | exact ⟨by kernel_rfl, ⟨_, rfl, rfl⟩, rfl, rfl⟩
     replace hT := (and_ok hx).symm.trans hT
     refine sC (CallsM.ren (hcon.ok hx) [0, 1, 2, 3, 9, 5] 12 rfl rfl rfl rfl) ?_
     clear hcon
     have hs3 := (Up.ok (up_expr hL m 3) hs1 hx).1
     have hi2 : i + 1 ≤ i2 := (Up.ok (up_expr hL m 3) hs1 hx).2
     repeat' (first | refine qgs ?_ | refine eD ?_ ?_ <;> intro)
     refine ex_app (l.length) (1) 1000 (by first | rfl | (simp; done) | (simp; omega)) (by first | rfl | (simp; done) | (simp; omega)) rfl (by omega) ?_
     refine ex_is (List.map (fun k : Int => [di k]) (l ++ [x])) (by rw [List.map_append]; rfl) ?_
     repeat' (first | refine qgs ?_ | refine eD ?_ ?_ <;> intro)
     exact ex_round (i2, xs2, ts2, l ++ [x], n) ⟨hs3.less (by omega), by omega, by simp; omega, hT⟩ (by show L.length - i2 < L.length - i; omega) (sR [(0, 0), (1, 1), (2, 2), (3, 3), (4, 4), (5, 5), (7, 7), (8, 8), (12, 9), (14, 11)])
    ·replace hT := rmT hT hb
     refine sC (CallsM.ren (hbc) [0, 1] 12 rfl rfl rfl rfl) ?_
     repeat' (first | refine ex_is l.length (by simp) ?_ | refine qg1 ?_ | refine eD ?_ ?_ <;> intro)
     have hcon := room_c (m := m) ⟨i + 1, xs, ts⟩ hs1.lt l.length (by omega)
     rcases hr : (roomM l.length) ⟨i + 1, xs, ts⟩ with ⟨_, s9⟩ | ⟨i9, e9⟩
     rotate_left
     ·obtain rfl := (and_err hr).symm.trans hT
      refine sC (CallsM.ren (hcon.err hr) [0, 1] 12 rfl rfl rfl rfl) ?_
      first | exact ⟨⟨_, rfl, rfl⟩, rfl, rfl⟩ | exact ⟨by kernel_rfl, ⟨_, rfl, rfl⟩, rfl, rfl⟩
     replace hT := (and_ok hr).symm.trans hT
     refine sC (CallsM.ren (hcon.ok hr) [0, 1] 12 rfl rfl rfl rfl) ?_
     clear hcon
     obtain rfl := mv_room1 hr
     repeat' (first | refine qgs ?_ | refine eD ?_ ?_ <;> intro)
     replace hT := asc hT
     have hcon := expr_c hL hn m hm ⟨i + 1, xs, ts⟩ (hs1.less (by omega))
     rcases hx : (exprM L m) ⟨i + 1, xs, ts⟩ with ⟨x, ⟨i2, xs2, ts2⟩⟩ | ⟨i9, e9⟩
     rotate_left
     ·obtain rfl := (and_err hx).symm.trans hT
      refine sC (CallsM.ren (hcon.err hx) [0, 1, 2, 3, 9, 5] 12 rfl rfl rfl rfl) ?_
      first | exact ⟨⟨_, rfl, rfl⟩, rfl, rfl⟩ | exact ⟨by kernel_rfl, ⟨_, rfl, rfl⟩, rfl, rfl⟩
     replace hT := (and_ok hx).symm.trans hT
     refine sC (CallsM.ren (hcon.ok hx) [0, 1, 2, 3, 9, 5] 12 rfl rfl rfl rfl) ?_
     clear hcon
     have hs3 := (Up.ok (up_expr hL m 3) hs1 hx).1
     have hi2 : i + 1 ≤ i2 := (Up.ok (up_expr hL m 3) hs1 hx).2
     repeat' (first | refine qgs ?_ | refine eD ?_ ?_ <;> intro)
     refine ex_app (l.length) (1) 1000 (by first | rfl | (simp; done) | (simp; omega)) (by first | rfl | (simp; done) | (simp; omega)) rfl (by omega) ?_
     refine ex_is (List.map (fun k : Int => [di k]) (l ++ [x])) (by rw [List.map_append]; rfl) ?_
     repeat' (first | refine qgs ?_ | refine eD ?_ ?_ <;> intro)
     exact ex_round (i2, xs2, ts2, l ++ [x], n) ⟨hs3.less (by omega), by omega, by simp; omega, hT⟩ (by show L.length - i2 < L.length - i; omega) (sR [(0, 0), (1, 1), (2, 2), (3, 3), (4, 4), (5, 5), (7, 7), (8, 8), (12, 9), (14, 11)])
end
end Go.Proofs.YtidnlfkakhmadaaGreatDoor

namespace Go.Proofs.YtidnlfkakhmadaaGreatDoor
open Go.RowKit

section
variable {L : List TokP} {m : Nat}
theorem SLe.via {nx0 : Nat} {s t u : St} (h' : SLe nx0 t u) (h : SLe nx0 s t) : SLe nx0 s u := h.trans h'
theorem takeY {t : List UInt8} {i : Nat} {xs : List EX} {ts : List TY} (h : isV L i t = true) : takeM L t ⟨i, xs, ts⟩ = .ok () ⟨i + 1, xs, ts⟩ := if_pos h
theorem deeper2_c {x : PM Int} {h : FuncId} (s : PS) (hi : s.i < L.length) (hm : m ≤ 32) (hc : ∀ m', m = m' + 1 → C2 L m' h [] x (fun k => Ti k) s) (b : Bool) :
  C2 L m 119 [c1 (db b), .f h 1 [.ptr 0 0]] (enterM m b >>= fun _ => x) (fun k => Ti k) s := by
 refine C2.of fun T hT => ?_
 cases b
 ·obtain rfl : PR.err s.i 4 = T := hT
  refine fn_ruleP (C := ⟨Tryz.prog, layF, Tryz.f119.ntmps, ΓL, 6, [], []⟩) layF_ok mixed Tryz.func119 rfl (by kernel_rfl) rfl rfl rfl SLe.rfl ?_
  repeat' (first | refine qgs ?_ | refine eD ?_ ?_ <;> intro)
  refine sC (CallsM.ren ((fail_c s.i 4 hi)) [0, 1] 6 rfl rfl rfl rfl) ?_
  exact ⟨⟨_, rfl, rfl⟩, rfl, rfl⟩
 ·cases m with
  | zero =>
   obtain rfl : PR.err s.i 8 = T := hT
   refine fn_ruleP (C := ⟨Tryz.prog, layF, Tryz.f119.ntmps, ΓL, 6, [], []⟩) layF_ok mixed Tryz.func119 rfl (by kernel_rfl) rfl rfl rfl SLe.rfl ?_
   repeat' (first | refine qgs ?_ | refine eD ?_ ?_ <;> intro)
   refine sC (CallsM.ren ((fail_c s.i 8 hi)) [0, 1] 6 rfl rfl rfl rfl) ?_
   exact ⟨⟨_, rfl, rfl⟩, rfl, rfl⟩
  | succ m =>
   have hT : x s = T := hT
   have hc := hc m rfl
   rcases T with ⟨k, s1⟩ | ⟨i, e⟩
   ·
    refine fn_ruleP (C := ⟨Tryz.prog, layF, Tryz.f119.ntmps, ΓL, 6, [], []⟩) layF_ok mixed Tryz.func119 rfl (by kernel_rfl) rfl rfl rfl SLe.rfl ?_
    repeat' (first | refine aI (32 - ((m : Nat) : Int)) ?_ | refine aU (32 - ((m : Nat) : Int)) ?_ | refine aB (32 - ((m : Nat) : Int)) ?_ | refine qg1 ?_ | refine eD ?_ ?_ <;> intro)
    refine sC (CallsM.ren ((hc.ok hT)) [0, 1, 2, 3, 4, 5] 6 rfl rfl rfl rfl) ?_
    repeat' (first | refine aI (32 - ((m + 1 : Nat) : Int)) ?_ | refine aU (32 - ((m + 1 : Nat) : Int)) ?_ | refine aB (32 - ((m + 1 : Nat) : Int)) ?_ | refine qg1 ?_ | refine eD ?_ ?_ <;> intro)
    exact ⟨rfl, TLe.rfl, rfl, rfl⟩
   ·
    refine fn_ruleP (C := ⟨Tryz.prog, layF, Tryz.f119.ntmps, ΓL, 6, [], []⟩) layF_ok mixed Tryz.func119 rfl (by kernel_rfl) rfl rfl rfl SLe.rfl ?_
    repeat' (first | refine aI (32 - ((m : Nat) : Int)) ?_ | refine aU (32 - ((m : Nat) : Int)) ?_ | refine aB (32 - ((m : Nat) : Int)) ?_ | refine qg1 ?_ | refine eD ?_ ?_ <;> intro)
    refine sC (CallsM.ren ((hc.err hT)) [0, 1, 2, 3, 4, 5] 6 rfl rfl rfl rfl) ?_
    exact ⟨⟨_, rfl, rfl⟩, rfl, rfl⟩
theorem inner_c (hm : m ≤ 32) {kd : PM Int} (s : PS) (hi : s.i < L.length) (hc : ∀ m', m = m' + 1 → C2 L m' 73 [] kd (fun k => Ti k) s) : C2 L m 99 [] (innerM L m kd) (fun k => Ti k) s := by
 refine C2.of fun T hT => ?_
 have hT : (enterM m (startsV L s.i) >>= fun _ => kd) s = T := hT
 have hd := deeper2_c s hi hm hc (startsV L s.i)
 rcases T with ⟨k, s1⟩ | ⟨i, e⟩
 ·
  refine fn_ruleP (C := ⟨Tryz.prog, layF, Tryz.f99.ntmps, ΓL, 6, [], []⟩) layF_ok mixed Tryz.func99 rfl (by kernel_rfl) rfl rfl rfl SLe.rfl ?_
  repeat' (first | refine qgs ?_ | refine eD ?_ ?_ <;> intro)
  refine sC (CallsM.ren ((starts_c (m := m) s.i hi)) [0, 1] 6 rfl rfl rfl rfl) ?_
  repeat' (first | refine qgs ?_ | refine eD ?_ ?_ <;> intro)
  refine sC (CallsM.ren ((hd.ok hT)) [0, 1, 2, 3, 4, 5] 6 rfl rfl rfl rfl) ?_
  repeat' (first | refine qgs ?_ | refine eD ?_ ?_ <;> intro)
  exact ⟨rfl, TLe.rfl, rfl, rfl⟩
 ·
  refine fn_ruleP (C := ⟨Tryz.prog, layF, Tryz.f99.ntmps, ΓL, 6, [], []⟩) layF_ok mixed Tryz.func99 rfl (by kernel_rfl) rfl rfl rfl SLe.rfl ?_
  repeat' (first | refine qgs ?_ | refine eD ?_ ?_ <;> intro)
  refine sC (CallsM.ren ((starts_c (m := m) s.i hi)) [0, 1] 6 rfl rfl rfl rfl) ?_
  repeat' (first | refine qgs ?_ | refine eD ?_ ?_ <;> intro)
  refine sC (CallsM.ren ((hd.err hT)) [0, 1, 2, 3, 4, 5] 6 rfl rfl rfl rfl) ?_
  exact ⟨⟨_, rfl, rfl⟩, rfl, rfl⟩
theorem layc_c (i : Nat) (ts : List TY) (x n : Int) (cs : List CA) (hx : ts.length ≤ 1000000) : CallsM Tryz.prog ΓL 100 [(0, Qz L m i), (1, Fz 2 3 4 5), (5, Tz ts)] 6 [P0, gD [di 9, di 0, db false, ds ⟨#[]⟩, dnil, di x, di n, .sl 2 (cs.map caD)]] (Ti ts.length) [(0, Qz L m i), (1, Fz 2 3 4 6), (5, .dead)] [Tz (ts ++ [⟨9, 0, false, [], [], x, n, cs⟩])] :=
 (lay_c (L := L) (m := m) ⟨i, [], ts⟩ ⟨9, 0, false, [], [], x, n, cs⟩ hx).argsLe (.cons T1Le.rfl (.cons (T1Le.g (.cons DLe.rfl (.cons DLe.rfl (.cons DLe.rfl (.cons DLe.rfl (.cons DLe.nil (.cons DLe.rfl (.cons DLe.rfl (.cons DLe.rfl .nil))))))))) .nil))
set_option maxHeartbeats 4000000 in
theorem choice_c (hL : TokOk L) (hn : L.length ≤ 100000) (hm : m ≤ 32) {kd : PM Int} (hu : Up L kd 0 0) (hc : ∀ m', m = m' + 1 → ∀ s, SOk L 0 s → C2 L m' 73 [] kd (fun k => Ti k) s) (s : PS) {c : Nat} (hs : SOk L (c + 1) s) :
  C2 L m 101 [] (choiceM L m kd) (fun k => Ti k) s := by
 refine C2.of fun T hT => ?_
 unfold choiceM at hT
 obtain ⟨i, xs, ts⟩ := s
 have hin : ∀ s, SOk L 0 s → C2 L m 99 [] (innerM L m kd) (fun k => Ti k) s := fun s hs => inner_c hm s hs.i fun m' e => hc m' e s hs
 refine fn_ruleP (C := ⟨Tryz.prog, layF, Tryz.f101.ntmps, ΓL, 6, [], []⟩) layF_ok mixed Tryz.func101 rfl (by kernel_rfl) rfl rfl rfl SLe.rfl ?_
 repeat' (first | refine ex_call (plain_c 9) ?_ | refine qg1 ?_ | refine eD ?_ ?_ <;> intro)
 have hcon := take_c (m := m) ⟨i, xs, ts⟩ hs.i (by omega) t_lpar
 rcases hx74 : (takeM L t_lpar) ⟨i, xs, ts⟩ with ⟨_, s9⟩ | ⟨i9, e9⟩
 rotate_left
 ·obtain rfl := (and_err hx74).symm.trans hT
  refine sC (CallsM.ren (hcon.err hx74) [0, 1] 7 rfl rfl rfl rfl) ?_
  first | exact ⟨⟨_, rfl, rfl⟩, rfl, rfl⟩ | exact ⟨by kernel_rfl, ⟨_, rfl, rfl⟩, rfl, rfl⟩
 replace hT := (and_ok hx74).symm.trans hT
 refine sC (CallsM.ren (hcon.ok hx74) [0, 1] 7 rfl rfl rfl rfl) ?_
 clear hcon
 have hs1 := (Up.ok (Up.take hL t_lpar 0) hs hx74).1
 obtain rfl := mv_take1 hx74
 repeat' (first | refine qgs ?_ | refine eD ?_ ?_ <;> intro)
 have hcon := expr_c hL hn m hm ⟨i + 1, xs, ts⟩ (hs1.less (by omega))
 rcases hx : (exprM L m) ⟨i + 1, xs, ts⟩ with ⟨x, ⟨i2, xs2, ts2⟩⟩ | ⟨i9, e9⟩
 rotate_left
 ·obtain rfl := (and_err hx).symm.trans hT
  refine sC (CallsM.ren (hcon.err hx) [0, 1, 2, 3, 4, 5] 7 rfl rfl rfl rfl) ?_
  first | exact ⟨⟨_, rfl, rfl⟩, rfl, rfl⟩ | exact ⟨by kernel_rfl, ⟨_, rfl, rfl⟩, rfl, rfl⟩
 replace hT := (and_ok hx).symm.trans hT
 refine sC (CallsM.ren (hcon.ok hx) [0, 1, 2, 3, 4, 5] 7 rfl rfl rfl rfl) ?_
 clear hcon
 have hs2 := (Up.ok (up_expr hL m 1) hs1 hx).1
 obtain rfl := (keep_expr m).eq hx
 repeat' (first | refine qgs ?_ | refine eD ?_ ?_ <;> intro)
 have hcon := take_c (m := m) ⟨i2, xs2, ts⟩ hs2.i (by omega) t_rpar
 rcases hx78 : (takeM L t_rpar) ⟨i2, xs2, ts⟩ with ⟨_, s9⟩ | ⟨i9, e9⟩
 rotate_left
 ·obtain rfl := (and_err hx78).symm.trans hT
  refine sC (CallsM.ren (hcon.err hx78) [0, 1] 8 rfl rfl rfl rfl) ?_
  first | exact ⟨⟨_, rfl, rfl⟩, rfl, rfl⟩ | exact ⟨by kernel_rfl, ⟨_, rfl, rfl⟩, rfl, rfl⟩
 replace hT := (and_ok hx78).symm.trans hT
 refine sC (CallsM.ren (hcon.ok hx78) [0, 1] 8 rfl rfl rfl rfl) ?_
 clear hcon
 have hs3 := (Up.ok (Up.take hL t_rpar 0) hs2 hx78).1
 obtain rfl := mv_take1 hx78
 repeat' (first | refine qgs ?_ | refine eD ?_ ?_ <;> intro)
 have hcon := take_c (m := m) ⟨i2 + 1, xs2, ts⟩ hs3.i (by omega) t_lcur
 rcases hx80 : (takeM L t_lcur) ⟨i2 + 1, xs2, ts⟩ with ⟨_, s9⟩ | ⟨i9, e9⟩
 rotate_left
 ·obtain rfl := (and_err hx80).symm.trans hT
  refine sC (CallsM.ren (hcon.err hx80) [0, 1] 8 rfl rfl rfl rfl) ?_
  first | exact ⟨⟨_, rfl, rfl⟩, rfl, rfl⟩ | exact ⟨by kernel_rfl, ⟨_, rfl, rfl⟩, rfl, rfl⟩
 replace hT := (and_ok hx80).symm.trans hT
 refine sC (CallsM.ren (hcon.ok hx80) [0, 1] 8 rfl rfl rfl rfl) ?_
 clear hcon
 have hs4 := (Up.ok (Up.take hL t_lcur 0) hs3 hx80).1
 obtain rfl := mv_take1 hx80
 repeat' (first | refine qgs ?_ | refine eD ?_ ?_ <;> intro)
 replace hT : (casesN L m kd (L.length - (i2 + 1 + 1) + 1) [] >>= fun cs => atM (isV L · w_else) (stepM >>= fun _ => takeM L t_colon >>= fun _ => innerM L m kd >>= fun k => takeM L t_semi >>= fun _ => pure k) (pure (-1)) >>= fun k => takeM L t_rcur >>= fun _ => layM { tyP 9 with ex := x, inn := k, cases := cs }) ⟨i2 + 1 + 1, xs2, ts⟩ = T := hT
 refine ex_loop (X := Nat × List EX × List TY × List CA × Nat) (fun ⟨i, xs, ts, cs, _⟩ => ⟨[(0, .o P0), (3, .o (.c (.ptr 6 0)))], [(5, .dead), (0, Qz L m i), (1, Fz 2 3 7 9), (4, .dead), (6, .obj [.d (di 9), .d (di 0), .d (db false), .d (ds ⟨#[]⟩), .d dnil, .d (di x), .d (di (-1)), .row 8]), (7, Xz xs), (8, .row 2 120 (cs.map caD)), (9, Tz ts)], 10⟩) (fun y => L.length - y.1)
  (fun ⟨i, xs, ts, cs, n⟩ => SOk L (c + 4) ⟨i, xs, ts⟩ ∧ L.length < i + n ∧ cs.length ≤ i ∧ (casesN L m kd n cs >>= fun cs => atM (isV L · w_else) (stepM >>= fun _ => takeM L t_colon >>= fun _ => innerM L m kd >>= fun k => takeM L t_semi >>= fun _ => pure k) (pure (-1)) >>= fun k => takeM L t_rcur >>= fun _ => layM { tyP 9 with ex := x, inn := k, cases := cs }) ⟨i, xs, ts⟩ = T) (i2 + 1 + 1, xs2, ts, [], L.length - (i2 + 1 + 1) + 1) ⟨hs4, by omega, Nat.zero_le _, hT⟩
  (SLe.kill (nx := 10) 5 (SLe.via (SLe.ownCell 6 7 8 2 120 rfl rfl rfl rfl rfl rfl) (sR [(0, 0), (1, 1), (2, 2), (3, 3), (4, 4), (6, 6), (7, 7), (8, 8), (5, 9)]))) ?_
 clear hT hx hs4 hs3 hs2 hs1 hs
 rintro ⟨i, xs, ts, cs, n⟩ ⟨hs, hf, hll, hT⟩
 have hi := hs.lt
 cases n with
 | zero => omega
 | succ n =>
  rw [casesN] at hT
  have his := is_c (m := m) i hi w_case
  rcases hv : isV L i w_case with _ | _ <;> rw [hv] at his
  ·replace hT := pureT (atnB hT hv)
   refine sC (CallsM.ren (his) [0, 1] 10 rfl rfl rfl rfl) ?_
   repeat' (first | refine qgs ?_ | refine eD ?_ ?_ <;> intro)
   rcases hv2 : isV L i w_else with _ | _
   ·replace hT := pureT (atnB hT hv2)
    refine sC (CallsM.ren ((may_no i hi _ hv2)) [0, 1] 10 rfl rfl rfl rfl) ?_
    repeat' (first | refine qgs ?_ | refine eD ?_ ?_ <;> intro)
    have hcon := take_c (m := m) ⟨i, xs, ts⟩ hs.i (by omega) t_rcur
    rcases hx102 : (takeM L t_rcur) ⟨i, xs, ts⟩ with ⟨_, s9⟩ | ⟨i9, e9⟩
    rotate_left
    ·obtain rfl := (and_err hx102).symm.trans hT
     refine sC (CallsM.ren (hcon.err hx102) [0, 1] 10 rfl rfl rfl rfl) ?_
     first | exact ⟨⟨_, rfl, rfl⟩, rfl, rfl⟩ | exact ⟨by kernel_rfl, ⟨_, rfl, rfl⟩, rfl, rfl⟩
    replace hT := (and_ok hx102).symm.trans hT
    refine sC (CallsM.ren (hcon.ok hx102) [0, 1] 10 rfl rfl rfl rfl) ?_
    clear hcon
    have hs1 := (Up.ok (Up.take hL t_rcur 0) hs hx102).1
    obtain rfl := mv_take1 hx102
    obtain rfl : PR.ok (ts.length : Int) ⟨i + 1, xs, ts ++ [(⟨9, 0, false, [], [], x, -1, cs⟩ : TY)]⟩ = T := hT
    have htl := hs.lt'
    repeat' (first | refine qgs ?_ | refine eD ?_ ?_ <;> intro)
    refine sC (CallsM.ren ((layc_c (L := L) (m := m) (i + 1) ts x (-1) cs (by omega))) [0, 1, 2, 3, 7, 9] 10 rfl rfl rfl rfl) ?_
    repeat' (first | refine qgs ?_ | refine eD ?_ ?_ <;> intro)
    exact ⟨rfl, TLe.rfl, rfl, rfl⟩
   ·replace hT := asc (stp1 (asc (atyB hT hv2)))
    have hs1 := stpS hL hs (isV_k hv2)
    refine sC (CallsM.ren ((may_yes i hi (by omega) _ hv2)) [0, 1] 10 rfl rfl rfl rfl) ?_
    repeat' (first | refine qgs ?_ | refine eD ?_ ?_ <;> intro)
    have hcon := take_c (m := m) ⟨i + 1, xs, ts⟩ hs1.i (by omega) t_colon
    rcases hx113 : (takeM L t_colon) ⟨i + 1, xs, ts⟩ with ⟨_, s9⟩ | ⟨i9, e9⟩
    rotate_left
    ·obtain rfl := (and_err hx113).symm.trans hT
     refine sC (CallsM.ren (hcon.err hx113) [0, 1] 10 rfl rfl rfl rfl) ?_
     first | exact ⟨⟨_, rfl, rfl⟩, rfl, rfl⟩ | exact ⟨by kernel_rfl, ⟨_, rfl, rfl⟩, rfl, rfl⟩
    replace hT := (and_ok hx113).symm.trans hT
    refine sC (CallsM.ren (hcon.ok hx113) [0, 1] 10 rfl rfl rfl rfl) ?_
    clear hcon
    have hs2 := (Up.ok (Up.take hL t_colon 0) hs1 hx113).1
    obtain rfl := mv_take1 hx113
    repeat' (first | refine qgs ?_ | refine eD ?_ ?_ <;> intro)
    replace hT := asc hT
    have hcon := hin ⟨i + 1 + 1, xs, ts⟩ (hs2.less (by omega))
    rcases hx : (innerM L m kd) ⟨i + 1 + 1, xs, ts⟩ with ⟨k, ⟨i3, xs3, ts3⟩⟩ | ⟨i9, e9⟩
    rotate_left
    ·obtain rfl := (and_err hx).symm.trans hT
     refine sC (CallsM.ren (hcon.err hx) [0, 1, 2, 3, 7, 9] 10 rfl rfl rfl rfl) ?_
     first | exact ⟨⟨_, rfl, rfl⟩, rfl, rfl⟩ | exact ⟨by kernel_rfl, ⟨_, rfl, rfl⟩, rfl, rfl⟩
    replace hT := (and_ok hx).symm.trans hT
    refine sC (CallsM.ren (hcon.ok hx) [0, 1, 2, 3, 7, 9] 10 rfl rfl rfl rfl) ?_
    clear hcon
    have hs3 := (Up.ok (up_inner m hu (c + 6)) (show SOk L (0 + (c + 6)) ⟨i + 1 + 1, xs, ts⟩ from hs2.less (by omega)) hx).1
    repeat' (first | refine qgs ?_ | refine eD ?_ ?_ <;> intro)
    replace hT := asc hT
    have hcon := take_c (m := m) ⟨i3, xs3, ts3⟩ hs3.i (by omega) t_semi
    rcases hx119 : (takeM L t_semi) ⟨i3, xs3, ts3⟩ with ⟨_, s9⟩ | ⟨i9, e9⟩
    rotate_left
    ·obtain rfl := (and_err hx119).symm.trans hT
     refine sC (CallsM.ren (hcon.err hx119) [0, 1] 12 rfl rfl rfl rfl) ?_
     first | exact ⟨⟨_, rfl, rfl⟩, rfl, rfl⟩ | exact ⟨by kernel_rfl, ⟨_, rfl, rfl⟩, rfl, rfl⟩
    replace hT := (and_ok hx119).symm.trans hT
    refine sC (CallsM.ren (hcon.ok hx119) [0, 1] 12 rfl rfl rfl rfl) ?_
    clear hcon
    have hs4 := (Up.ok (Up.take hL t_semi 0) hs3 hx119).1
    obtain rfl := mv_take1 hx119
    replace hT := pureT hT
    repeat' (first | refine qgs ?_ | refine eD ?_ ?_ <;> intro)
    have hcon := take_c (m := m) ⟨i3 + 1, xs3, ts3⟩ hs4.i (by omega) t_rcur
    rcases hx122 : (takeM L t_rcur) ⟨i3 + 1, xs3, ts3⟩ with ⟨_, s9⟩ | ⟨i9, e9⟩
    rotate_left
    ·obtain rfl := (and_err hx122).symm.trans hT
     refine sC (CallsM.ren (hcon.err hx122) [0, 1] 12 rfl rfl rfl rfl) ?_
     first | exact ⟨⟨_, rfl, rfl⟩, rfl, rfl⟩ | exact ⟨by kernel_rfl, ⟨_, rfl, rfl⟩, rfl, rfl⟩
    replace hT := (and_ok hx122).symm.trans hT
    refine sC (CallsM.ren (hcon.ok hx122) [0, 1] 12 rfl rfl rfl rfl) ?_
    clear hcon
    have hs5 := (Up.ok (Up.take hL t_rcur 0) hs4 hx122).1
    obtain rfl := mv_take1 hx122
    obtain rfl : PR.ok (ts3.length : Int) ⟨i3 + 1 + 1, xs3, ts3 ++ [(⟨9, 0, false, [], [], x, k, cs⟩ : TY)]⟩ = T := hT
    have htl := hs3.lt'
    have hi3 := hs3.lt
    repeat' (first | refine qgs ?_ | refine eD ?_ ?_ <;> intro)
    refine sC (CallsM.ren ((layc_c (L := L) (m := m) (i3 + 1 + 1) ts3 x k cs (by omega))) [0, 1, 2, 3, 10, 11] 12 rfl rfl rfl rfl) ?_
    repeat' (first | refine qgs ?_ | refine eD ?_ ?_ <;> intro)
    exact ⟨rfl, TLe.rfl, rfl, rfl⟩
  ·replace hT := asc (atyB hT hv)
   refine sC (CallsM.ren (his) [0, 1] 10 rfl rfl rfl rfl) ?_
   repeat' (first | refine ex_is cs.length (by simp) ?_ | refine qg1 ?_ | refine eD ?_ ?_ <;> intro)
   have hcon := room_c (m := m) ⟨i, xs, ts⟩ hi cs.length (by omega)
   rcases hr : (roomM cs.length) ⟨i, xs, ts⟩ with ⟨_, s9⟩ | ⟨i9, e9⟩
   rotate_left
   ·obtain rfl := (and_err hr).symm.trans hT
    refine sC (CallsM.ren (hcon.err hr) [0, 1] 10 rfl rfl rfl rfl) ?_
    first | exact ⟨⟨_, rfl, rfl⟩, rfl, rfl⟩ | exact ⟨by kernel_rfl, ⟨_, rfl, rfl⟩, rfl, rfl⟩
   replace hT := (and_ok hr).symm.trans hT
   refine sC (CallsM.ren (hcon.ok hr) [0, 1] 10 rfl rfl rfl rfl) ?_
   clear hcon
   obtain rfl := mv_room1 hr
   replace hT := asc (stp1 (asc hT))
   have hs1 := stpS hL hs (isV_k hv)
   repeat' (first | refine qgs ?_ | refine eD ?_ ?_ <;> intro)
   refine sC (CallsM.ren (((take_c (m := m) ⟨i, xs, ts⟩ hi (by omega) w_case).ok (takeY hv))) [0, 1] 10 rfl rfl rfl rfl) ?_
   repeat' (first | refine qgs ?_ | refine eD ?_ ?_ <;> intro)
   have hcon := num_c (m := m) ⟨i + 1, xs, ts⟩ hs1.i (by omega)
   rcases hx139 : (numberM L) ⟨i + 1, xs, ts⟩ with ⟨v, s9⟩ | ⟨i9, e9⟩
   rotate_left
   ·obtain rfl := (and_err hx139).symm.trans hT
    refine sC (CallsM.ren (hcon.err hx139) [0, 1] 10 rfl rfl rfl rfl) ?_
    first | exact ⟨⟨_, rfl, rfl⟩, rfl, rfl⟩ | exact ⟨by kernel_rfl, ⟨_, rfl, rfl⟩, rfl, rfl⟩
   replace hT := (and_ok hx139).symm.trans hT
   refine sC (CallsM.ren (hcon.ok hx139) [0, 1] 10 rfl rfl rfl rfl) ?_
   clear hcon
   have hs2 := (Up.ok (Up.number hL 0) hs1 hx139).1
   obtain rfl := mv_num1 hx139
   replace hT := asc hT
   repeat' (first | refine qgs ?_ | refine eD ?_ ?_ <;> intro)
   have hcon := take_c (m := m) ⟨i + 1 + 1, xs, ts⟩ hs2.i (by omega) t_colon
   rcases hx142 : (takeM L t_colon) ⟨i + 1 + 1, xs, ts⟩ with ⟨_, s9⟩ | ⟨i9, e9⟩
   rotate_left
   ·obtain rfl := (and_err hx142).symm.trans hT
    refine sC (CallsM.ren (hcon.err hx142) [0, 1] 10 rfl rfl rfl rfl) ?_
    first | exact ⟨⟨_, rfl, rfl⟩, rfl, rfl⟩ | exact ⟨by kernel_rfl, ⟨_, rfl, rfl⟩, rfl, rfl⟩
   replace hT := (and_ok hx142).symm.trans hT
   refine sC (CallsM.ren (hcon.ok hx142) [0, 1] 10 rfl rfl rfl rfl) ?_
   clear hcon
   have hs3 := (Up.ok (Up.take hL t_colon 0) hs2 hx142).1
   obtain rfl := mv_take1 hx142
   replace hT := asc hT
   repeat' (first | refine qgs ?_ | refine eD ?_ ?_ <;> intro)
   have hcon := hin ⟨i + 1 + 1 + 1, xs, ts⟩ (hs3.less (by omega))
   rcases hx : (innerM L m kd) ⟨i + 1 + 1 + 1, xs, ts⟩ with ⟨k, ⟨i3, xs3, ts3⟩⟩ | ⟨i9, e9⟩
   rotate_left
   ·obtain rfl := (and_err hx).symm.trans hT
    refine sC (CallsM.ren (hcon.err hx) [0, 1, 2, 3, 7, 9] 10 rfl rfl rfl rfl) ?_
    first | exact ⟨⟨_, rfl, rfl⟩, rfl, rfl⟩ | exact ⟨by kernel_rfl, ⟨_, rfl, rfl⟩, rfl, rfl⟩
   replace hT := (and_ok hx).symm.trans hT
   refine sC (CallsM.ren (hcon.ok hx) [0, 1, 2, 3, 7, 9] 10 rfl rfl rfl rfl) ?_
   clear hcon
   have hs4 := (Up.ok (up_inner m hu (c + 7)) (show SOk L (0 + (c + 7)) ⟨i + 1 + 1 + 1, xs, ts⟩ from hs3.less (by omega)) hx).1
   have hi3 : i + 1 + 1 + 1 ≤ i3 := (Up.ok (c := 0) (up_inner m hu 0) (hs3.less (by omega)) hx).2
   replace hs4 : SOk L (c + 7) ⟨i3, xs3, ts3⟩ := hs4.less (by omega)
   repeat' (first | refine qgs ?_ | refine eD ?_ ?_ <;> intro)
   refine ex_app (cs.length) (1) 1000 (by first | rfl | (simp; done) | (simp; omega)) (by first | rfl | (simp; done) | (simp; omega)) rfl (by omega) ?_
   refine ex_is (List.map caD (cs ++ [(⟨v, k⟩ : CA)])) (by rw [List.map_append]; rfl) ?_
   repeat' (first | refine qgs ?_ | refine eD ?_ ?_ <;> intro)
   replace hT := asc hT
   have hcon := take_c (m := m) ⟨i3, xs3, ts3⟩ hs4.i (by omega) t_semi
   rcases hx153 : (takeM L t_semi) ⟨i3, xs3, ts3⟩ with ⟨_, s9⟩ | ⟨i9, e9⟩
   rotate_left
   ·obtain rfl := (and_err hx153).symm.trans hT
    refine sC (CallsM.ren (hcon.err hx153) [0, 1] 14 rfl rfl rfl rfl) ?_
    first | exact ⟨⟨_, rfl, rfl⟩, rfl, rfl⟩ | exact ⟨by kernel_rfl, ⟨_, rfl, rfl⟩, rfl, rfl⟩
   replace hT := (and_ok hx153).symm.trans hT
   refine sC (CallsM.ren (hcon.ok hx153) [0, 1] 14 rfl rfl rfl rfl) ?_
   clear hcon
   have hs5 := (Up.ok (Up.take hL t_semi 0) hs4 hx153).1
   obtain rfl := mv_take1 hx153
   repeat' (first | refine qgs ?_ | refine eD ?_ ?_ <;> intro)
   exact ex_round (i3 + 1, xs3, ts3, cs ++ [(⟨v, k⟩ : CA)], n) ⟨hs5.less (by omega), by omega, by simp; omega, hT⟩ (by show L.length - (i3 + 1) < L.length - i; omega) (sR [(0, 0), (1, 1), (2, 2), (3, 3), (4, 4), (5, 5), (6, 6), (10, 7), (13, 8), (11, 9)])
end
end Go.Proofs.YtidnlfkakhmadaaGreatDoor

namespace Go.Proofs.YtidnlfkakhmadaaGreatDoor
open Go.RowKit

section
variable {L : List TokP} {m : Nat}
def sizedTV : Option Nat → TV
 | some k => .tup [c1 (di k), c1 (db true)]
 | none => .tup [c1 (di 0), c1 (db false)]
theorem sized_c (w : List UInt8) : CallsA Tryz.prog ΓL 96 [c1 (ds (bs w))] (sizedTV (sizedV w)) := by
 by_cases h : w = w_bytes ∨ w = w_zero ∨ w = w_skip ∨ w = w_window ∨ w = w_at
 ·rcases h with rfl | rfl | rfl | rfl | rfl
  all_goals
   refine fn_rule (C := ⟨Tryz.prog, layF, Tryz.f96.ntmps, ΓL, 0, [], []⟩) layF_ok mixed Tryz.func96 rfl (by kernel_rfl) rfl rfl rfl ?_
   repeat' (first | refine qgs ?_ | refine eD ?_ ?_ <;> intro)
   exact TLe.rfl
 ·have hne : ∀ l, l ∈ [w_bytes, w_zero, w_skip, w_window, w_at] → ¬ bs w = bs l := fun l hl he => h (by
   rw [bsj.1 he]
   simpa only [List.mem_cons, List.not_mem_nil, or_false] using hl)
  have h0 : sizedV w = none := by
   unfold sizedV
   rw [if_neg (fun e => h (by simp [e])), if_neg (fun e => h (by simp [e])), if_neg (fun e => h (by simp [e])), if_neg (fun e => h (by simp [e])), if_neg (fun e => h (by simp [e]))]
  rw [h0]
  refine fn_rule (C := ⟨Tryz.prog, layF, Tryz.f96.ntmps, ΓL, 0, [], []⟩) layF_ok mixed Tryz.func96 rfl (by kernel_rfl) rfl rfl rfl ?_
  repeat' (first | refine ex_false (hne _ (by decide)) ?_ | refine qg1 ?_ | refine eD ?_ ?_ <;> intro)
  exact TLe.rfl
set_option maxHeartbeats 4000000 in
theorem kind_named (hL : TokOk L) (hn : L.length ≤ 100000) (hm : m ≤ 32) (s : PS) (hs : SOk L 0 s) (hv : namedV L s.i = true) {kd : PM Int} : C2 L m 73 [] (kindF L m kd) (fun k => Ti k) s := by
 refine C2.of fun T hT => ?_
 unfold kindF at hT
 obtain ⟨i, xs, ts⟩ := s
 have hv : namedV L i = true := hv
 replace hT := aty hT hv
 have hnm := named_c (m := m) i hs.lt
 rw [hv] at hnm
 refine fn_ruleP (C := ⟨Tryz.prog, layF, Tryz.f73.ntmps, ΓL, 6, [], []⟩) layF_ok mixed Tryz.func73 rfl (by kernel_rfl) rfl rfl rfl SLe.rfl ?_
 repeat' (first | refine qgs ?_ | refine eD ?_ ?_ <;> intro)
 refine sC (CallsM.ren (hnm) [0, 1] 6 rfl rfl rfl rfl) ?_
 repeat' (first | refine qgs ?_ | refine eD ?_ ?_ <;> intro)
 have hcon := ref_c hL hn hm ⟨i, xs, ts⟩ hs
 rcases hx : (refM L m) ⟨i, xs, ts⟩ with ⟨t, ⟨i2, xs2, ts2⟩⟩ | ⟨i9, e9⟩
 rotate_left
 ·obtain rfl := (and_err hx).symm.trans hT
  refine sC (CallsM.ren (hcon.err hx) [0, 1, 2, 3, 4, 5] 6 rfl rfl rfl rfl) ?_
  first | exact ⟨⟨_, rfl, rfl⟩, rfl, rfl⟩ | exact ⟨by kernel_rfl, ⟨_, rfl, rfl⟩, rfl, rfl⟩
 replace hT := (and_ok hx).symm.trans hT
 refine sC (CallsM.ren (hcon.ok hx) [0, 1, 2, 3, 4, 5] 6 rfl rfl rfl rfl) ?_
 clear hcon
 have hs2 := (Up.ok (up_ref hL m) hs hx).1
 obtain rfl := (keep_ref).eq hx
 have hcon := array_c hL hn hm t ⟨i2, xs2, ts⟩ hs2
 rcases hy : (arrayM L m t) ⟨i2, xs2, ts⟩ with ⟨k, ⟨i3, xs3, ts3⟩⟩ | ⟨i9, e9⟩
 rotate_left
 ·obtain rfl := hy.symm.trans hT
  refine sC (CallsM.ren (hcon.err hy) [0, 1, 2, 3, 6, 5] 7 rfl rfl rfl rfl) ?_
  first | exact ⟨⟨_, rfl, rfl⟩, rfl, rfl⟩ | exact ⟨by kernel_rfl, ⟨_, rfl, rfl⟩, rfl, rfl⟩
 obtain rfl := hy.symm.trans hT
 refine sC (CallsM.ren (hcon.ok hy) [0, 1, 2, 3, 6, 5] 7 rfl rfl rfl rfl) ?_
 clear hcon
 repeat' (first | refine qgs ?_ | refine eD ?_ ?_ <;> intro)
 exact ⟨rfl, TLe.rfl, rfl, rfl⟩
theorem kind_bad (s : PS) (hi : s.i < L.length) (hv : startsV L s.i = false) {kd : PM Int} : C2 L m 73 [] (kindF L m kd) (fun k => Ti k) s := by
 refine C2.of fun T hT => ?_
 unfold kindF at hT
 obtain ⟨i, xs, ts⟩ := s
 have hv : startsV L i = false := hv
 have hi : i < L.length := hi
 have hv1 : namedV L i = false := by
  unfold startsV at hv
  rw [Bool.or_eq_false_iff] at hv
  exact hv.1
 obtain rfl : PR.err i 4 = T := atn (atn hT hv1) hv
 have hnm := named_c (m := m) i hi
 rw [hv1] at hnm
 have hst := starts_c (m := m) i hi
 rw [hv] at hst
 refine fn_ruleP (C := ⟨Tryz.prog, layF, Tryz.f73.ntmps, ΓL, 6, [], []⟩) layF_ok mixed Tryz.func73 rfl (by kernel_rfl) rfl rfl rfl SLe.rfl ?_
 repeat' (first | refine qgs ?_ | refine eD ?_ ?_ <;> intro)
 refine sC (CallsM.ren (hnm) [0, 1] 6 rfl rfl rfl rfl) ?_
 repeat' (first | refine qgs ?_ | refine eD ?_ ?_ <;> intro)
 refine sC (CallsM.ren (hst) [0, 1] 6 rfl rfl rfl rfl) ?_
 repeat' (first | refine qgs ?_ | refine eD ?_ ?_ <;> intro)
 refine sC (CallsM.ren ((fail_c (m := m) i 4 hi)) [0, 1] 6 rfl rfl rfl rfl) ?_
 exact ⟨⟨_, rfl, rfl⟩, rfl, rfl⟩
end
end Go.Proofs.YtidnlfkakhmadaaGreatDoor
