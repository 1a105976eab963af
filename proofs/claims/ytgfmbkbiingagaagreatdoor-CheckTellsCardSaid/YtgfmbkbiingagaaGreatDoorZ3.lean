/- Texts that the last one leans on: The types' table of this program, as literals. No condition. Rules for walking code over the abstract state. No condition. A row that is written no more is data wherever it is named. No condition. A walk by itself: tests are split (those that cannot be are left away), reckonings that stay within bounds, ends of drawing regions, calls met by the contracts named. No condition. A function whose first result is a row of its own, kept as a row. No condition. A function whose results keep their names: pointers to objects, rows. No condition. Data that reads as other data; a contract met with such arguments. No condition. A function of data whose result is flat, called with rows that stay with their names. No condition. Equality of numbers, strings, truth values, and of structs and arrays of such. No condition. Plain law of instructions in lines: words, numbers as they are written, lines, fields; a program's text and what lines are parsed to. No condition. Plain law of well made programs: what is known at an instruction, what an instruction asks and does, the list of places that are left, a function, a program. No condition. slices.IndexFunc, DeleteFunc, Min over the list of places. No condition but lengths. A name that is given up; a row under a new name. No condition. The shelf's contracts at this program (laid by the kit's tool, cut down to those used). What is known of a program's variables, put together: tables, numbers, errors. No condition. s -/
import Derived.Test.YtgfmbkbiingagaaGreatDoorRows
import Derived.Laws.StructEq
import Derived.ChangeKeysEq
import Derived.Lib.SplitLaws
import Derived.Lib.AtoiAllCases
import Derived.Lib.ParseIntB
import Derived.Lib.ItoaNum
import Derived.Shelf.Utf8.RuneCount
import Derived.Shelf.Strconv.Atoi
import Derived.Shelf.Strconv.Itoa0
import Derived.Shelf.Strconv.Itoa1
import Derived.Shelf.LaysM
import Derived.Shelf.Strconv.Itoa2
import Derived.Shelf.Strconv.Itoa3
import Derived.Shelf.Strconv.AtoiErrFast
import Derived.Shelf.Strconv.ParseIntEmpty
import Derived.Shelf.Strconv.AtoiFail
import Derived.Shelf.Strconv.Clone
import Derived.Shelf.Strconv.SyntaxError
import Derived.Shelf.LaysC
import Derived.Shelf.Strconv.ToError
import Derived.Shelf.Strconv.AtoiErr
import Derived.Shelf.Strconv.ErrVar
import Derived.Shelf.Strconv.Lower
import Derived.Shelf.Strconv.ParseUint10
import Derived.Shelf.Strconv.ParseUint10Empty
import Derived.Shelf.Strconv.ParseUint10Any
import Derived.Shelf.Strconv.ParseInt10
import Derived.Shelf.Strconv.AtoiLong
import Derived.Shelf.Strconv.AtoiInnerAll
import Derived.Shelf.Strconv.RangeError
import Derived.Shelf.Strconv.ToErrorRange
import Derived.Shelf.Strconv.AtoiAll
import Derived.Shelf.Strconv.ErrVarAll
import Derived.Shelf.Strconv.ParseUintEmpty
import Derived.Shelf.Strconv.ParseUint10b64
import Derived.Shelf.Strconv.ParseUint10b32
import Derived.Shelf.Strconv.ParseUint10b16
import Derived.Shelf.Strconv.ParseUint10b8
import Derived.Shelf.Strconv.ParseUint10At
import Derived.Shelf.Strconv.ParseInt10At64
import Derived.Shelf.Strconv.ParseInt10At32
import Derived.Shelf.Strconv.ParseInt10At16
import Derived.Shelf.Strconv.ParseInt10At8
import Derived.Shelf.Strconv.ParseInt10All
import Derived.Ground.MpProg
import Derived.Shelf.Pu.ParseUintPublic10
import Derived.Shelf.Pu.ErrVarParseUint
import Derived.Shelf.Strings.Search1
import Derived.Shelf.Strings.Search2
import Derived.Shelf.Strings.Search3
import Derived.Shelf.Strings.Count
import Derived.Shelf.Strings.Shaped
import Derived.Shelf.Strings.Prefix
import Derived.Shelf.Strings.Split
import Derived.Shelf.Strings.SplitShaped
import Derived.Shelf.Unicode.Decode
import Derived.Shelf.Strings.RuneCount
import Derived.Shelf.Strings.Explode
import Derived.Shelf.Unicode.DecodeSlow
import Derived.Shelf.Unicode.DecodeAny
import Derived.Shelf.Slices.Turned
import Derived.Test.YtgfmbkbiingagaaGreatDoorProg
import Derived.Lib.AppendIntMem
import Derived.Test.YtgfmbkbiingagaaGreatDoorZ1
import Derived.Test.YtgfmbkbiingagaaGreatDoorZ2
namespace Go.Proofs.YtgfmbkbiingagaaGreatDoor
set_option linter.unusedVariables false
set_option linter.unusedSimpArgs false

def lay : List (Nat × Lay) := [
  (1, ⟨1, 8, [.nilFunc], .other⟩),
  (2, ⟨1, 8, [.int .i64 0], .int .i64⟩),
  (3, ⟨1, 8, [.int .i64 0], .int .i64⟩),
  (4, ⟨1, 1, [.bool false], .bool⟩),
  (5, ⟨1, 1, [.int .u8 0], .int .u8⟩),
  (6, ⟨1, 1, [.int .u8 0], .int .u8⟩),
  (7, ⟨4, 24, [.int .i64 0, .int .i64 0, .bool false, .int .u8 0], .st [(0, 1, false), (1, 1, false), (2, 1, false), (3, 1, false)]⟩),
  (8, ⟨4, 24, [.int .i64 0, .int .i64 0, .bool false, .int .u8 0], .st [(0, 1, false), (1, 1, false), (2, 1, false), (3, 1, false)]⟩),
  (9, ⟨1, 16, [.string ⟨#[]⟩], .str⟩),
  (10, ⟨1, 16, [.string ⟨#[]⟩], .str⟩),
  (11, ⟨1, 16, [.string ⟨#[]⟩], .str⟩),
  (12, ⟨1, 8, [.int .u64 0], .int .u64⟩),
  (13, ⟨2, 24, [.string ⟨#[]⟩, .int .u64 0], .st [(0, 1, false), (1, 1, false)]⟩),
  (14, ⟨2, 24, [.string ⟨#[]⟩, .int .u64 0], .st [(0, 1, false), (1, 1, false)]⟩),
  (15, ⟨1, 8, [.pointer none], .other⟩),
  (16, ⟨1, 8, [.pointer none], .other⟩),
  (17, ⟨1, 8, [.pointer none], .other⟩),
  (18, ⟨1, 8, [.pointer none], .st [(0, 1, false)]⟩),
  (19, ⟨1, 8, [.pointer none], .st [(0, 1, false)]⟩),
  (20, ⟨1, 16, [.nilIface], .other⟩),
  (21, ⟨1, 4, [.int .i32 0], .int .i32⟩),
  (22, ⟨1, 24, [.slice none 0 0], .sl 42⟩),
  (23, ⟨1, 24, [.slice none 0 0], .sl 47⟩),
  (24, ⟨1, 24, [.slice none 0 0], .sl 44⟩),
  (25, ⟨1, 24, [.slice none 0 0], .sl 50⟩),
  (26, ⟨2, 48, [.slice none 0 0, .slice none 0 0], .st [(0, 1, false), (1, 1, false)]⟩),
  (27, ⟨2, 48, [.slice none 0 0, .slice none 0 0], .st [(0, 1, false), (1, 1, false)]⟩),
  (28, ⟨1, 24, [.slice none 0 0], .sl 51⟩),
  (29, ⟨2, 48, [.slice none 0 0, .slice none 0 0], .st [(0, 1, false), (1, 1, false)]⟩),
  (30, ⟨2, 48, [.slice none 0 0, .slice none 0 0], .st [(0, 1, false), (1, 1, false)]⟩),
  (32, ⟨1, 8, [.nilFunc], .other⟩),
  (33, ⟨1, 8, [.int .i64 0], .int .i64⟩),
  (35, ⟨1, 8, [.nilFunc], .other⟩),
  (37, ⟨1, 8, [.nilFunc], .other⟩),
  (38, ⟨1, 8, [.nilFunc], .other⟩),
  (39, ⟨1, 8, [.nilFunc], .other⟩),
  (40, ⟨1, 8, [.nilFunc], .other⟩),
  (41, ⟨1, 8, [.nilFunc], .other⟩),
  (42, ⟨3, 24, [.int .i64 0, .int .i64 0, .int .i64 0], .arr 3 3⟩),
  (43, ⟨3, 24, [.int .i64 0, .int .i64 0, .int .i64 0], .st [(0, 1, false), (1, 1, false), (2, 1, false)]⟩),
  (44, ⟨3, 24, [.int .i64 0, .int .i64 0, .int .i64 0], .st [(0, 1, false), (1, 1, false), (2, 1, false)]⟩),
  (45, ⟨1, 8, [.int .u64 0], .int .u64⟩),
  (46, ⟨4, 32, [.int .i64 0, .int .i64 0, .int .i64 0, .int .u64 0], .st [(0, 1, false), (1, 1, false), (2, 1, false), (3, 1, false)]⟩),
  (47, ⟨4, 32, [.int .i64 0, .int .i64 0, .int .i64 0, .int .u64 0], .st [(0, 1, false), (1, 1, false), (2, 1, false), (3, 1, false)]⟩),
  (48, ⟨1, 8, [.int .i64 0], .int .i64⟩),
  (49, ⟨4, 32, [.int .i64 0, .int .i64 0, .int .i64 0, .int .u64 0], .st [(0, 1, false), (1, 1, false), (2, 1, false), (3, 1, false)]⟩),
  (50, ⟨4, 32, [.int .i64 0, .int .i64 0, .int .i64 0, .int .u64 0], .st [(0, 1, false), (1, 1, false), (2, 1, false), (3, 1, false)]⟩),
  (51, ⟨4, 32, [.int .i64 0, .int .i64 0, .int .i64 0, .int .u64 0], .st [(0, 1, false), (1, 1, false), (2, 1, false), (3, 1, false)]⟩),
  (52, ⟨1, 8, [.nilFunc], .other⟩),
  (53, ⟨1, 8, [.nilFunc], .other⟩),
  (54, ⟨1, 8, [.nilFunc], .other⟩),
  (55, ⟨1, 8, [.nilFunc], .other⟩),
  (56, ⟨1, 24, [.slice none 0 0], .sl 60⟩),
  (57, ⟨1, 24, [.slice none 0 0], .sl 4⟩),
  (58, ⟨1, 24, [.slice none 0 0], .sl 3⟩),
  (59, ⟨5, 48, [.bool false, .int .i64 0, .slice none 0 0, .bool false, .bool false], .st [(0, 1, false), (1, 1, false), (2, 1, false), (3, 1, false), (4, 1, false)]⟩),
  (60, ⟨5, 48, [.bool false, .int .i64 0, .slice none 0 0, .bool false, .bool false], .st [(0, 1, false), (1, 1, false), (2, 1, false), (3, 1, false), (4, 1, false)]⟩),
  (61, ⟨1, 8, [.nilFunc], .other⟩),
  (62, ⟨1, 8, [.nilFunc], .other⟩),
  (63, ⟨1, 8, [.nilFunc], .other⟩),
  (64, ⟨1, 8, [.pointer none], .other⟩),
  (65, ⟨1, 8, [.map none], .map 3 70⟩),
  (66, ⟨9, 120, [.slice none 0 0, .slice none 0 0, .int .i64 0, .int .i64 0, .int .i64 0, .map none, .slice none 0 0, .int .i64 0, .int .i64 0], .st [(0, 2, true), (2, 1, false), (3, 1, false), (4, 1, false), (5, 1, false), (6, 1, false), (7, 1, false), (8, 1, false)]⟩),
  (67, ⟨9, 120, [.slice none 0 0, .slice none 0 0, .int .i64 0, .int .i64 0, .int .i64 0, .map none, .slice none 0 0, .int .i64 0, .int .i64 0], .st [(0, 2, true), (2, 1, false), (3, 1, false), (4, 1, false), (5, 1, false), (6, 1, false), (7, 1, false), (8, 1, false)]⟩),
  (68, ⟨1, 8, [.nilFunc], .other⟩),
  (69, ⟨4, 32, [.int .i64 0, .string ⟨#[]⟩, .bool false, .bool false], .st [(0, 1, false), (1, 1, false), (2, 1, false), (3, 1, false)]⟩),
  (70, ⟨4, 32, [.int .i64 0, .string ⟨#[]⟩, .bool false, .bool false], .st [(0, 1, false), (1, 1, false), (2, 1, false), (3, 1, false)]⟩),
  (71, ⟨1, 8, [.nilFunc], .other⟩),
  (72, ⟨1, 8, [.nilFunc], .other⟩),
  (73, ⟨1, 8, [.nilFunc], .other⟩),
  (74, ⟨1, 8, [.nilFunc], .other⟩),
  (76, ⟨1, 8, [.nilFunc], .other⟩),
  (77, ⟨1, 8, [.nilFunc], .other⟩),
  (78, ⟨1, 8, [.nilFunc], .other⟩),
  (79, ⟨1, 8, [.nilFunc], .other⟩),
  (80, ⟨1, 8, [.nilFunc], .other⟩),
  (82, ⟨1, 8, [.nilFunc], .other⟩),
  (83, ⟨1, 8, [.nilFunc], .other⟩),
  (84, ⟨1, 8, [.nilFunc], .other⟩),
  (85, ⟨1, 8, [.nilFunc], .other⟩),
  (86, ⟨1, 24, [.slice none 0 0], .sl 9⟩),
  (87, ⟨1, 8, [.nilFunc], .other⟩),
  (88, ⟨1, 8, [.nilFunc], .other⟩),
  (89, ⟨1, 8, [.nilFunc], .other⟩),
  (91, ⟨1, 8, [.nilFunc], .other⟩),
  (92, ⟨1, 8, [.nilFunc], .other⟩),
  (93, ⟨1, 8, [.nilFunc], .other⟩),
  (95, ⟨1, 8, [.nilFunc], .other⟩),
  (96, ⟨1, 8, [.nilFunc], .other⟩),
  (98, ⟨1, 8, [.nilFunc], .other⟩),
  (99, ⟨1, 8, [.nilFunc], .other⟩),
  (100, ⟨1, 8, [.pointer none], .other⟩),
  (102, ⟨1, 8, [.nilFunc], .other⟩),
  (104, ⟨1, 8, [.nilFunc], .other⟩),
  (105, ⟨1, 8, [.nilFunc], .other⟩),
  (106, ⟨1, 8, [.nilFunc], .other⟩),
  (107, ⟨1, 8, [.nilFunc], .other⟩),
  (108, ⟨1, 24, [.slice none 0 0], .sl 5⟩),
  (109, ⟨4, 40, [.string ⟨#[]⟩, .int .i64 0, .int .i64 0, .int .i64 0], .st [(0, 1, false), (1, 1, false), (2, 1, false), (3, 1, false)]⟩),
  (110, ⟨4, 40, [.string ⟨#[]⟩, .int .i64 0, .int .i64 0, .int .i64 0], .st [(0, 1, false), (1, 1, false), (2, 1, false), (3, 1, false)]⟩),
  (111, ⟨1, 8, [.nilFunc], .other⟩),
  (112, ⟨1, 8, [.nilFunc], .other⟩),
  (113, ⟨1, 8, [.nilFunc], .other⟩),
  (114, ⟨1, 8, [.nilFunc], .other⟩),
  (116, ⟨1, 8, [.nilFunc], .other⟩),
  (117, ⟨144, 1440, [.string ⟨#[]⟩, .int .i64 0, .int .i64 0, .int .i64 0, .string ⟨#[]⟩, .int .i64 0, .int .i64 0, .int .i64 0, .string ⟨#[]⟩, .int .i64 0, .int .i64 0, .int .i64 0, .string ⟨#[]⟩, .int .i64 0, .int .i64 0, .int .i64 0, .string ⟨#[]⟩, .int .i64 0, .int .i64 0, .int .i64 0, .string ⟨#[]⟩, .int .i64 0, .int .i64 0, .int .i64 0, .string ⟨#[]⟩, .int .i64 0, .int .i64 0, .int .i64 0, .string ⟨#[]⟩, .int .i64 0, .int .i64 0, .int .i64 0, .string ⟨#[]⟩, .int .i64 0, .int .i64 0, .int .i64 0, .string ⟨#[]⟩, .int .i64 0, .int .i64 0, .int .i64 0, .string ⟨#[]⟩, .int .i64 0, .int .i64 0, .int .i64 0, .string ⟨#[]⟩, .int .i64 0, .int .i64 0, .int .i64 0, .string ⟨#[]⟩, .int .i64 0, .int .i64 0, .int .i64 0, .string ⟨#[]⟩, .int .i64 0, .int .i64 0, .int .i64 0, .string ⟨#[]⟩, .int .i64 0, .int .i64 0, .int .i64 0, .string ⟨#[]⟩, .int .i64 0, .int .i64 0, .int .i64 0, .string ⟨#[]⟩, .int .i64 0, .int .i64 0, .int .i64 0, .string ⟨#[]⟩, .int .i64 0, .int .i64 0, .int .i64 0, .string ⟨#[]⟩, .int .i64 0, .int .i64 0, .int .i64 0, .string ⟨#[]⟩, .int .i64 0, .int .i64 0, .int .i64 0, .string ⟨#[]⟩, .int .i64 0, .int .i64 0, .int .i64 0, .string ⟨#[]⟩, .int .i64 0, .int .i64 0, .int .i64 0, .string ⟨#[]⟩, .int .i64 0, .int .i64 0, .int .i64 0, .string ⟨#[]⟩, .int .i64 0, .int .i64 0, .int .i64 0, .string ⟨#[]⟩, .int .i64 0, .int .i64 0, .int .i64 0, .string ⟨#[]⟩, .int .i64 0, .int .i64 0, .int .i64 0, .string ⟨#[]⟩, .int .i64 0, .int .i64 0, .int .i64 0, .string ⟨#[]⟩, .int .i64 0, .int .i64 0, .int .i64 0, .string ⟨#[]⟩, .int .i64 0, .int .i64 0, .int .i64 0, .string ⟨#[]⟩, .int .i64 0, .int .i64 0, .int .i64 0, .string ⟨#[]⟩, .int .i64 0, .int .i64 0, .int .i64 0, .string ⟨#[]⟩, .int .i64 0, .int .i64 0, .int .i64 0, .string ⟨#[]⟩, .int .i64 0, .int .i64 0, .int .i64 0, .string ⟨#[]⟩, .int .i64 0, .int .i64 0, .int .i64 0, .string ⟨#[]⟩, .int .i64 0, .int .i64 0, .int .i64 0, .string ⟨#[]⟩, .int .i64 0, .int .i64 0, .int .i64 0], .arr 36 110⟩),
  (118, ⟨1, 16, [.nilIface], .other⟩),
  (119, ⟨1, 16, [.nilIface], .other⟩),
  (121, ⟨1, 8, [.nilFunc], .other⟩),
  (122, ⟨1, 8, [.nilFunc], .other⟩),
  (124, ⟨1, 8, [.nilFunc], .other⟩),
  (125, ⟨1, 8, [.nilFunc], .other⟩),
  (126, ⟨1, 8, [.nilFunc], .other⟩),
  (127, ⟨1, 8, [.nilFunc], .other⟩),
  (129, ⟨1, 8, [.nilFunc], .other⟩),
  (130, ⟨1, 8, [.nilFunc], .other⟩),
  (131, ⟨1, 8, [.nilFunc], .other⟩),
  (133, ⟨1, 8, [.nilFunc], .other⟩),
  (134, ⟨1, 8, [.nilFunc], .other⟩),
  (135, ⟨1, 8, [.nilFunc], .other⟩),
  (136, ⟨1, 8, [.nilFunc], .other⟩),
  (137, ⟨1, 8, [.int .u64 0], .int .u64⟩),
  (138, ⟨1, 8, [.int .i64 0], .int .i64⟩),
  (139, ⟨1, 8, [.nilFunc], .other⟩),
  (140, ⟨1, 8, [.pointer none], .other⟩),
  (141, ⟨1, 8, [.nilFunc], .other⟩),
  (142, ⟨1, 8, [.nilFunc], .other⟩),
  (143, ⟨24, 24, [.int .u8 0, .int .u8 0, .int .u8 0, .int .u8 0, .int .u8 0, .int .u8 0, .int .u8 0, .int .u8 0, .int .u8 0, .int .u8 0, .int .u8 0, .int .u8 0, .int .u8 0, .int .u8 0, .int .u8 0, .int .u8 0, .int .u8 0, .int .u8 0, .int .u8 0, .int .u8 0, .int .u8 0, .int .u8 0, .int .u8 0, .int .u8 0], .arr 24 5⟩),
  (144, ⟨1, 8, [.nilFunc], .other⟩),
  (145, ⟨1, 8, [.nilFunc], .other⟩),
  (147, ⟨1, 8, [.nilFunc], .other⟩),
  (148, ⟨256, 256, [.int .u8 0, .int .u8 0, .int .u8 0, .int .u8 0, .int .u8 0, .int .u8 0, .int .u8 0, .int .u8 0, .int .u8 0, .int .u8 0, .int .u8 0, .int .u8 0, .int .u8 0, .int .u8 0, .int .u8 0, .int .u8 0, .int .u8 0, .int .u8 0, .int .u8 0, .int .u8 0, .int .u8 0, .int .u8 0, .int .u8 0, .int .u8 0, .int .u8 0, .int .u8 0, .int .u8 0, .int .u8 0, .int .u8 0, .int .u8 0, .int .u8 0, .int .u8 0, .int .u8 0, .int .u8 0, .int .u8 0, .int .u8 0, .int .u8 0, .int .u8 0, .int .u8 0, .int .u8 0, .int .u8 0, .int .u8 0, .int .u8 0, .int .u8 0, .int .u8 0, .int .u8 0, .int .u8 0, .int .u8 0, .int .u8 0, .int .u8 0, .int .u8 0, .int .u8 0, .int .u8 0, .int .u8 0, .int .u8 0, .int .u8 0, .int .u8 0, .int .u8 0, .int .u8 0, .int .u8 0, .int .u8 0, .int .u8 0, .int .u8 0, .int .u8 0, .int .u8 0, .int .u8 0, .int .u8 0, .int .u8 0, .int .u8 0, .int .u8 0, .int .u8 0, .int .u8 0, .int .u8 0, .int .u8 0, .int .u8 0, .int .u8 0, .int .u8 0, .int .u8 0, .int .u8 0, .int .u8 0, .int .u8 0, .int .u8 0, .int .u8 0, .int .u8 0, .int .u8 0, .int .u8 0, .int .u8 0, .int .u8 0, .int .u8 0, .int .u8 0, .int .u8 0, .int .u8 0, .int .u8 0, .int .u8 0, .int .u8 0, .int .u8 0, .int .u8 0, .int .u8 0, .int .u8 0, .int .u8 0, .int .u8 0, .int .u8 0, .int .u8 0, .int .u8 0, .int .u8 0, .int .u8 0, .int .u8 0, .int .u8 0, .int .u8 0, .int .u8 0, .int .u8 0, .int .u8 0, .int .u8 0, .int .u8 0, .int .u8 0, .int .u8 0, .int .u8 0, .int .u8 0, .int .u8 0, .int .u8 0, .int .u8 0, .int .u8 0, .int .u8 0, .int .u8 0, .int .u8 0, .int .u8 0, .int .u8 0, .int .u8 0, .int .u8 0, .int .u8 0, .int .u8 0, .int .u8 0, .int .u8 0, .int .u8 0, .int .u8 0, .int .u8 0, .int .u8 0, .int .u8 0, .int .u8 0, .int .u8 0, .int .u8 0, .int .u8 0, .int .u8 0, .int .u8 0, .int .u8 0, .int .u8 0, .int .u8 0, .int .u8 0, .int .u8 0, .int .u8 0, .int .u8 0, .int .u8 0, .int .u8 0, .int .u8 0, .int .u8 0, .int .u8 0, .int .u8 0, .int .u8 0, .int .u8 0, .int .u8 0, .int .u8 0, .int .u8 0, .int .u8 0, .int .u8 0, .int .u8 0, .int .u8 0, .int .u8 0, .int .u8 0, .int .u8 0, .int .u8 0, .int .u8 0, .int .u8 0, .int .u8 0, .int .u8 0, .int .u8 0, .int .u8 0, .int .u8 0, .int .u8 0, .int .u8 0, .int .u8 0, .int .u8 0, .int .u8 0, .int .u8 0, .int .u8 0, .int .u8 0, .int .u8 0, .int .u8 0, .int .u8 0, .int .u8 0, .int .u8 0, .int .u8 0, .int .u8 0, .int .u8 0, .int .u8 0, .int .u8 0, .int .u8 0, .int .u8 0, .int .u8 0, .int .u8 0, .int .u8 0, .int .u8 0, .int .u8 0, .int .u8 0, .int .u8 0, .int .u8 0, .int .u8 0, .int .u8 0, .int .u8 0, .int .u8 0, .int .u8 0, .int .u8 0, .int .u8 0, .int .u8 0, .int .u8 0, .int .u8 0, .int .u8 0, .int .u8 0, .int .u8 0, .int .u8 0, .int .u8 0, .int .u8 0, .int .u8 0, .int .u8 0, .int .u8 0, .int .u8 0, .int .u8 0, .int .u8 0, .int .u8 0, .int .u8 0, .int .u8 0, .int .u8 0, .int .u8 0, .int .u8 0, .int .u8 0, .int .u8 0, .int .u8 0, .int .u8 0, .int .u8 0, .int .u8 0, .int .u8 0, .int .u8 0, .int .u8 0, .int .u8 0, .int .u8 0, .int .u8 0, .int .u8 0, .int .u8 0, .int .u8 0, .int .u8 0, .int .u8 0, .int .u8 0, .int .u8 0, .int .u8 0, .int .u8 0, .int .u8 0, .int .u8 0], .arr 256 5⟩),
  (149, ⟨2, 2, [.int .u8 0, .int .u8 0], .st [(0, 1, false), (1, 1, false)]⟩),
  (150, ⟨2, 2, [.int .u8 0, .int .u8 0], .st [(0, 1, false), (1, 1, false)]⟩),
  (151, ⟨32, 32, [.int .u8 0, .int .u8 0, .int .u8 0, .int .u8 0, .int .u8 0, .int .u8 0, .int .u8 0, .int .u8 0, .int .u8 0, .int .u8 0, .int .u8 0, .int .u8 0, .int .u8 0, .int .u8 0, .int .u8 0, .int .u8 0, .int .u8 0, .int .u8 0, .int .u8 0, .int .u8 0, .int .u8 0, .int .u8 0, .int .u8 0, .int .u8 0, .int .u8 0, .int .u8 0, .int .u8 0, .int .u8 0, .int .u8 0, .int .u8 0, .int .u8 0, .int .u8 0], .arr 16 150⟩),
  (152, ⟨1, 4, [.int .u32 0], .int .u32⟩),
  (154, ⟨1, 8, [.nilFunc], .other⟩),
  (155, ⟨1, 8, [.nilFunc], .other⟩),
  (156, ⟨3, 48, [.string ⟨#[]⟩, .string ⟨#[]⟩, .nilIface], .st [(0, 1, false), (1, 1, false), (2, 1, false)]⟩),
  (157, ⟨3, 48, [.string ⟨#[]⟩, .string ⟨#[]⟩, .nilIface], .st [(0, 1, false), (1, 1, false), (2, 1, false)]⟩),
  (158, ⟨1, 8, [.nilFunc], .other⟩),
  (159, ⟨1, 8, [.nilFunc], .other⟩),
  (160, ⟨20, 160, [.int .u64 0, .int .u64 0, .int .u64 0, .int .u64 0, .int .u64 0, .int .u64 0, .int .u64 0, .int .u64 0, .int .u64 0, .int .u64 0, .int .u64 0, .int .u64 0, .int .u64 0, .int .u64 0, .int .u64 0, .int .u64 0, .int .u64 0, .int .u64 0, .int .u64 0, .int .u64 0], .arr 20 45⟩),
  (161, ⟨65, 65, [.int .u8 0, .int .u8 0, .int .u8 0, .int .u8 0, .int .u8 0, .int .u8 0, .int .u8 0, .int .u8 0, .int .u8 0, .int .u8 0, .int .u8 0, .int .u8 0, .int .u8 0, .int .u8 0, .int .u8 0, .int .u8 0, .int .u8 0, .int .u8 0, .int .u8 0, .int .u8 0, .int .u8 0, .int .u8 0, .int .u8 0, .int .u8 0, .int .u8 0, .int .u8 0, .int .u8 0, .int .u8 0, .int .u8 0, .int .u8 0, .int .u8 0, .int .u8 0, .int .u8 0, .int .u8 0, .int .u8 0, .int .u8 0, .int .u8 0, .int .u8 0, .int .u8 0, .int .u8 0, .int .u8 0, .int .u8 0, .int .u8 0, .int .u8 0, .int .u8 0, .int .u8 0, .int .u8 0, .int .u8 0, .int .u8 0, .int .u8 0, .int .u8 0, .int .u8 0, .int .u8 0, .int .u8 0, .int .u8 0, .int .u8 0, .int .u8 0, .int .u8 0, .int .u8 0, .int .u8 0, .int .u8 0, .int .u8 0, .int .u8 0, .int .u8 0, .int .u8 0], .arr 65 5⟩),
  (162, ⟨1, 8, [.nilFunc], .other⟩),
  (164, ⟨1, 8, [.nilFunc], .other⟩),
  (165, ⟨1, 8, [.nilFunc], .other⟩),
  (166, ⟨1, 8, [.pointer none], .other⟩),
  (167, ⟨1, 8, [.pointer none], .other⟩),
  (168, ⟨1, 16, [.string ⟨#[]⟩], .st [(0, 1, false)]⟩),
  (169, ⟨1, 16, [.string ⟨#[]⟩], .st [(0, 1, false)]⟩),
  (170, ⟨1, 8, [.nilFunc], .other⟩),
  (171, ⟨32, 32, [.int .u8 0, .int .u8 0, .int .u8 0, .int .u8 0, .int .u8 0, .int .u8 0, .int .u8 0, .int .u8 0, .int .u8 0, .int .u8 0, .int .u8 0, .int .u8 0, .int .u8 0, .int .u8 0, .int .u8 0, .int .u8 0, .int .u8 0, .int .u8 0, .int .u8 0, .int .u8 0, .int .u8 0, .int .u8 0, .int .u8 0, .int .u8 0, .int .u8 0, .int .u8 0, .int .u8 0, .int .u8 0, .int .u8 0, .int .u8 0, .int .u8 0, .int .u8 0], .arr 32 5⟩),
  (172, ⟨64, 64, [.int .u8 0, .int .u8 0, .int .u8 0, .int .u8 0, .int .u8 0, .int .u8 0, .int .u8 0, .int .u8 0, .int .u8 0, .int .u8 0, .int .u8 0, .int .u8 0, .int .u8 0, .int .u8 0, .int .u8 0, .int .u8 0, .int .u8 0, .int .u8 0, .int .u8 0, .int .u8 0, .int .u8 0, .int .u8 0, .int .u8 0, .int .u8 0, .int .u8 0, .int .u8 0, .int .u8 0, .int .u8 0, .int .u8 0, .int .u8 0, .int .u8 0, .int .u8 0, .int .u8 0, .int .u8 0, .int .u8 0, .int .u8 0, .int .u8 0, .int .u8 0, .int .u8 0, .int .u8 0, .int .u8 0, .int .u8 0, .int .u8 0, .int .u8 0, .int .u8 0, .int .u8 0, .int .u8 0, .int .u8 0, .int .u8 0, .int .u8 0, .int .u8 0, .int .u8 0, .int .u8 0, .int .u8 0, .int .u8 0, .int .u8 0, .int .u8 0, .int .u8 0, .int .u8 0, .int .u8 0, .int .u8 0, .int .u8 0, .int .u8 0, .int .u8 0], .arr 64 5⟩),
  (173, ⟨4, 40, [.pointer none, .pointer none, .pointer none, .string ⟨#[]⟩], .st [(0, 1, false), (1, 1, false), (2, 1, false), (3, 1, false)]⟩),
  (174, ⟨4, 40, [.pointer none, .pointer none, .pointer none, .string ⟨#[]⟩], .st [(0, 1, false), (1, 1, false), (2, 1, false), (3, 1, false)]⟩),
  (175, ⟨0, 0, [], .arr 0 16⟩),
  (176, ⟨0, 0, [], .st [(0, 0, true)]⟩),
  (177, ⟨0, 0, [], .st [(0, 0, true)]⟩),
  (178, ⟨1, 8, [.nilFunc], .other⟩),
  (179, ⟨1, 1, [.int .u8 0], .int .u8⟩),
  (180, ⟨1, 1, [.int .u8 0], .int .u8⟩),
  (181, ⟨1, 8, [.nilFunc], .other⟩),
  (182, ⟨1, 4, [.int .i32 0], .int .i32⟩),
  (183, ⟨1, 4, [.int .i32 0], .int .i32⟩),
  (184, ⟨11, 48, [.int .u64 0, .int .u64 0, .int .u32 0, .int .u8 0, .int .u8 0, .int .u8 0, .int .u8 0, .nilFunc, .pointer none, .int .i32 0, .int .i32 0], .st [(0, 1, false), (1, 1, false), (2, 1, false), (3, 1, false), (4, 1, false), (5, 1, false), (6, 1, false), (7, 1, false), (8, 1, false), (9, 1, false), (10, 1, false)]⟩),
  (185, ⟨11, 48, [.int .u64 0, .int .u64 0, .int .u32 0, .int .u8 0, .int .u8 0, .int .u8 0, .int .u8 0, .nilFunc, .pointer none, .int .i32 0, .int .i32 0], .st [(0, 1, false), (1, 1, false), (2, 1, false), (3, 1, false), (4, 1, false), (5, 1, false), (6, 1, false), (7, 1, false), (8, 1, false), (9, 1, false), (10, 1, false)]⟩),
  (186, ⟨1, 8, [.pointer none], .other⟩)]
set_option maxRecDepth 100000 in
theorem lay_all : lay.map (fun p => layOf Tryz.prog p.1) = lay.map (fun p => some p.2) := by kernel_rfl
def layF (t : Nat) : Option Lay := findL lay t
theorem layF_ok : LOk Tryz.prog layF := fun t l h => by
  have := List.map_inj_left.1 lay_all (t, l) (findL_mem h)
  exact this
theorem mixed : Tryz.prog.follows .mixedOrders = true := by kernel_rfl
end Go.Proofs.YtgfmbkbiingagaaGreatDoor

namespace Go.Proofs.YtgfmbkbiingagaaGreatDoor
set_option linter.unusedVariables false
set_option linter.unusedSimpArgs false
open Go.RowKit

abbrev di (n : Int) : D := .v (.int .i64 n)
abbrev du (n : Int) : D := .v (.int .u64 n)
abbrev db (b : Bool) : D := .v (.bool b)
abbrev ds (s : ByteArray) : D := .v (.string s)
abbrev dnil : D := .v (.slice none 0 0)
abbrev Ti (n : Int) : TV := .o (.c (.d (.v (.int .i64 n))))
abbrev Tu (n : Int) : TV := .o (.c (.d (.v (.int .u64 n))))
abbrev Tb (b : Bool) : TV := .o (.c (.d (.v (.bool b))))
abbrev c1 (x : D) : T1 := .c (.d x)
abbrev gD (l : List D) : T1 := .g (l.map .d)
/-- Nothing is known of the program's variables. -/
def Γ0 : Glob := ⟨fun _ _ => True, fun _ _ _ => trivial, [], fun _ => none, fun _ h => by cases h⟩

section
variable {p q : Prop} {K : Bool → Prop}
theorem ex_dec [Decidable p] (ht : p → K true) (hf : ¬ p → K false) : ∃ b, decide p = b ∧ K b := by
  by_cases h : p
  · exact ⟨true, decide_eq_true h, ht h⟩
  · exact ⟨false, decide_eq_false h, hf h⟩
theorem ex_true [Decidable p] (h : p) (hk : K true) : ∃ b, decide p = b ∧ K b := ⟨true, decide_eq_true h, hk⟩
theorem ex_false [Decidable p] (h : ¬ p) (hk : K false) : ∃ b, decide p = b ∧ K b := ⟨false, decide_eq_false h, hk⟩
theorem ex_eq {α : Type} {e : α} {K : α → Prop} (h : K e) : ∃ z, e = z ∧ K z := ⟨e, rfl, h⟩
theorem ex_is {α : Type} {e : α} (z : α) {K : α → Prop} (he : e = z) (h : K z) : ∃ z, e = z ∧ K z := ⟨z, he, h⟩
end
theorem wrap_i64' {n : Int} (h1 : -9223372036854775808 ≤ n) (h2 : n ≤ 9223372036854775807) : IntKind.i64.wrap n = n := by rw [IntKind.wrap_i64]; omega
theorem wrap_un {k : IntKind} (hk : k.signed = false) {n : Int} (h1 : 0 ≤ n) (h2 : n < 2 ^ k.bits) : k.wrap n = n := by
  unfold IntKind.wrap
  simp only [hk, Bool.false_and, Bool.false_eq_true, if_false]
  exact Int.emod_eq_of_lt h1 h2
theorem ex_i64 {e : Int} (z : Int) {K : Int → Prop} (he : e = z) (h1 : -9223372036854775808 ≤ z) (h2 : z ≤ 9223372036854775807) (h : K z) : ∃ z, IntKind.i64.wrap e = z ∧ K z := ⟨z, by rw [he]; exact wrap_i64' h1 h2, h⟩
theorem ex_u64 {e : Int} (z : Int) {K : Int → Prop} (he : e = z) (h1 : 0 ≤ z) (h2 : z < 18446744073709551616) (h : K z) : ∃ z, IntKind.u64.wrap e = z ∧ K z := ⟨z, by rw [he]; exact wrap_un (by rfl) h1 h2, h⟩
theorem ex_u8 {e : Int} (z : Int) {K : Int → Prop} (he : e = z) (h1 : 0 ≤ z) (h2 : z < 256) (h : K z) : ∃ z, IntKind.u8.wrap e = z ∧ K z := ⟨z, by rw [he]; exact wrap_un (by rfl) h1 h2, h⟩
/-- An index into rows that are images of a list. -/
theorem ex_row {α : Type} {f : α → List D} {l : List α} {n : Int} (i : Nat) (x : α) (hn : n = i) (hx : l[i]? = some x) {K : List D → Prop} (h : K (f x)) : ∃ r, 0 ≤ n ∧ (l.map f)[n.toNat]? = some r ∧ K r := by
  subst hn
  exact ⟨f x, by omega, by simp [hx], h⟩
/-- An append. -/
theorem ex_app {α : Type} {r1 r2 : List α} {b : Nat} (n m c : Nat) (h1 : r1.length = n) (h2 : r2.length = m) (hc : Nat.ble b c = true) (hb : (n + m) * c ≤ 140737488355328) {K : Prop} (h : K) : (r1.length + r2.length) * b ≤ 140737488355328 ∧ K := ⟨by
  rw [h1, h2]
  exact Nat.le_trans (Nat.mul_le_mul_left _ (Nat.le_of_ble_eq_true hc)) hb, h⟩
theorem ex_at {α : Type} {f : α → List D} {l : List α} (i : Nat) (x : α) (hx : l[i]? = some x) {K : List D → Prop} {a : Nat} (h : K (f x)) : a = a ∧ ∃ r, (l.map f)[i]? = some r ∧ K r := ⟨rfl, f x, by simp [hx], h⟩
theorem ex_chr {s : ByteArray} {n : Int} (i : Nat) (b : UInt8) (hn : n = i) (hb : s.data.toList[i]? = some b) {K : UInt8 → Prop} (h : K b) : ∃ b, 0 ≤ n ∧ s.data.toList[n.toNat]? = some b ∧ K b := by
  subst hn
  exact ⟨b, by omega, by simpa using hb, h⟩
theorem at_some {α : Type} {l : List α} {i : Nat} (h : i < l.length) : l[i]? = some l[i] := List.getElem?_eq_getElem h
section
variable {P : Program} {Γ : Glob}
/-- A call of a function of data. -/
theorem ex_call {f : FuncId} {xs : List T1} {r : TV} (h : CallsA P Γ f xs r) {K : TV → Prop} (hk : K r) : ∃ r, CallsA P Γ f xs r ∧ K r := ⟨r, h, hk⟩
theorem ex_callM {f : FuncId} {m : List (Nat × Blk)} {nx : Nat} {xs : List T1} {r : TV} {upd : List (Nat × Blk)} {new : List Blk} (h : CallsM P Γ f m nx xs r upd new) {K : TV → List (Nat × Blk) → List Blk → Prop} (hk : K r upd new) : ∃ r upd new, CallsM P Γ f m nx xs r upd new ∧ K r upd new := ⟨r, upd, new, h, hk⟩
end
/-- A loop. -/
theorem ex_loop {X : Type} (f : X → St) (μ : X → Nat) (p : X → Prop) (x0 : X) {nx0 : Nat} {st : St} {V : (I : LoopI) → I.X → Prop} (h0 : p x0) (h1 : SLe nx0 (f x0) st) (h2 : ∀ x, p x → V ⟨X, f, μ, p⟩ x) :
    ∃ (I : LoopI) (x0 : I.X), I.p x0 ∧ SLe nx0 (I.f x0) st ∧ ∀ x, I.p x → V I x := ⟨⟨X, f, μ, p⟩, x0, h0, h1, h2⟩
/-- Where ways come together. -/
theorem ex_join {X : Type} (f : X → St) (p : X → Prop) {A : JoinI → Prop} {B : (I : JoinI) → I.X → Prop} (h1 : A ⟨X, f, p⟩) (h2 : ∀ x, p x → B ⟨X, f, p⟩ x) : ∃ I : JoinI, A I ∧ ∀ x, I.p x → B I x := ⟨⟨X, f, p⟩, h1, h2⟩
theorem ex_meet {X : Type} {f : X → St} {p : X → Prop} {nx0 : Nat} {st : St} (x : X) (h0 : p x) (h2 : SLe nx0 (f x) st) : ∃ x, p x ∧ SLe nx0 (f x) st := ⟨x, h0, h2⟩
theorem ex_round {X : Type} {f : X → St} {μ : X → Nat} {p : X → Prop} {nx0 : Nat} {st : St} {x : X} (x' : X) (h0 : p x') (h1 : μ x' < μ x) (h2 : SLe nx0 (f x') st) : ∃ x', p x' ∧ μ x' < μ x ∧ SLe nx0 (f x') st := ⟨x', h0, h1, h2⟩
theorem le_nil {α : Type} {m : List (Nat × α)} : leL [] m := trivial
theorem le_cons {α : Type} {k : Nat} {v : α} {l m : List (Nat × α)} (h : findL m k = some v) (t : leL l m) : leL ((k, v) :: l) m := ⟨h, t⟩
theorem le_val {α : Type} {k : Nat} {v v' : α} {l m : List (Nat × α)} (h : findL m k = some v') (e : v' = v) (t : leL l m) : leL ((k, v) :: l) m := ⟨e ▸ h, t⟩
/-- A nil slice reads as a slice without rows. -/
theorem CLe_nil {ι : Nat → Value} {S : Nat → Prop} {w : World} {s : Nat} {v : Value} (h : VC ι S w (.d (.v (.slice none 0 0))) v) : VC ι S w (.d (.sl s [])) v := by
  have h' : Imm S w _ v := h
  cases h'
  exact Imm.nil
theorem TLe.nil {s : Nat} : TLe (.o (.c (.d (.v (.slice none 0 0))))) (.o (.c (.d (.sl s [])))) := fun ι _ _ _ h => CLe_nil (ι := ι) h
/-- A contract met with a flat result. -/
theorem flat_end {S : Nat → Prop} {w w' : World} {r : TV} {v : Value} (hs : ∀ b, S b → b < w.heap.size) (hb : Below w.heap.size w w') (hv : V ι0 S w' r v) : ∃ x S', Ending.returned v = .returned x ∧ Below w.heap.size w w' ∧ (∀ b, S b → S' b) ∧ (∀ b, S' b → S b ∨ w.heap.size ≤ b) ∧ (∀ b, S' b → b < w'.heap.size) ∧ V ι0 S' w' r x :=
  ⟨v, S, rfl, hb, fun _ h => h, fun _ h => .inl h, fun b h => Nat.lt_of_lt_of_le (hs b h) hb.size, hv⟩
/-- A contract over a greater memory. -/
theorem CallsM.more {P : Program} {Γ : Glob} {f : FuncId} {m m' : List (Nat × Blk)} {nx : Nat} {xs : List T1} {r : TV} {upd : List (Nat × Blk)} {new : List Blk} (h : CallsM P Γ f m nx xs r upd new) (hm : ∀ p ∈ m, p ∈ m') : CallsM P Γ f m' nx xs r upd new :=
  ⟨h.1, fun ι S w vs hs hG hb hd hv => (h.2 ι S w vs hs hG (fun p hp => hb p (hm p hp)) (fun p hp q hq => hd p (hm p hp) q (hm q hq)) hv).mono fun e w' hX => by
    have conv : ∀ (tv : TV) (x : Value) (ι' : Nat → Value) (S' : Nat → Prop) (w' : World), After ι S w nx ⟨tv, m.map (·.1), upd, new⟩ x ι' S' w' → After ι S w nx ⟨tv, m'.map (·.1), upd, new⟩ x ι' S' w' := fun tv x ι' S' w' A =>
      ⟨A.val, A.keep, A.smono, A.sgrow, A.slt, A.os, A.tape, A.output, A.size, A.heap, A.updok, A.newok, A.newblk, A.newdst⟩
    rcases hX with ⟨x, ι', S', he, A⟩ | ⟨v, ι', S', hr, he, A⟩
    · exact .inl ⟨x, ι', S', he, conv _ _ _ _ _ A⟩
    · exact .inr ⟨v, ι', S', hr, he, conv _ _ _ _ _ A⟩⟩
/-- What a function of nothing known gives, whatever is known. -/
theorem CallsA.of0 {P : Program} {Γ : Glob} {f : FuncId} {xs : List T1} {r : TV} (h : CallsA P Γ0 f xs r) : CallsA P Γ f xs r := ⟨h.1, fun S w vs hS _ hv => h.2 S w vs hS trivial hv⟩
theorem CallsM.of0 {P : Program} {Γ : Glob} {f : FuncId} {m : List (Nat × Blk)} {nx : Nat} {xs : List T1} {r : TV} {upd : List (Nat × Blk)} {new : List Blk} (h : CallsM P Γ0 f m nx xs r upd new) : CallsM P Γ f m nx xs r upd new := ⟨h.1, fun ι S w vs hs _ hb hd hv => h.2 ι S w vs hs trivial hb hd hv⟩
end Go.Proofs.YtgfmbkbiingagaaGreatDoor

namespace Go.Proofs.YtgfmbkbiingagaaGreatDoor
set_option linter.unusedVariables false
set_option linter.unusedSimpArgs false
open Go.RowKit

def stC (k : Nat) (d : D) : CV → CV
  | .row j => match Nat.beq j k with
    | true => .d d
    | false => .row j
  | x => x
def stT (k : Nat) (d : D) : T1 → T1
  | .c x => .c (stC k d x)
  | .g l => .g (l.map (stC k d))
  | .f h a l => .f h a (l.map (stC k d))
def stV (k : Nat) (d : D) : TV → TV
  | .o x => .o (stT k d x)
  | .tup l => .tup (l.map (stT k d))
  | x => x
def stB (k : Nat) (d : D) : Blk → Blk
  | .obj l t => .obj (l.map (stC k d)) t
  | x => x
def rpC (k : Nat) : CV → Bool
  | .rptr j _ _ _ => Nat.beq j k
  | .mp j => Nat.beq j k
  | .rsl j _ _ _ => Nat.beq j k
  | .ptr j _ => Nat.beq j k
  | _ => false
def rpT (k : Nat) : T1 → Bool
  | .c x => rpC k x
  | .g l => l.any (rpC k)
  | .f _ _ l => l.any (rpC k)
def rpV (k : Nat) : TV → Bool
  | .o x => rpT k x
  | .tup l => l.any (rpT k)
  | _ => false
def rpB (k : Nat) : Blk → Bool
  | .obj l _ => l.any (rpC k)
  | _ => false
/-- The row k told as data everywhere; pointers into it are not told any more. -/
def stX (k : Nat) (d : D) (_ : Nat) (x : TV) : TV := match rpV k x with
  | true => .no
  | false => stV k d x
def stM (k : Nat) (d : D) (j : Nat) (x : Blk) : Blk := match Nat.beq j k || rpB k x with
  | true => .dead
  | false => stB k d x
def stillSt (k : Nat) (d : D) (s : St) : St := ⟨s.tm.map fun p => (p.1, stX k d p.1 p.2), s.mem.map fun p => (p.1, stM k d p.1 p.2), s.nx⟩
theorem findL_map {α β : Type} (F : Nat → α → β) : ∀ (l : List (Nat × α)) (t : Nat), findL (l.map fun p => (p.1, F p.1 p.2)) t = (findL l t).map (F t)
  | [], t => rfl
  | (j, v) :: l, t => by
    simp only [List.map_cons, findL]
    split
    · rename_i e; subst e; rfl
    · exact findL_map F l t
section
variable {ι : Nat → Value} {S S' : Nat → Prop} {w : World} {k : Nat} {d : D}
theorem stC_ok (hS : ∀ b, S b → S' b) (hd : Imm S' w d (ι k)) {x : CV} {u : Value} (h : VC ι S w x u) : VC ι S' w (stC k d x) u := by
  cases x with
  | row j =>
    simp only [stC]
    split
    · rename_i hb
      obtain rfl := Nat.eq_of_beq_eq_true hb
      rw [h.1]
      exact hd
    · exact VC.mono (x := .row j) (fun _ _ => rfl) hS (fun _ _ => rfl) h
  | d x => exact VC.mono (x := .d x) (fun _ _ => rfl) hS (fun _ _ => rfl) h
  | ptr j o => exact VC.mono (x := .ptr j o) (fun _ _ => rfl) hS (fun _ _ => rfl) h
  | eptr cs => exact VC.mono (x := .eptr cs) (fun _ _ => rfl) hS (fun _ _ => rfl) h
  | rptr a b c e => exact VC.mono (x := .rptr a b c e) (fun _ _ => rfl) hS (fun _ _ => rfl) h
  | mp j => exact VC.mono (x := .mp j) (fun _ _ => rfl) hS (fun _ _ => rfl) h
  | rsl a b c e => exact VC.mono (x := .rsl a b c e) (fun _ _ => rfl) hS (fun _ _ => rfl) h
theorem stT_ok (hS : ∀ b, S b → S' b) (hd : Imm S' w d (ι k)) {x : T1} {u : Value} (h : V1 ι S w x u) : V1 ι S' w (stT k d x) u := by
  cases x with
  | c x => exact stC_ok hS hd h
  | g l =>
    obtain ⟨us, h1, h2⟩ := h
    exact ⟨us, h1, h2.mono (fun a b hab => stC_ok hS hd hab) |> All2.map_left⟩
  | f g a l =>
    obtain ⟨us, h1, h2⟩ := h
    exact ⟨us, h1, h2.mono (fun a b hab => stC_ok hS hd hab) |> All2.map_left⟩
theorem stV_ok (hS : ∀ b, S b → S' b) (hd : Imm S' w d (ι k)) {x : TV} {u : Value} (h : V ι S w x u) : V ι S' w (stV k d x) u := by
  cases x with
  | no => trivial
  | und => exact h
  | o x => exact stT_ok hS hd h
  | tup l =>
    obtain ⟨us, h1, h2⟩ := h
    exact ⟨us, h1, h2.mono (fun a b hab => stT_ok hS hd hab) |> All2.map_left⟩
  | pan v => exact h
end
theorem SLe.still {nx0 : Nat} {s : St} (k size : Nat) (e : TypeId) (rows : List (List D)) (hk : findL s.mem k = some (.row size e rows)) : SLe nx0 (stillSt k (.sl size rows) s) s := fun E a w he ⟨ι, S, I⟩ => by
  have hb0 := I.blk k _ hk
  have hlt := row_lt hb0
  have hS : ∀ b, S b → giveUp ι S [k] b := fun b hb => .inl hb
  have hd : Imm (giveUp ι S [k]) w (.sl size rows) (ι k) := row_imm hb0 hS (fun g hg => .inr ⟨k, by simp, hg⟩)
  have hmem : ∀ n b, findL (stillSt k (.sl size rows) s).mem n = some b → b.live = true → n ≠ k ∧ ∃ b0, findL s.mem n = some b0 ∧ b0.live = true ∧ b = stB k (.sl size rows) b0 := fun n b hb hl => by
    have hb : findL (s.mem.map fun p => (p.1, stM k (.sl size rows) p.1 p.2)) n = some b := hb
    rw [findL_map (stM k (.sl size rows))] at hb
    obtain ⟨b0, h1, h2⟩ := Option.map_eq_some_iff.1 hb
    unfold stM at h2
    split at h2
    · subst h2; cases hl
    · rename_i hf
      subst h2
      refine ⟨fun h => ?_, b0, h1, ?_, rfl⟩
      · rw [Bool.or_eq_false_iff] at hf
        exact absurd h (Nat.ne_of_beq_eq_false hf.1)
      · cases b0 <;> first | rfl | exact hl
  have hdead : ∀ n b, findL (stillSt k (.sl size rows) s).mem n = some b → b.live = false → b = .dead := fun n b _ hl => by cases b <;> first | rfl | cases hl
  have hS' : ∀ n b, findL s.mem n = some b → b.live = true → n ≠ k → ∀ g, blkOf (ι n) = some g → ¬ giveUp ι S [k] g := fun n b hb hl hn g hg hs => by
    rcases hs with hs | ⟨j, hj, hs⟩
    · have h := I.blk n b hb
      exact (h.sep hl hg).2 hs
    · obtain rfl : j = k := by simpa using hj
      exact hn (I.dst n j b _ g hb hk hl rfl hg hs)
  refine ⟨ι, giveUp ι S [k], I.os, I.tape, I.output, I.size, I.old, fun b hb => ?_, fun b hb => .inl (I.s0 b hb), fun b hb => ?_, fun t tv ht => ?_, fun n b hb => ?_, fun n b hb hl g hg => ?_, fun n n' b b' g hb hb' hl hl' hg hg' => ?_, I.dn, I.sz, E.Γ.mono (fun _ _ => rfl) hS I.gl, I.ik⟩
  · rcases hb with hb | ⟨j, hj, hb⟩
    · exact I.slt b hb
    · obtain rfl : j = k := by simpa using hj
      exact (hlt b hb).1
  · rcases hb with hb | ⟨j, hj, hb⟩
    · exact I.sg b hb
    · obtain rfl : j = k := by simpa using hj
      rcases I.mutb j _ hk rfl b hb with h | h
      · exact .inr (.inr h)
      · exact .inr (.inl h)
  · have ht : findL (s.tm.map fun p => (p.1, stX k (.sl size rows) p.1 p.2)) t = some tv := ht
    rw [findL_map (stX k (.sl size rows))] at ht
    obtain ⟨tv0, h1, h2⟩ := Option.map_eq_some_iff.1 ht
    unfold stX at h2
    split at h2
    · subst h2; trivial
    · subst h2
      exact stV_ok hS hd (I.tms t tv0 h1)
  · cases hl : b.live with
    | false => rw [hdead n b hb hl]; trivial
    | true =>
      obtain ⟨hn, b0, h1, h2, rfl⟩ := hmem n b hb hl
      have h := I.blk n b0 h1
      cases b0 with
      | dead => cases h2
      | obj cells tg =>
        obtain ⟨b2, arr, ty, e1, e2, e3, e4⟩ := h
        exact ⟨b2, arr, ty, e1, e2, All2.map_left (e3.mono fun a b hab => stC_ok hS hd hab), hS' n _ h1 rfl hn b2 (by rw [e1]; rfl)⟩
      | row size' e' rows' =>
        obtain ⟨cs, e1, e2, e3, e4⟩ := h
        exact ⟨cs, e1, e2.mono fun a b hab => Imm.mono (fun _ _ => rfl) hS hab, e3, fun g hg => hS' n _ h1 rfl hn g hg⟩
      | map es =>
        obtain ⟨b2, arr, clock, e1, e2, e3, e4⟩ := h
        exact ⟨b2, arr, clock, e1, e2, e3, hS' n _ h1 rfl hn b2 (by rw [e1]; rfl)⟩
  · obtain ⟨hn, b0, h1, h2, rfl⟩ := hmem n b hb hl
    exact I.mutb n b0 h1 h2 g hg
  · obtain ⟨hn, b0, h1, h2, rfl⟩ := hmem n b hb hl
    obtain ⟨hn', b0', h1', h2', rfl⟩ := hmem n' b' hb' hl'
    exact I.dst n n' b0 b0' g h1 h1' h2 h2' hg hg'
end Go.Proofs.YtgfmbkbiingagaaGreatDoor

namespace Go.Proofs.YtgfmbkbiingagaaGreatDoor
set_option linter.unusedVariables false
set_option linter.unusedSimpArgs false
open Go.RowKit
set_option maxRecDepth 100000
theorem and_mk {a b : Prop} (h : a) (k : b) : a ∧ b := ⟨h, k⟩
end Go.Proofs.YtgfmbkbiingagaaGreatDoor

namespace Go.Proofs.YtgfmbkbiingagaaGreatDoor
set_option linter.unusedVariables false
set_option linter.unusedSimpArgs false
open Go.RowKit
set_option maxRecDepth 100000

def retOkK (L : Nat → Option Lay) (rs : List ResultVar) (ns : List Nat) (nx : Nat) (r : TV) (upd : List (Nat × Blk)) (new : List Blk) (st : St) : Prop :=
  match rs.map (resC L st) with
  | some (.o (.c (.row k))) :: l => match eatT (findL st.mem) l, subMem (findL st.mem) ns, subMem (findL st.mem) [k] with
    | some (y :: ys, ks), some u, some n => (nodupB [k] && disj ks [k] && (ks.all fun k => Nat.ble nx k) && ([k].all fun k => Nat.ble nx k) && closB nx [k] u && closB nx [k] n) = true ∧ TLe (.tup (.c (.row nx) :: y :: ys)) r ∧ renM (expN nx [k]) u = upd ∧ (n.map fun p => p.2.ren (expN nx [k])) = new
    | _, _, _ => False
  | _ => False
def fnQK (L : Nat → Option Lay) (rs : List ResultVar) (ns : List Nat) (nx : Nat) (r : TV) (upd : List (Nat × Blk)) (new : List Blk) : Exit → St → Prop
  | .normal, st | .ret, st => retOkK L rs ns nx r upd new st
  | _, _ => False
theorem results_okK {P : Program} {L : Nat → Option Lay} (hL : LOk P L) {E : Env} {ι : Nat → Value} {S : Nat → Prop} {st : St} {a : Act} {w : World} (I : Inv E ι S (findL st.tm) (findL st.mem) a w) {fn : Func} {k0 : Nat} {l : List (Option TV)} {y : T1} {ys : List T1} {ks : List Nat}
    (hl : fn.results.toList.map (resC L st) = some (.o (.c (.row k0))) :: l) (hy : eatT (findL st.mem) l = some (y :: ys, ks)) : ∃ v, (results fn a.tmps).run P w = .ok v w ∧ (∀ k ∈ ks, ∃ size e rows, findL st.mem k = some (.row size e rows) ∧ BlkOk ι S w k (.row size e rows)) ∧ ∀ (ι' : Nat → Value) (k1 : Nat), ι' k1 = ι k0 → V ι' (giveUp ι S ks) w (.tup (.c (.row k1) :: y :: ys)) v := by
  have hone : ∀ rv tv, resC L st rv = some tv → ∃ v, (resF a.tmps rv).run P w = .ok v w ∧ V ι S w tv v := fun rv tv hrv => by
    cases rv with
    | tmp t => exact ⟨_, rfl, I.tms t tv hrv⟩
    | cell b t =>
      simp only [resC] at hrv
      split at hrv
      · rename_i l k off hl hb
        split at hrv
        · rename_i cells tg hk
          split at hrv
          · rename_i hle
            obtain ⟨bk, hb1, hb2⟩ := I.tms b _ hb
            obtain ⟨b', arr, ty, h3, h4, h5, _⟩ := I.blk k _ hk
            obtain rfl : bk = b' := by rw [hb1] at h3; cases h3; rfl
            have hlen := h5.len
            have hle' := Nat.le_of_ble_eq_true hle
            have hr := run_load_range (P := P) (layOf_ok (hL _ _ hl)) (w := w) (g := bk) (f := off) (us := (arr.toList.drop off).take l.size) (by simp at hlen ⊢; omega) (fun j u hj => by
              obtain ⟨hj1, _⟩ := drop_take_get hj
              rw [cell_of_row w bk (off + j) arr ty.1 (0, 0) h4]
              simpa using hj1)
            rcases V_ofCells hrv ((h5.drop off).take l.size) with ⟨ha, hV⟩ | ⟨ha, u, hu, hV⟩
            · exact ⟨_, by simp only [resF, hb2]; simp [asAddr, hr.1 ha], hV⟩
            · exact ⟨_, by simp only [resF, hb2]; simp [asAddr, hr.2 ha u hu], hV⟩
          · cases hrv
        · cases hrv
      · cases hrv
  have hvals : ∀ (l : List ResultVar) (ys : List T1) (ks : List Nat), eatT (findL st.mem) (l.map (resC L st)) = some (ys, ks) → ∃ vs, All2 (fun rv v => (resF a.tmps rv).run P w = .ok v w) l vs ∧ All2 (fun (a : Option TV) u => ∀ tv, a = some tv → V ι S w tv u) (l.map (resC L st)) vs := fun l => by
    induction l with
    | nil => intro ys ks _; exact ⟨[], .nil, .nil⟩
    | cons rv l ih =>
      intro ys ks h
      simp only [List.map_cons] at h
      cases hrv : resC L st rv with
      | none => rw [hrv] at h; simp [eatT] at h
      | some tv =>
        rw [hrv] at h
        cases tv with
        | no => simp [eatT] at h
        | und => simp [eatT] at h
        | tup l => simp [eatT] at h
        | pan v => simp [eatT] at h
        | o x =>
          simp only [eatT] at h
          split at h
          · rename_i y k1 ys' k2 h1 h2
            obtain ⟨vs, g1, g2⟩ := ih ys' k2 h2
            obtain ⟨v, e1, e2⟩ := hone rv _ hrv
            refine ⟨v :: vs, .cons e1 g1, ?_⟩
            simp only [List.map_cons]
            refine .cons (fun tv htv => ?_) g2
            rw [hrv] at htv; cases htv
            exact e2
          · cases h
  obtain ⟨rv0, rvs, hrs, hr0, hrl⟩ : ∃ rv0 rvs, fn.results.toList = rv0 :: rvs ∧ resC L st rv0 = some (.o (.c (.row k0))) ∧ rvs.map (resC L st) = l := by
    cases hq : fn.results.toList with
    | nil => rw [hq] at hl; cases hl
    | cons rv0 rvs => rw [hq, List.map_cons] at hl; injection hl with h1 h2; exact ⟨rv0, rvs, rfl, h1, h2⟩
  obtain ⟨u0, e0, hu0⟩ := hone rv0 _ hr0
  obtain ⟨vs, g1, g2⟩ := hvals rvs (y :: ys) ks (by rw [hrl]; exact hy)
  have hrows : ∀ k ∈ ks, ∃ size e rows, findL st.mem k = some (.row size e rows) ∧ BlkOk ι S w k (.row size e rows) := fun k hk => by
    obtain ⟨size, e, rows, hm⟩ := eatT_rows hy k hk
    exact ⟨size, e, rows, hm, I.blk k _ hm⟩
  have hres : (results fn a.tmps).run P w = .ok (if h : (u0 :: vs).toArray.size = 1 then (u0 :: vs).toArray[0] else .tuple (u0 :: vs).toArray) w := by
    have h1 := mapM_run _ _ _ (All2.cons e0 g1)
    rw [results_F, Sem.run_bind, Array.mapM_eq_mapM_toList, run_map, hrs, h1]
    rfl
  refine ⟨_, hres, hrows, fun ι' k1 hk1 => ?_⟩
  rw [hrl] at g2
  have hall := eatT_ok (ι' := ι') (S' := giveUp ι S ks) (fun b hb => .inl hb) hy g2 (fun k hk b hb => I.blk k b hb) (fun k hk g hg => .inr ⟨k, hk, hg⟩)
  have hlen : ¬ (u0 :: vs).toArray.size = 1 := by have := hall.len; simp at this ⊢; intro e; rw [e] at this; simp at this
  rw [dif_neg hlen]
  have hu0' : u0 = ι k0 ∧ ∃ o n c, u0 = .slice o n c := hu0
  exact ⟨u0 :: vs, rfl, .cons ⟨hu0'.1.trans hk1.symm, hu0'.2⟩ hall⟩
theorem core_afterK {C : Ctx} {m : List (Nat × Blk)} {upd : List (Nat × Blk)} {new : List Blk} {ι : Nat → Value} {S : Nat → Prop} {w w' : World} {st : St} {a : Act} {dd : List Deferred} {en : Nat} (hmlt : ∀ p ∈ m, p.1 < C.nx0) : ∀ (ι1 : Nat → Value) (S1 : Nat → Prop) (tv : TV) (x : Value) (ks : List Nat) (u n : List (Nat × Blk)) (src : List Nat), Inv ⟨w, fun g => ∃ p ∈ m, p.2.live = true ∧ blkOf (ι p.1) = some g, S, en, C.Γ, ι, C.nx0, dd⟩ ι1 S1 (findL st.tm) (findL st.mem) a w' →
      (subMem (findL st.mem) (m.map (·.1)) = some u ∧ subMem (findL st.mem) src = some n) → (nodupB src && disj ks src && (ks.all fun k => Nat.ble C.nx0 k) && (src.all fun k => Nat.ble C.nx0 k) && closB C.nx0 src u && closB C.nx0 src n) = true → renM (expN C.nx0 src) u = upd → (n.map fun p => p.2.ren (expN C.nx0 src)) = new →
      (∀ k ∈ ks, ∃ size e rows, findL st.mem k = some (.row size e rows) ∧ BlkOk ι1 S1 w' k (.row size e rows)) → (∀ ι' : Nat → Value, (∀ k, (k < C.nx0 ∨ k ∈ src) → ι' (expN C.nx0 src k) = ι1 k) → V ι' (giveUp ι1 S1 ks) w' tv x) → ∃ ι' S', After ι S w C.nx0 ⟨tv, m.map (·.1), upd, new⟩ x ι' S' w' := fun ι1 S1 tv x ks u n src I hex hchk hu hnw hrows hval => by
      simp only [Bool.and_eq_true] at hchk
      obtain ⟨⟨⟨⟨⟨c1, c2⟩, c3⟩, c4⟩, c5⟩, c6⟩ := hchk
      obtain ⟨hu0, hn0⟩ := hex
      obtain ⟨u1, u2⟩ := subMem_ok hu0
      obtain ⟨n1, n2⟩ := subMem_ok hn0
      have hks : ∀ k ∈ ks, C.nx0 ≤ k := fun k hk => Nat.le_of_ble_eq_true (List.all_eq_true.1 c3 k hk)
      have hsrc : ∀ k ∈ src, C.nx0 ≤ k := fun k hk => Nat.le_of_ble_eq_true (List.all_eq_true.1 c4 k hk)
      have hult : ∀ p ∈ u, p.1 < C.nx0 := fun p hp => by
        have : p.1 ∈ m.map (·.1) := by rw [← u1]; exact List.mem_map.2 ⟨p, hp, rfl⟩
        obtain ⟨q, hq, he⟩ := List.mem_map.1 this
        rw [← he]; exact hmlt q hq
      have hexp : ∀ k, k < C.nx0 → expN C.nx0 src k = k := fun k hk => by
        unfold expN
        have : Nat.blt k C.nx0 = true := by simpa [Nat.blt_eq] using hk
        rw [this]
      have hexs : ∀ k, C.nx0 ≤ k → expN C.nx0 src k = C.nx0 + idxN src k := fun k hk => by
        unfold expN
        have : Nat.blt k C.nx0 = false := by
          cases hb : Nat.blt k C.nx0 with
          | false => rfl
          | true => rw [Nat.blt_eq] at hb; omega
        rw [this]
      have hnl : new.length = src.length := by rw [← hnw, List.length_map, ← n1, List.length_map]
      obtain ⟨ι', hι'⟩ : ∃ ι' : Nat → Value, ∀ k, ι' k = if C.nx0 ≤ k ∧ k < C.nx0 + new.length then ι1 (src.getD (k - C.nx0) 0) else ι k := ⟨_, fun _ => rfl⟩
      have hlow : ∀ k, k < C.nx0 → ι' k = ι1 k := fun k hk => by rw [hι', if_neg (by omega), I.ik k hk]
      have hρ : ∀ k, (k < C.nx0 ∨ k ∈ src) → ι' (expN C.nx0 src k) = ι1 k := fun k hk => by
        by_cases hlt : k < C.nx0
        · rw [hexp k hlt]; exact hlow k hlt
        · have hks : k ∈ src := by rcases hk with h | h; exact absurd h hlt; exact h
          obtain ⟨i1, i2⟩ := idxN_at hks
          rw [hexs k (by omega), hι', if_pos (by omega), show C.nx0 + idxN src k - C.nx0 = idxN src k by omega]
          simp [List.getD, i1]
      have hclos : ∀ {l : List (Nat × Blk)}, closB C.nx0 src l = true → ∀ p ∈ l, ∀ k, p.2.men k = true → k < C.nx0 ∨ k ∈ src := fun {l} hl p hp k hk => by
        have := List.all_eq_true.1 (List.all_eq_true.1 hl p hp) k (men_refs hk)
        rcases (by simpa only [Bool.or_eq_true] using this : _ ∨ _) with h | h
        · left; rw [Nat.blt_eq] at h; exact h
        · right
          obtain ⟨k', hk', e⟩ := List.any_eq_true.1 h
          rw [Nat.eq_of_beq_eq_true e]; exact hk'
      have hI := I
      -- a block of what the caller handed in belongs to a name that has been given up, if it isn't that name's own any more
      have hM : ∀ g, (∃ p ∈ m, p.2.live = true ∧ blkOf (ι p.1) = some g) → (∃ k, (k, Blk.dead) ∈ upd ∧ blkOf (ι k) = some g) ∨ ∃ p ∈ u, p.2.live = true ∧ blkOf (ι1 p.1) = some g := fun g ⟨p, hp, hl, hg⟩ => by
        obtain ⟨q, hq, he⟩ : ∃ q ∈ u, q.1 = p.1 := by
          have : p.1 ∈ u.map (·.1) := by rw [u1]; exact List.mem_map.2 ⟨p, hp, rfl⟩
          obtain ⟨q, hq, he⟩ := List.mem_map.1 this
          exact ⟨q, hq, he⟩
        cases hql : q.2.live with
        | true => exact .inr ⟨q, hq, hql, by rw [I.ik q.1 (hult q hq), he]; exact hg⟩
        | false =>
          refine .inl ⟨q.1, ?_, by rw [he]; exact hg⟩
          rw [← hu]
          refine List.mem_map.2 ⟨q, hq, ?_⟩
          rw [hexp q.1 (hult q hq)]
          have : q.2 = .dead := by cases hb : q.2 <;> simp_all [Blk.live]
          rw [this]; rfl
      have hnoS : ∀ p : Nat × Blk, findL st.mem p.1 = some p.2 → p.2.live = true → (p.1 < C.nx0 ∨ p.1 ∈ src) → ∀ g, blkOf (ι1 p.1) = some g → ¬ giveUp ι1 S1 ks g := fun p hp hl hpk g hg hgu => by
        rcases hgu with h | ⟨k, hk, h⟩
        · exact ((I.blk p.1 p.2 hp).own hl hg).1 h
        · obtain ⟨size, e, rows, hmk, _⟩ := hrows k hk
          have := I.dst p.1 k p.2 _ g hp hmk hl rfl hg h
          rcases hpk with hpk | hpk
          · have := hks k hk; omega
          · rw [this] at hpk
            exact disj_spec c2 hk hpk
      have hok : ∀ {l : List (Nat × Blk)}, (∀ p ∈ l, findL st.mem p.1 = some p.2) → closB C.nx0 src l = true → (∀ p ∈ l, p.1 < C.nx0 ∨ p.1 ∈ src) → ∀ p ∈ l, BlkOk ι' (giveUp ι1 S1 ks) w' (expN C.nx0 src p.1) (p.2.ren (expN C.nx0 src)) := fun {l} h1 h2 h3 p hp => by
        refine BlkOk_to (ι := ι1) (fun _ => hρ _ (h3 p hp)) (fun k hk => hρ k (hclos h2 p hp k hk)) ?_
        exact BlkOk.mono (fun _ _ => rfl) (fun b hb => .inl hb) (fun _ => rfl) (fun _ _ => rfl) (fun hl g hg => ⟨rfl, hnoS p (h1 p hp) hl (h3 p hp) g hg⟩) (I.blk p.1 p.2 (h1 p hp))
      have hsn : ∀ p ∈ n, p.1 ∈ src := fun p hp => by rw [← n1]; exact List.mem_map.2 ⟨p, hp, rfl⟩
      have hnew : ∀ i b, new[i]? = some b → ∃ p, n[i]? = some p ∧ p ∈ n ∧ src[i]? = some p.1 ∧ b = p.2.ren (expN C.nx0 src) ∧ ι' (C.nx0 + i) = ι1 p.1 := fun i b hb => by
        rw [← hnw, List.getElem?_map] at hb
        obtain ⟨p, hp, rfl⟩ := Option.map_eq_some_iff.1 hb
        have hsi : src[i]? = some p.1 := by rw [← n1, List.getElem?_map, hp]; rfl
        have hlt := (List.getElem?_eq_some_iff.1 hsi).1
        refine ⟨p, hp, List.mem_of_getElem? hp, hsi, rfl, ?_⟩
        rw [hι', if_pos (by omega), show C.nx0 + i - C.nx0 = i by omega]
        simp [List.getD, hsi]
      have hMg : ∀ (g : Nat) (p : Nat × Blk), findL st.mem p.1 = some p.2 → p.2.live = true → p.1 ∈ src → blkOf (ι1 p.1) = some g → (∃ q ∈ m, q.2.live = true ∧ blkOf (ι q.1) = some g) → ∃ k, (k, Blk.dead) ∈ upd ∧ blkOf (ι k) = some g := fun g p hp hl hps hg hMM => by
        rcases hM g hMM with h | ⟨q, hq, hql, hqg⟩
        · exact h
        · have := I.dst p.1 q.1 p.2 q.2 g hp (u2 q hq) hl hql hg hqg
          have h1 := hsrc _ hps
          have h2 := hult q hq
          omega
      refine ⟨ι', giveUp ι1 S1 ks, hval ι' hρ, fun k hk => (hι' k).trans (if_neg (by simp only at hk; omega)), fun b hb => .inl (I.s0 b hb), fun b hb => ?_, fun b hb => ?_, I.os, I.tape, I.output, I.size, fun b hb hne => I.old b hb fun ⟨p, hp, _, hg⟩ => ?_, fun k b hk => ?_, fun i b hb => ?_, fun i b hb hl g hg => ?_, fun i j b b' g hb hb' hl hl' hg hg' => ?_⟩
      · have fin : (∃ p ∈ m, p.2.live = true ∧ blkOf (ι p.1) = some b) → (∀ p ∈ u, p.2.live = true → blkOf (ι1 p.1) = some b → False) → S b ∨ w.heap.size ≤ b ∨ ∃ k, (k, Blk.dead) ∈ upd ∧ blkOf (ι k) = some b := fun hMM hno => by
          rcases hM b hMM with h | ⟨p, hp, hl, hg⟩
          · exact .inr (.inr h)
          · exact (hno p hp hl hg).elim
        rcases hb with hb | ⟨k, hk, hb⟩
        · rcases I.sg b hb with h | h | h
          · exact .inl h
          · exact .inr (.inl h)
          · exact fin h fun p hp hl hg => ((I.blk p.1 p.2 (u2 p hp)).own hl hg).1 hb
        · obtain ⟨size, e, rows, hmk, _⟩ := hrows k hk
          rcases I.mutb k _ hmk rfl b hb with h | h
          · exact fin h fun p hp hl hg => by
              have h1 := I.dst p.1 k p.2 _ b (u2 p hp) hmk hl rfl hg hb
              have h2 := hks k hk
              have h3 := hult p hp
              omega
          · exact .inr (.inl h)
      · rcases hb with hb | ⟨k, hk, hb⟩
        · exact I.slt b hb
        · obtain ⟨size, e, rows, _, hr⟩ := hrows k hk
          exact (row_lt hr b hb).1
      · refine hne p.1 ?_ hg
        rw [← hu]
        have : p.1 ∈ u.map (·.1) := by rw [u1]; exact List.mem_map.2 ⟨p, hp, rfl⟩
        obtain ⟨q, hq, he⟩ := List.mem_map.1 this
        refine List.mem_map.2 ⟨_, List.mem_map.2 ⟨q, hq, rfl⟩, ?_⟩
        simp only
        rw [hexp q.1 (hult q hq)]
        exact he
      · rw [← hu] at hk
        obtain ⟨p, hp, he⟩ := List.mem_map.1 hk
        cases he
        exact hok u2 c5 (fun p hp => .inl (hult p hp)) p hp
      · obtain ⟨p, h1, h2, h3, rfl, h5⟩ := hnew i b hb
        have := hok n2 c6 (fun p hp => .inr (hsn p hp)) p h2
        have hidx : expN C.nx0 src p.1 = C.nx0 + i := by
          rw [hexs _ (hsrc _ (hsn p h2))]
          obtain ⟨i1, i2⟩ := idxN_at (hsn p h2)
          rw [nodupB_at c1 _ _ _ i1 h3]
        rwa [hidx] at this
      · obtain ⟨p, h1, h2, h3, rfl, h5⟩ := hnew i b hb
        rw [Blk.live_ren] at hl
        rw [h5] at hg
        have hp := n2 p h2
        refine ⟨fun hS => ((I.blk p.1 p.2 hp).own hl hg).1 (I.s0 g hS), ?_⟩
        rcases I.mutb p.1 p.2 hp hl g hg with h | h
        · exact .inr (hMg g p hp hl (hsn p h2) hg h)
        · exact .inl h
      · obtain ⟨p, h1, h2, h3, rfl, h5⟩ := hnew i b hb
        obtain ⟨q, q1, q2, q3, rfl, q5⟩ := hnew j b' hb'
        rw [Blk.live_ren] at hl hl'
        rw [h5] at hg
        rw [q5] at hg'
        have := I.dst p.1 q.1 p.2 q.2 g (n2 p h2) (n2 q q2) hl hl' hg hg'
        rw [← this] at q3
        exact nodupB_at c1 _ _ _ h3 q3
theorem fn_ruleK {C : Ctx} {f : FuncId} {fn : Func} {c : Code} (hL : LOk C.P C.L) (hm : C.P.follows .mixedOrders = true) (hf : C.P.funcs[f]? = some fn) (hb : fn.body = some c) (hname : (fn.name == "runtime.NumGoroutine") = false)
    (hn : fn.ntmps = C.n) {xs : List T1} (hx : Nat.ble xs.length C.n = true) {m : List (Nat × Blk)} (hml : (m.all fun p => Nat.blt p.1 C.nx0) = true) {r : TV} {upd : List (Nat × Blk)} {new : List Blk}
    (h : vc C c ⟨argTm 0 xs, m, C.nx0⟩ (fnQK C.L fn.results.toList (m.map (·.1)) C.nx0 r upd new)) : CallsM C.P C.Γ f m C.nx0 xs r upd new := by
  refine ⟨⟨fn, hf, hname, by rw [hb]; rfl⟩, fun ι S w vs hS hG hblk hdst hvs => ?_⟩
  have hxl := Nat.le_of_ble_eq_true hx
  have hlen := hvs.len
  have hmlt : ∀ p ∈ m, p.1 < C.nx0 := fun p hp => Nat.lt_of_succ_le (Nat.le_of_ble_eq_true (List.all_eq_true.1 hml p hp))
  refine calls_of_wp hf hb ?_
  have hR : RS ⟨w, fun g => ∃ p ∈ m, p.2.live = true ∧ blkOf (ι p.1) = some g, S, C.n, C.Γ, ι, C.nx0, []⟩ ⟨argTm 0 xs, m, C.nx0⟩ { tmps := vs.toArray ++ Array.replicate (fn.ntmps - vs.toArray.size) undef, defers := [] } w := by
    refine ⟨ι, S, rfl, rfl, rfl, Nat.le_refl _, fun _ _ _ => rfl, hS, fun _ h => h, fun _ h => .inl h, fun t tv ht => ?_, fun k b hk => hblk _ (findL_mem hk), fun k b hk hl g hg => .inl ⟨(k, b), findL_mem hk, hl, hg⟩, fun k k' b b' g hk hk' hl hl' hg hg' => hdst _ (findL_mem hk) _ (findL_mem hk') g hl hl' hg hg', rfl, ?_, hG, fun _ _ => rfl⟩
    · obtain ⟨x, rfl, _, hx⟩ := argTm_find xs 0 t tv ht
      rw [Nat.sub_zero] at hx
      obtain ⟨u, hu, hv⟩ := hvs.at_left hx
      have hlt := (List.getElem?_eq_some_iff.1 hu).1
      have : (vs.toArray ++ Array.replicate (fn.ntmps - vs.toArray.size) undef).getD t undef = u := by
        simp [Array.getElem?_append, hlt, hu]
        have h2 := (List.getElem?_eq_some_iff.1 hu).2
        exact h2
      show V ι S w (.o x) _
      dsimp only
      rw [this]
      exact hv
    · simp; omega
  refine Code.wp_mono (fun e a w' hq => ?_) (vc_ok hL ⟨rfl, rfl, rfl⟩ hm c _ _ _ w h hR)
  obtain ⟨st, hR', hq⟩ := hq
  have core := core_afterK (C := C) (m := m) (upd := upd) (new := new) (ι := ι) (S := S) (w := w) (w' := w') (st := st) (a := a) (dd := []) (en := C.n) hmlt
  have key : retOkK C.L fn.results.toList (m.map (·.1)) C.nx0 r upd new st → a.defers = [] ∧ ∃ v, (results fn a.tmps).run C.P w' = .ok v w' ∧ ((∃ x ι' S', Ending.returned v = .returned x ∧ After ι S w C.nx0 ⟨r, m.map (·.1), upd, new⟩ x ι' S' w') ∨ ∃ v0 ι' S', r = .pan v0 ∧ Ending.returned v = .panicked (panE v0) ∧ After ι S w C.nx0 ⟨.und, m.map (·.1), upd, new⟩ undef ι' S' w') := fun hret => by
    obtain ⟨ι1, S1, I⟩ := hR'
    unfold retOkK at hret
    split at hret
    · rename_i k0 l hl
      split at hret
      · rename_i y ys ks u n hy hu0 hn0
        obtain ⟨hchk, hr, hu, hnw⟩ := hret
        obtain ⟨v, hres, hrows, hval⟩ := results_okK hL I hl hy
        have hx0 : expN C.nx0 [k0] k0 = C.nx0 := by
          have h4 : ([k0].all fun k => Nat.ble C.nx0 k) = true := by
            simp only [Bool.and_eq_true] at hchk
            exact hchk.1.1.2
          have h5 := Nat.le_of_ble_eq_true (List.all_eq_true.1 h4 k0 (by simp))
          unfold expN
          have : Nat.blt k0 C.nx0 = false := by
            cases hb : Nat.blt k0 C.nx0 with
            | false => rfl
            | true => rw [Nat.blt_eq] at hb; omega
          rw [this]
          simp [idxN]
        obtain ⟨ι', S', A⟩ := core ι1 S1 r v ks u n [k0] I ⟨hu0, hn0⟩ hchk hu hnw hrows (fun ι' hι => hr _ _ _ _ (hval ι' C.nx0 (by rw [← hx0]; exact hι k0 (.inr (by simp)))))
        exact ⟨I.dn, v, hres, .inl ⟨v, ι', S', rfl, A⟩⟩
      · exact hret.elim
    · exact hret.elim
  cases e with
  | normal => exact key hq
  | ret => exact key hq
  | _ => exact hq.elim
/-- A function of data, where rows among arguments stay rows. -/
theorem CallsA.toM {P : Program} {Γ : Glob} {f : FuncId} {xs : List T1} {r : TV} (h : CallsA P Γ f xs r) (hx : xs.all T1.pure = true) (hr : r.pure = true) (nx : Nat) : CallsM P Γ f [] nx xs r [] [] :=
  ⟨h.1, fun ι S w vs hs hG _ _ hv => (h.2 S w vs hs hG (hv.mono_mem fun a u ha hau => V1.mono (fun _ _ => rfl) (fun _ h => h) (fun k hk => by rw [T1.pure_men (List.all_eq_true.1 hx a ha) k] at hk; cases hk) hau)).mono fun e w' ⟨x, S', he, hb, hm, hg, hlt, hv⟩ =>
    .inl ⟨x, ι, S', he, ⟨V.mono (fun _ _ => rfl) (fun _ h => h) (fun k hk => by rw [TV.pure_men hr k] at hk; cases hk) hv, fun _ _ => rfl, hm, fun b hb => (hg b hb).elim .inl (fun h => .inr (.inl h)), hlt, hb.os, hb.tape, hb.output, hb.size, fun b hb' _ => hb.block b hb', (fun _ _ h => by simp at h), (fun _ _ h => by simp at h), (fun _ _ h => by simp at h), (fun _ _ _ _ _ h => by simp at h)⟩⟩⟩
end Go.Proofs.YtgfmbkbiingagaaGreatDoor

namespace Go.Proofs.YtgfmbkbiingagaaGreatDoor
set_option linter.unusedVariables false
set_option linter.unusedSimpArgs false
open Go.RowKit
set_option maxRecDepth 100000

def refsC1 : CV → List Nat
  | .ptr k _ | .row k | .rptr k _ _ _ | .mp k | .rsl k _ _ _ => [k]
  | _ => []
def refsT : List T1 → List Nat
  | [] => []
  | .c x :: l => refsC1 x ++ refsT l
  | .g x :: l => x.flatMap refsC1 ++ refsT l
  | .f _ _ x :: l => x.flatMap refsC1 ++ refsT l
theorem men_refsC {x : CV} {k : Nat} (h : x.men k = true) : k ∈ refsC1 x := by
  cases x <;> simp_all [CV.men, refsC1]
theorem men_refs1 {x : T1} {l : List T1} {k : Nat} (hx : x ∈ l) (h : x.men k = true) : k ∈ refsT l := by
  induction l with
  | nil => cases hx
  | cons y l ih =>
    rcases List.mem_cons.1 hx with rfl | hx2
    · cases x with
      | c x => exact List.mem_append_left _ (men_refsC h)
      | g x =>
        obtain ⟨c, hc, hk⟩ := List.any_eq_true.1 h
        exact List.mem_append_left _ (List.mem_flatMap.2 ⟨c, hc, men_refsC hk⟩)
      | f g a x =>
        obtain ⟨c, hc, hk⟩ := List.any_eq_true.1 h
        exact List.mem_append_left _ (List.mem_flatMap.2 ⟨c, hc, men_refsC hk⟩)
    · cases y <;> exact List.mem_append_right _ (ih hx2)
theorem men_refsT {ys : List T1} {k : Nat} (h : (retT ys).men k = true) : k ∈ refsT ys := by
  match ys, h with
  | [y], h => exact men_refs1 (x := y) (by simp) h
  | [], h => cases h
  | y :: z :: ys, h =>
    obtain ⟨x, hx, hk⟩ := List.any_eq_true.1 h
    exact men_refs1 hx hk
def retOkR (L : Nat → Option Lay) (rs : List ResultVar) (ns : List Nat) (nx : Nat) (r : TV) (upd : List (Nat × Blk)) (new : List Blk) (st : St) : Prop :=
  match plainT (rs.map (resC L st)) with
  | some ys => forceNs ((reach (findL st.mem) 60 (ns ++ refsT ys) []).filter fun k => Nat.ble nx k) fun src => match subMem (findL st.mem) ns, subMem (findL st.mem) src with
    | some u, some n => (nodupB src && disj [] src && (([] : List Nat).all fun k => Nat.ble nx k) && (src.all fun k => Nat.ble nx k) && closB nx src u && closB nx src n) = true ∧ ((refsT ys).all fun k => Nat.blt k nx || src.any (Nat.beq k)) = true ∧ TLe ((retT ys).ren (expN nx src)) r ∧ renM (expN nx src) u = upd ∧ (n.map fun p => p.2.ren (expN nx src)) = new
    | _, _ => False
  | none => False
def fnQR (L : Nat → Option Lay) (rs : List ResultVar) (ns : List Nat) (nx : Nat) (r : TV) (upd : List (Nat × Blk)) (new : List Blk) : Exit → St → Prop
  | .normal, st | .ret, st => retOkR L rs ns nx r upd new st
  | .panic ch, st => panIs r ch ∧ retOkP ns nx upd new st
  | _, _ => False
theorem results_okR {P : Program} {L : Nat → Option Lay} (hL : LOk P L) {E : Env} {ι : Nat → Value} {S : Nat → Prop} {st : St} {a : Act} {w : World} (I : Inv E ι S (findL st.tm) (findL st.mem) a w) {fn : Func} {ys : List T1}
    (hy : plainT (fn.results.toList.map (resC L st)) = some ys) : ∃ v, (results fn a.tmps).run P w = .ok v w ∧ V ι S w (retT ys) v := by
  have hone : ∀ rv tv, resC L st rv = some tv → ∃ v, (resF a.tmps rv).run P w = .ok v w ∧ V ι S w tv v := fun rv tv hrv => by
    cases rv with
    | tmp t => exact ⟨_, rfl, I.tms t tv hrv⟩
    | cell b t =>
      simp only [resC] at hrv
      split at hrv
      · rename_i l k off hl hb
        split at hrv
        · rename_i cells tg hk
          split at hrv
          · rename_i hle
            obtain ⟨bk, hb1, hb2⟩ := I.tms b _ hb
            obtain ⟨b', arr, ty, h3, h4, h5, _⟩ := I.blk k _ hk
            obtain rfl : bk = b' := by rw [hb1] at h3; cases h3; rfl
            have hlen := h5.len
            have hle' := Nat.le_of_ble_eq_true hle
            have hr := run_load_range (P := P) (layOf_ok (hL _ _ hl)) (w := w) (g := bk) (f := off) (us := (arr.toList.drop off).take l.size) (by simp at hlen ⊢; omega) (fun j u hj => by
              obtain ⟨hj1, _⟩ := drop_take_get hj
              rw [cell_of_row w bk (off + j) arr ty.1 (0, 0) h4]
              simpa using hj1)
            rcases V_ofCells hrv ((h5.drop off).take l.size) with ⟨ha, hV⟩ | ⟨ha, u, hu, hV⟩
            · exact ⟨_, by simp only [resF, hb2]; simp [asAddr, hr.1 ha], hV⟩
            · exact ⟨_, by simp only [resF, hb2]; simp [asAddr, hr.2 ha u hu], hV⟩
          · cases hrv
        · cases hrv
      · cases hrv
  have hvals : ∀ (l : List ResultVar) (ys : List T1), plainT (l.map (resC L st)) = some ys → ∃ vs, All2 (fun rv v => (resF a.tmps rv).run P w = .ok v w) l vs ∧ All2 (fun (a : Option TV) u => ∀ tv, a = some tv → V ι S w tv u) (l.map (resC L st)) vs := fun l => by
    induction l with
    | nil => intro ys _; exact ⟨[], .nil, .nil⟩
    | cons rv l ih =>
      intro ys h
      simp only [List.map_cons] at h
      cases hrv : resC L st rv with
      | none => rw [hrv] at h; simp [plainT] at h
      | some tv =>
        rw [hrv] at h
        cases tv with
        | no => simp [plainT] at h
        | und => simp [plainT] at h
        | tup l => simp [plainT] at h
        | pan v => simp [plainT] at h
        | o x =>
          simp only [plainT] at h
          obtain ⟨ys', h2, -⟩ := Option.map_eq_some_iff.1 h
          obtain ⟨vs, g1, g2⟩ := ih ys' h2
          obtain ⟨v, e1, e2⟩ := hone rv _ hrv
          refine ⟨v :: vs, .cons e1 g1, ?_⟩
          simp only [List.map_cons]
          refine .cons (fun tv htv => ?_) g2
          rw [hrv] at htv; cases htv
          exact e2
  obtain ⟨vs, g1, g2⟩ := hvals _ ys hy
  have hres : (results fn a.tmps).run P w = .ok (if h : vs.toArray.size = 1 then vs.toArray[0] else .tuple vs.toArray) w := by
    have h1 := mapM_run _ _ _ g1
    rw [results_F, Sem.run_bind, Array.mapM_eq_mapM_toList, run_map, h1]
    rfl
  refine ⟨_, hres, ?_⟩
  have hall := plainT_ok (S' := S) (fun b hb => hb) hy g2
  match ys, vs, hall with
  | [y], vs, hall =>
    obtain ⟨v, rfl, hv⟩ := hall.one_left
    exact hv
  | [], vs, hall =>
    obtain rfl := hall.nil_left
    exact ⟨[], rfl, .nil⟩
  | y :: z :: ys, vs, hall =>
    have : ¬ vs.toArray.size = 1 := by have := hall.len; simp at this ⊢; omega
    rw [dif_neg this]
    exact ⟨vs, rfl, hall⟩
theorem fn_ruleR {C : Ctx} {f : FuncId} {fn : Func} {c : Code} (hL : LOk C.P C.L) (hm : C.P.follows .mixedOrders = true) (hf : C.P.funcs[f]? = some fn) (hb : fn.body = some c) (hname : (fn.name == "runtime.NumGoroutine") = false)
    (hn : fn.ntmps = C.n) {xs : List T1} (hx : Nat.ble xs.length C.n = true) {m : List (Nat × Blk)} (hml : (m.all fun p => Nat.blt p.1 C.nx0) = true) {r : TV} {upd : List (Nat × Blk)} {new : List Blk}
    (h : vc C c ⟨argTm 0 xs, m, C.nx0⟩ (fnQR C.L fn.results.toList (m.map (·.1)) C.nx0 r upd new)) : CallsM C.P C.Γ f m C.nx0 xs r upd new := by
  refine ⟨⟨fn, hf, hname, by rw [hb]; rfl⟩, fun ι S w vs hS hG hblk hdst hvs => ?_⟩
  have hxl := Nat.le_of_ble_eq_true hx
  have hlen := hvs.len
  have hmlt : ∀ p ∈ m, p.1 < C.nx0 := fun p hp => Nat.lt_of_succ_le (Nat.le_of_ble_eq_true (List.all_eq_true.1 hml p hp))
  refine calls_of_wp hf hb ?_
  have hR : RS ⟨w, fun g => ∃ p ∈ m, p.2.live = true ∧ blkOf (ι p.1) = some g, S, C.n, C.Γ, ι, C.nx0, []⟩ ⟨argTm 0 xs, m, C.nx0⟩ { tmps := vs.toArray ++ Array.replicate (fn.ntmps - vs.toArray.size) undef, defers := [] } w := by
    refine ⟨ι, S, rfl, rfl, rfl, Nat.le_refl _, fun _ _ _ => rfl, hS, fun _ h => h, fun _ h => .inl h, fun t tv ht => ?_, fun k b hk => hblk _ (findL_mem hk), fun k b hk hl g hg => .inl ⟨(k, b), findL_mem hk, hl, hg⟩, fun k k' b b' g hk hk' hl hl' hg hg' => hdst _ (findL_mem hk) _ (findL_mem hk') g hl hl' hg hg', rfl, ?_, hG, fun _ _ => rfl⟩
    · obtain ⟨x, rfl, _, hx⟩ := argTm_find xs 0 t tv ht
      rw [Nat.sub_zero] at hx
      obtain ⟨u, hu, hv⟩ := hvs.at_left hx
      have hlt := (List.getElem?_eq_some_iff.1 hu).1
      have : (vs.toArray ++ Array.replicate (fn.ntmps - vs.toArray.size) undef).getD t undef = u := by
        simp [Array.getElem?_append, hlt, hu]
        have h2 := (List.getElem?_eq_some_iff.1 hu).2
        exact h2
      show V ι S w (.o x) _
      dsimp only
      rw [this]
      exact hv
    · simp; omega
  refine Code.wp_mono (fun e a w' hq => ?_) (vc_ok hL ⟨rfl, rfl, rfl⟩ hm c _ _ _ w h hR)
  obtain ⟨st, hR', hq⟩ := hq
  have core := core_after (C := C) (m := m) (upd := upd) (new := new) (ι := ι) (S := S) (w := w) (w' := w') (st := st) (a := a) (dd := []) (en := C.n) hmlt
  have coreK := core_afterK (C := C) (m := m) (upd := upd) (new := new) (ι := ι) (S := S) (w := w) (w' := w') (st := st) (a := a) (dd := []) (en := C.n) hmlt
  have key : retOkR C.L fn.results.toList (m.map (·.1)) C.nx0 r upd new st → a.defers = [] ∧ ∃ v, (results fn a.tmps).run C.P w' = .ok v w' ∧ ((∃ x ι' S', Ending.returned v = .returned x ∧ After ι S w C.nx0 ⟨r, m.map (·.1), upd, new⟩ x ι' S' w') ∨ ∃ v0 ι' S', r = .pan v0 ∧ Ending.returned v = .panicked (panE v0) ∧ After ι S w C.nx0 ⟨.und, m.map (·.1), upd, new⟩ undef ι' S' w') := fun hret => by
    obtain ⟨ι1, S1, I⟩ := hR'
    unfold retOkR at hret
    split at hret
    · rename_i ys hy
      rw [forceNs_eq] at hret
      split at hret
      · rename_i u n hu0 hn0
        obtain ⟨hchk, hnm, hr, hu, hnw⟩ := hret
        obtain ⟨v, hres, hval⟩ := results_okR hL I hy
        obtain ⟨ι', S', A⟩ := coreK ι1 S1 r v [] u n _ I ⟨hu0, hn0⟩ hchk hu hnw (by simp) (fun ι' hι => by
          rw [giveUp_nil]
          refine hr _ _ _ _ ?_
          have h2 : V (fun k => ι' (expN C.nx0 ((reach (findL st.mem) 60 (m.map (·.1) ++ refsT ys) []).filter fun k => Nat.ble C.nx0 k) k)) S1 w' (retT ys) v := V.mono (fun _ _ => rfl) (fun _ h => h) (fun k hk => hι k (by
            have := List.all_eq_true.1 hnm k (men_refsT hk)
            rcases (by simpa only [Bool.or_eq_true] using this : _ ∨ _) with h | h
            · left; rw [Nat.blt_eq] at h; exact h
            · right
              obtain ⟨k', hk', e⟩ := List.any_eq_true.1 h
              rw [Nat.eq_of_beq_eq_true e]; exact hk')) hval
          exact (V_ren (ι := fun k => ι' (expN C.nx0 ((reach (findL st.mem) 60 (m.map (·.1) ++ refsT ys) []).filter fun k => Nat.ble C.nx0 k) k)) (ι' := ι') (fun k => rfl)).2 h2)
        exact ⟨I.dn, v, hres, .inl ⟨v, ι', S', rfl, A⟩⟩
      · exact hret.elim
    · exact hret.elim
  cases e with
  | normal => exact key hq
  | ret => exact key hq
  | panic ch =>
    obtain ⟨⟨v0, hr0, rfl⟩, hret⟩ := hq
    obtain ⟨ι1, S1, I⟩ := hR'
    unfold retOkP at hret
    split at hret
    · rename_i u n src hex
      obtain ⟨hchk, hu, hnw⟩ := hret
      obtain ⟨ι', S', A⟩ := core ι1 S1 .und undef [] u n src I hex hchk hu hnw (by simp) (fun _ => rfl)
      exact ⟨I.dn, .inr ⟨v0, ι', S', hr0, rfl, A⟩⟩
    · exact hret.elim
  | _ => exact hq.elim
end Go.Proofs.YtgfmbkbiingagaaGreatDoor

namespace Go.Proofs.YtgfmbkbiingagaaGreatDoor
set_option linter.unusedVariables false
set_option linter.unusedSimpArgs false
open Go.RowKit
set_option maxRecDepth 100000

/-- What reads as the one reads as the other. -/
def DLe (d d' : D) : Prop := ∀ (S : Nat → Prop) (w : World) (u : Value), Imm S w d u → Imm S w d' u
theorem DLe.rfl {d : D} : DLe d d := fun _ _ _ h => h
theorem DLe.nil {s : Nat} : DLe dnil (.sl s []) := fun _ _ _ h => by cases h; exact Imm.nil
theorem All2.flat {α β : Type} {R : α → β → Prop} : ∀ {l : List (List α)} {m : List (List β)}, All2 (All2 R) l m → All2 R l.flatten m.flatten
  | [], m, h => by obtain rfl := h.nil_left; exact .nil
  | a :: l, m, h => by
    obtain ⟨b, m', rfl, h1, h2⟩ := h.cons_left
    exact h1.append h2.flat
theorem DLe.sl {s : Nat} {rows rows' : List (List D)} (h : All2 (All2 DLe) rows rows') : DLe (.sl s rows) (.sl s rows') := fun S w u hu => by
  have hf := h.flat
  cases hu with
  | nil => obtain rfl := h.nil_left; exact Imm.nil
  | sl0 => obtain rfl := h.nil_left; exact Imm.sl0
  | sl us hs hc hr h1 h2 =>
    rw [h.len] at hc ⊢
    refine Imm.sl us hs hc (fun r hr' => ?_) (fun j d hj => ?_) (fun j d hj => ?_)
    · obtain ⟨i, hi⟩ := List.getElem?_of_mem hr'
      obtain ⟨r0, e0, e1⟩ := h.at_right hi
      rw [← e1.len]
      exact hr r0 (List.mem_of_getElem? e0)
    · obtain ⟨d0, e0, e1⟩ := hf.at_right hj
      exact h1 j d0 e0
    · obtain ⟨d0, e0, e1⟩ := hf.at_right hj
      exact e1 _ _ _ (h2 j d0 e0)
/-- A contract, met with arguments that read as its own. -/
theorem CallsA.args {P : Program} {Γ : Glob} {f : FuncId} {xs ys : List T1} {r : TV} (h : CallsA P Γ f ys r) (hx : ∀ (S : Nat → Prop) (w : World) (vs : List Value), All2 (V1 ι0 S w) xs vs → All2 (V1 ι0 S w) ys vs) : CallsA P Γ f xs r :=
  ⟨h.1, fun S w vs hS hG hv => h.2 S w vs hS hG (hx S w vs hv)⟩
theorem CallsA.arg1 {P : Program} {Γ : Glob} {f : FuncId} {d d' : D} {xs : List T1} {r : TV} (h : CallsA P Γ f (c1 d' :: xs) r) (hd : DLe d d') : CallsA P Γ f (c1 d :: xs) r :=
  h.args fun S w vs hv => by
    obtain ⟨u, vs, rfl, h1, h2⟩ := hv.cons_left
    exact .cons (hd _ _ _ h1) h2
end Go.Proofs.YtgfmbkbiingagaaGreatDoor

namespace Go.Proofs.YtgfmbkbiingagaaGreatDoor
set_option linter.unusedVariables false
set_option linter.unusedSimpArgs false
open Go.RowKit
set_option maxRecDepth 100000

def flatTV : TV → Bool
  | .o (.c (.d (.v _))) => true
  | .tup l => l.all fun x => match x with
    | .c (.d (.v _)) => true
    | _ => false
  | _ => false
theorem flatTV_mono {ι ι' : Nat → Value} {S S' : Nat → Prop} {w : World} {r : TV} {x : Value} (h : flatTV r = true) (hv : V ι S w r x) : V ι' S' w r x := by
  unfold flatTV at h
  split at h
  · rename_i y
    have e := V_v hv
    subst e
    have h' : Imm S w (.v x) x := hv
    cases h' with
    | v h1 => exact V_mk h1
  · rename_i l
    obtain ⟨us, rfl, hall⟩ := hv
    refine ⟨us, rfl, hall.mono_mem fun a u ha hau => ?_⟩
    have h1 := List.all_eq_true.1 h a ha
    split at h1
    · rename_i y
      have h' : Imm S w (.v y) u := hau
      cases h' with
      | v h2 => exact Imm.v h2
    · cases h1
  · cases h
theorem CallsA.lend {P : Program} {Γ : Glob} {f : FuncId} {xs xs' : List T1} {r : TV} {ks : List Nat} (h : CallsA P Γ f xs r) (hr : flatTV r = true) (m : List (Nat × Blk)) (nx : Nat) (hm : ∀ p ∈ m, findL m p.1 = some p.2)
    (he : eatT (findL m) (xs'.map fun x => some (.o x)) = some (xs, ks)) : CallsM P Γ f m nx xs' r m [] :=
  ⟨h.1, fun ι S w vs hs hG hb hd hv => by
    have hrow : ∀ k ∈ ks, ∃ size e rows, BlkOk ι S w k (.row size e rows) := fun k hk => by
      obtain ⟨size, e, rows, hf⟩ := eatT_rows he k hk
      exact ⟨size, e, rows, hb _ (findL_mem hf)⟩
    have hS1 : ∀ b, giveUp ι S ks b → b < w.heap.size := fun b hb => by
      rcases hb with hb | ⟨k, hk, hb⟩
      · exact hs b hb
      · obtain ⟨size, e, rows, hr⟩ := hrow k hk
        exact (row_lt hr b hb).1
    have hargs : All2 (fun (a : Option TV) u => ∀ tv, a = some tv → V ι S w tv u) (xs'.map fun x => some (.o x)) vs := All2.map_left (hv.mono fun a u hau tv htv => by cases htv; exact hau)
    have hall := eatT_ok (ι' := ι0) (S' := giveUp ι S ks) (fun b hb => .inl hb) he hargs (fun k hk b hf => hb _ (findL_mem hf)) (fun k hk g hg => .inr ⟨k, hk, hg⟩)
    refine (h.2 (giveUp ι S ks) w vs hS1 (Γ.mono (fun _ _ => rfl) (fun b hb => .inl hb) hG) hall).mono fun e w' ⟨x, S', he, hbel, hsm, hg, hlt, hv⟩ => .inl ⟨x, ι, S, he, ?_⟩
    refine ⟨flatTV_mono hr hv, fun _ _ => rfl, fun _ h => h, fun _ h => .inl h, fun b hb => Nat.lt_of_lt_of_le (hs b hb) hbel.size, hbel.os, hbel.tape, hbel.output, hbel.size, fun b hb' _ => hbel.block b hb', fun k b hk => ?_, (fun _ _ h => by simp at h), (fun _ _ h => by simp at h), (fun _ _ _ _ _ h => by simp at h)⟩
    refine BlkOk.mono (fun b hb => hbel.block b (hs b hb)) (fun _ h => h) (fun _ => rfl) (fun _ _ => rfl) (fun hl g hg => ?_) (hb _ hk)
    have hB := hb _ hk
    obtain ⟨h1, h2⟩ := hB.sep hl hg
    exact ⟨hbel.block g h1, h2⟩⟩
/-- A contract with objects, met with a first argument that reads as its own. -/
theorem CallsM.args {P : Program} {Γ : Glob} {f : FuncId} {m : List (Nat × Blk)} {nx : Nat} {xs ys : List T1} {r : TV} {upd : List (Nat × Blk)} {new : List Blk} (h : CallsM P Γ f m nx ys r upd new)
    (hx : ∀ (ι : Nat → Value) (S : Nat → Prop) (w : World) (vs : List Value), All2 (V1 ι S w) xs vs → All2 (V1 ι S w) ys vs) : CallsM P Γ f m nx xs r upd new :=
  ⟨h.1, fun ι S w vs hs hG hb hd hv => h.2 ι S w vs hs hG hb hd (hx ι S w vs hv)⟩
theorem CallsM.arg1 {P : Program} {Γ : Glob} {f : FuncId} {m : List (Nat × Blk)} {nx : Nat} {d d' : D} {xs : List T1} {r : TV} {upd : List (Nat × Blk)} {new : List Blk} (h : CallsM P Γ f m nx (c1 d' :: xs) r upd new) (hd : DLe d d') : CallsM P Γ f m nx (c1 d :: xs) r upd new :=
  h.args fun ι S w vs hv => by
    obtain ⟨u, vs, rfl, h1, h2⟩ := hv.cons_left
    exact .cons (hd _ _ _ h1) h2
/-- A struct whose first cell is a nil slice reads as one with a slice without rows. -/
theorem g_nil {ι : Nat → Value} {S : Nat → Prop} {w : World} {s : Nat} {l : List CV} {xs : List T1} {vs : List Value} (h : All2 (V1 ι S w) (.g (.d dnil :: l) :: xs) vs) : All2 (V1 ι S w) (.g (.d (.sl s []) :: l) :: xs) vs := by
  obtain ⟨u, vs, rfl, h1, h2⟩ := h.cons_left
  obtain ⟨us, rfl, h3⟩ := h1
  obtain ⟨a, us, rfl, h4, h5⟩ := h3.cons_left
  exact .cons ⟨a :: us, rfl, .cons (CLe_nil (ι := ι) h4) h5⟩ h2
end Go.Proofs.YtgfmbkbiingagaaGreatDoor

namespace Go.Proofs.YtgfmbkbiingagaaGreatDoor
set_option linter.unusedVariables false
set_option linter.unusedSimpArgs false
open Go.RowKit
set_option maxRecDepth 100000
section
variable {P : Program}
def EqT (P : Program) (d : Nat) (t : TypeId) (x y : Value) (c : Bool) : Prop := ∀ w, (Op.equalIn d t x y).run P w = .ok c w
def EqFs (P : Program) (d : Nat) (xs ys : List Value) (fs : List Field) (c : Bool) : Prop := ∀ w, (Op.eqFields d xs.toArray ys.toArray fs).run P w = .ok c w
def PartI (P : Program) (t : TypeId) (xs : List Value) (off : Nat) (x : Value) : Prop := ∀ w, (part t xs.toArray off).run P w = .ok x w
theorem EqT.int {d : Nat} {t : TypeId} {k k' : IntKind} {a b : Int} (h : P.underlying t = some (.int k')) : EqT P (d + 1) t (.int k a) (.int k b) (decide (a = b)) := fun w => by
  rw [run_equalIn_int w d t k k' a b h]
  rfl
theorem EqT.str {d : Nat} {t : TypeId} {a b : ByteArray} (h : P.underlying t = some .string) : EqT P (d + 1) t (.string a) (.string b) (decide (a = b)) := fun w => by
  rw [run_equalIn_string w d t a b h, bytes_eq]
theorem EqT.bool {d : Nat} {t : TypeId} {a b : Bool} (h : P.underlying t = some .bool) : EqT P (d + 1) t (.bool a) (.bool b) (decide (a = b)) := fun w => by
  rw [run_equalIn_bool' w d t a b h]
  cases a <;> cases b <;> rfl
theorem EqT.st {d : Nat} {t : TypeId} {fs : Array Field} {xs ys : List Value} {c : Bool} (hu : P.underlying t = some (.struct fs)) (hp : P.stoodInHeld t = false) (h : EqFs P d xs ys fs.toList c) : EqT P (d + 1) t (.agg xs.toArray) (.agg ys.toArray) c := fun w => by
  have hf : P.fieldsOf t = fs := by unfold Program.fieldsOf; rw [hu]
  rw [run_equalIn_struct w d t _ _ (by rw [hf]; exact hu) hp, hf]
  exact h w
/-- A struct's fields: is it named? its type, its place. -/
def fieldsK (P : Program) (t : TypeId) : List (Bool × Nat × Nat) := (P.fieldsOf t).toList.map fun f => (f.name != "_", f.type, f.offset)
def EqKs (P : Program) (d : Nat) (xs ys : List Value) (ks : List (Bool × Nat × Nat)) (c : Bool) : Prop := ∀ fs : List Field, fs.map (fun f => (f.name != "_", f.type, f.offset)) = ks → EqFs P d xs ys fs c
theorem EqT.stk {d : Nat} {t : TypeId} {xs ys : List Value} {c : Bool} (ks : List (Bool × Nat × Nat)) (hk : fieldsK P t = ks) (hs : (match P.underlying t with | some (.struct _) => true | _ => false) = true) (hp : P.stoodInHeld t = false) (h : EqKs P d xs ys ks c) : EqT P (d + 1) t (.agg xs.toArray) (.agg ys.toArray) c := by
  split at hs
  · rename_i fs hu
    refine EqT.st hu hp (h _ ?_)
    have hf : P.fieldsOf t = fs := by unfold Program.fieldsOf; rw [hu]
    rw [← hk, ← hf]; rfl
  · cases hs
theorem EqKs.nil {d : Nat} {xs ys : List Value} : EqKs P d xs ys [] true := fun fs h => by
  rw [List.map_eq_nil_iff] at h
  subst h
  exact fun w => rfl
theorem EqFs.cons {d : Nat} {xs ys : List Value} {f : Field} {fs : List Field} {x y : Value} {b c : Bool} (hn : (f.name != "_") = true) (hx : PartI P f.type xs f.offset x) (hy : PartI P f.type ys f.offset y) (h1 : EqT P d f.type x y b) (h2 : EqFs P d xs ys fs c) : EqFs P d xs ys (f :: fs) (b && c) := fun w => by
  have hn' : f.name ≠ "_" := by simpa using hn
  rw [Op.eqFields, if_pos hn']
  simp only [Sem.run_bind]
  rw [hx w, Result.andThen_ok, hy w, Result.andThen_ok, h1 w, Result.andThen_ok]
  cases b
  · simp
  · simp only [Bool.not_true, Bool.false_eq_true, if_false, Bool.true_and]
    exact h2 w
theorem EqKs.cons {d t off : Nat} {xs ys : List Value} {ks : List (Bool × Nat × Nat)} {x y : Value} {b c : Bool} (hx : PartI P t xs off x) (hy : PartI P t ys off y) (h1 : EqT P d t x y b) (h2 : EqKs P d xs ys ks c) : EqKs P d xs ys ((true, t, off) :: ks) (b && c) := fun fs h => by
  rcases fs with _ | ⟨f, fs⟩
  · cases h
  · rw [List.map_cons] at h
    injection h with e h
    injection e with e1 e
    injection e with e2 e3
    subst e2
    subst e3
    exact EqFs.cons e1 hx hy h1 (h2 fs h)
def isAggB (P : Program) (t : TypeId) : Bool := match P.underlying t with
  | some (.struct _) | some (.array _ _) => true
  | _ => false
theorem PartI.one {t : TypeId} {xs : List Value} {off : Nat} {x : Value} {dsc : TypeDesc} (hu : P.underlying t = some dsc) (ha : isAggB P t = false) (hx : xs[off]? = some x) : PartI P t xs off x := fun w => by
  unfold isAggB at ha
  rw [hu] at ha
  unfold part isAgg
  simp only [Sem.run_bind, run_underlying hu, Result.andThen_ok]
  cases dsc <;> first | (cases ha; done) | (simp [hx]; done)
theorem PartI.agg {t : TypeId} {xs : List Value} {off n : Nat} {ys : List Value} {dsc : TypeDesc} {i : TypeInfo} (hu : P.underlying t = some dsc) (ha : isAggB P t = true) (hi : P.info? t = some i) (hn : i.size = n) (hx : (xs.drop off).take n = ys) : PartI P t xs off (.agg ys.toArray) := fun w => by
  unfold isAggB at ha
  rw [hu] at ha
  have h1 : ∀ w, (isAgg t).run P w = .ok true w := fun w => by
    unfold isAgg
    simp only [Sem.run_bind, run_underlying hu, Result.andThen_ok]
    cases dsc <;> first | (cases ha; done) | rfl
  have h2 : ∀ w, (sizeOf t).run P w = .ok n w := fun w => by
    unfold sizeOf
    simp [typeInfo, hi, hn]
  unfold part
  simp only [Sem.run_bind, h1, h2, Result.andThen_ok, if_true]
  rw [← hx]
  simp [List.extract_eq_take_drop]
def leafI (xs ys : List Value) : Option Bool := match xs, ys with
  | [.int k a], [.int k' b] => if k = k' then some (decide (a = b)) else none
  | _, _ => none
def leafS (xs ys : List Value) : Option Bool := match xs, ys with
  | [.string a], [.string b] => some (decide (a = b))
  | _, _ => none
def leafB (xs ys : List Value) : Option Bool := match xs, ys with
  | [.bool a], [.bool b] => some (decide (a = b))
  | _, _ => none
theorem leafI_ok {xs ys : List Value} {c : Bool} (h : leafI xs ys = some c) : ∃ k a b, xs = [.int k a] ∧ ys = [.int k b] ∧ c = decide (a = b) := by
  unfold leafI at h
  split at h
  · split at h
    · rename_i e; subst e; injection h with h; exact ⟨_, _, _, rfl, rfl, h.symm⟩
    · cases h
  · cases h
theorem leafS_ok {xs ys : List Value} {c : Bool} (h : leafS xs ys = some c) : ∃ a b, xs = [.string a] ∧ ys = [.string b] ∧ c = decide (a = b) := by
  unfold leafS at h
  split at h
  · injection h with h; exact ⟨_, _, rfl, rfl, h.symm⟩
  · cases h
theorem leafB_ok {xs ys : List Value} {c : Bool} (h : leafB xs ys = some c) : ∃ a b, xs = [.bool a] ∧ ys = [.bool b] ∧ c = decide (a = b) := by
  unfold leafB at h
  split at h
  · injection h with h; exact ⟨_, _, rfl, rfl, h.symm⟩
  · cases h
/-- Are two values of a type equal, cell by cell? -/
def eqV (P : Program) : Nat → TypeId → List Value → List Value → Option Bool
  | 0, _, _, _ => none
  | d + 1, t, xs, ys => match P.underlying t with
    | some (.int _) => leafI xs ys
    | some .string => leafS xs ys
    | some .bool => leafB xs ys
    | some (.struct fs) => match P.stoodInHeld t, P.info? t with
      | false, some _ => fs.toList.foldr (fun f r => match f.name != "_", eqV P d f.type ((xs.drop f.offset).take (P.cellsOf f.type)) ((ys.drop f.offset).take (P.cellsOf f.type)), r with
        | true, some b, some c => some (b && c)
        | _, _, _ => none) (some true)
      | _, _ => none
    | some (.array n e) => match P.info? e, P.info? t with
      | some _, some _ => (List.range n).foldr (fun i r => match eqV P d e ((xs.drop (i * P.cellsOf e)).take (P.cellsOf e)) ((ys.drop (i * P.cellsOf e)).take (P.cellsOf e)), r with
        | some b, some c => some (b && c)
        | _, _ => none) (some true)
      | _, _ => none
    | _ => none
/-- The value of a type that is made of cells. -/
def packV (P : Program) (t : TypeId) (xs : List Value) : Value := match isAggB P t with
  | true => .agg xs.toArray
  | false => xs.headD undef
theorem part_pack {t : TypeId} {xs : List Value} {off : Nat} {dsc : TypeDesc} {i : TypeInfo} (hu : P.underlying t = some dsc) (hi : P.info? t = some i) (h1 : isAggB P t = true ∨ ((xs.drop off).take (P.cellsOf t)) ≠ []) : PartI P t xs off (packV P t ((xs.drop off).take (P.cellsOf t))) := by
  have hc : P.cellsOf t = i.size := by unfold Program.cellsOf; rw [hi]; rfl
  unfold packV
  cases ha : isAggB P t with
  | true => exact PartI.agg hu ha hi rfl (by rw [hc])
  | false =>
    refine PartI.one hu ha ?_
    rcases h1 with h1 | h1
    · rw [ha] at h1; cases h1
    · cases hd : xs.drop off with
      | nil => rw [hd] at h1; simp at h1
      | cons x l =>
        cases hn : P.cellsOf t with
        | zero => rw [hn] at h1; simp at h1
        | succ n =>
          have := congrArg (·[0]?) hd
          simpa using this
theorem eqV_some {d : Nat} {t : TypeId} {xs ys : List Value} {c : Bool} (h : eqV P d t xs ys = some c) : (∃ dsc i, P.underlying t = some dsc ∧ P.info? t = some i) ∧ (isAggB P t = true ∨ xs ≠ [] ∧ ys ≠ []) := by
  cases d with
  | zero => cases h
  | succ d =>
    have hinf : ∀ dsc, P.underlying t = some dsc → ∃ i, P.info? t = some i := fun dsc hu => info_of_underlying hu
    rw [eqV] at h
    split at h
    · rename_i hu
      obtain ⟨i, hi⟩ := hinf _ hu
      refine ⟨⟨_, i, hu, hi⟩, .inr ?_⟩
      obtain ⟨_, _, _, rfl, rfl, -⟩ := leafI_ok h
      simp
    · rename_i hu
      obtain ⟨i, hi⟩ := hinf _ hu
      refine ⟨⟨_, i, hu, hi⟩, .inr ?_⟩
      obtain ⟨_, _, rfl, rfl, -⟩ := leafS_ok h
      simp
    · rename_i hu
      obtain ⟨i, hi⟩ := hinf _ hu
      refine ⟨⟨_, i, hu, hi⟩, .inr ?_⟩
      obtain ⟨_, _, rfl, rfl, -⟩ := leafB_ok h
      simp
    · rename_i hu
      obtain ⟨i, hi⟩ := hinf _ hu
      exact ⟨⟨_, i, hu, hi⟩, .inl (by unfold isAggB; rw [hu])⟩
    · rename_i hu
      obtain ⟨i, hi⟩ := hinf _ hu
      exact ⟨⟨_, i, hu, hi⟩, .inl (by unfold isAggB; rw [hu])⟩
    · cases h
theorem eqV_ok : ∀ (d : Nat) (t : TypeId) (xs ys : List Value) (c : Bool), eqV P d t xs ys = some c → ∀ dd, d ≤ dd → EqT P dd t (packV P t xs) (packV P t ys) c
  | 0, _, _, _, _, h, _, _ => by cases h
  | d + 1, t, xs, ys, c, h, dd, hdd => by
    obtain ⟨dd, rfl⟩ : ∃ k, dd = k + 1 := ⟨dd - 1, by omega⟩
    have hd : d ≤ dd := by omega
    have step : ∀ (t : TypeId) (off : Nat) (c : Bool), eqV P d t ((xs.drop off).take (P.cellsOf t)) ((ys.drop off).take (P.cellsOf t)) = some c →
        ∃ x y, PartI P t xs off x ∧ PartI P t ys off y ∧ EqT P dd t x y c := fun t off c h => by
      obtain ⟨⟨dsc, i, hu, hi⟩, h2⟩ := eqV_some h
      exact ⟨_, _, part_pack hu hi (h2.imp id (·.1)), part_pack hu hi (h2.imp id (·.2)), eqV_ok d t _ _ c h dd hd⟩
    rw [eqV] at h
    split at h
    · rename_i k hu
      have ha : isAggB P t = false := by unfold isAggB; rw [hu]
      obtain ⟨_, _, _, rfl, rfl, rfl⟩ := leafI_ok h
      unfold packV; rw [ha]
      exact EqT.int hu
    · rename_i hu
      have ha : isAggB P t = false := by unfold isAggB; rw [hu]
      obtain ⟨_, _, rfl, rfl, rfl⟩ := leafS_ok h
      unfold packV; rw [ha]
      exact EqT.str hu
    · rename_i hu
      have ha : isAggB P t = false := by unfold isAggB; rw [hu]
      obtain ⟨_, _, rfl, rfl, rfl⟩ := leafB_ok h
      unfold packV; rw [ha]
      exact EqT.bool hu
    · rename_i fs hu
      have ha : isAggB P t = true := by unfold isAggB; rw [hu]
      unfold packV; rw [ha]
      split at h
      · rename_i hp hi
        refine EqT.st hu hp ?_
        generalize fs.toList = l at h
        induction l generalizing c with
        | nil => injection h with h; subst h; exact fun w => rfl
        | cons f l ih =>
          rw [List.foldr_cons] at h
          split at h
          · rename_i b c' hn hb hc
            injection h with h; subst h
            obtain ⟨x, y, h1, h2, h3⟩ := step f.type f.offset b hb
            exact EqFs.cons hn h1 h2 h3 (ih c' hc)
          · cases h
      · cases h
    · rename_i n e hu
      have ha : isAggB P t = true := by unfold isAggB; rw [hu]
      unfold packV; rw [ha]
      split at h
      · rename_i i i' hi hi'
        intro w
        rw [run_equalIn_array w dd xs.toArray ys.toArray hu hi]
        revert w
        generalize List.range n = l at h
        induction l generalizing c with
        | nil => injection h with h; subst h; exact fun w => rfl
        | cons j l ih =>
          intro w
          rw [List.foldr_cons] at h
          split at h
          · rename_i b c' hb hc
            injection h with h; subst h
            obtain ⟨x, y, h1, h2, h3⟩ := step e (j * P.cellsOf e) b hb
            rw [Op.eqItems]
            simp only [Sem.run_bind]
            rw [h1 w, Result.andThen_ok, h2 w, Result.andThen_ok, h3 w, Result.andThen_ok]
            have := ih c' hc w
            cases b
            · simp
            · simpa using this
          · cases h
      · cases h
    · cases h
theorem eqV_self : ∀ (d : Nat) (t : TypeId) (xs : List Value) (c : Bool), eqV P d t xs xs = some c → c = true
  | 0, _, _, _, h => by cases h
  | d + 1, t, xs, c, h => by
    rw [eqV] at h
    split at h
    · obtain ⟨k, a, b, e1, e2, e3⟩ := leafI_ok h
      rw [e1] at e2
      cases e2
      rw [e3]; simp
    · obtain ⟨a, b, e1, e2, e3⟩ := leafS_ok h
      rw [e1] at e2
      cases e2
      rw [e3]; simp
    · obtain ⟨a, b, e1, e2, e3⟩ := leafB_ok h
      rw [e1] at e2
      cases e2
      rw [e3]; simp
    · split at h
      · rename_i fs _ _ _ _ _ _
        generalize fs.toList = l at h
        induction l generalizing c with
        | nil => injection h with h; exact h.symm
        | cons f l ih =>
          rw [List.foldr_cons] at h
          split at h
          · rename_i b c' hn hb hc
            injection h with h
            rw [← h, eqV_self d _ _ _ hb, ih c' hc]; rfl
          · cases h
      · cases h
    · split at h
      · rename_i n e _ _ _ _ _ _ _
        generalize List.range n = l at h
        induction l generalizing c with
        | nil => injection h with h; exact h.symm
        | cons f l ih =>
          rw [List.foldr_cons] at h
          split at h
          · rename_i b c' hb hc
            injection h with h
            rw [← h, eqV_self d _ _ _ hb, ih c' hc]; rfl
          · cases h
      · cases h
    · cases h
/-- The equality of two structs or arrays, as the walk asks for it. -/
theorem eq_two {t : TypeId} {xs ys : List Value} {c : Bool} (h : eqV P 20 t xs ys = some c) (ha : isAggB P t = true) : ∀ w, (Op.equal t (.agg xs.toArray) (.agg ys.toArray)).run P w = .ok c w := fun w => by
  have := eqV_ok 20 t xs ys c h 10000 (by omega) w
  unfold packV at this
  rw [ha] at this
  exact this
theorem eq_same {t : TypeId} {xs : List Value} (h : (eqV P 20 t xs xs).isSome = true) (ha : isAggB P t = true) : ∀ w, (Op.equal t (.agg xs.toArray) (.agg xs.toArray)).run P w = .ok true w := by
  obtain ⟨c, hc⟩ := Option.isSome_iff_exists.1 h
  have := eqV_self 20 t xs c hc
  subst this
  exact eq_two hc ha
end
theorem ex_agg {g : Prop} {Q K : Bool → Prop} (hg : g) (c : Bool) (he : Q c) (h : K c) : g ∧ ∃ c, Q c ∧ K c := ⟨hg, c, he, h⟩
end Go.Proofs.YtgfmbkbiingagaaGreatDoor

namespace Go.Proofs.YtgfmbkbiingagaaGreatDoor
set_option linter.unusedVariables false
set_option linter.unusedSimpArgs false

def opsL : List (List UInt8 × Nat × Nat × Nat) := [([112, 117, 115, 104], 1, 0, 1), ([108, 111, 97, 100], 1, 0, 1), ([115, 116, 111, 114, 101], 1, 1, 0), ([100, 114, 111, 112], 0, 1, 0), ([97, 108, 117], 1, 2, 1), ([110, 111, 116], 0, 1, 1), ([105, 110, 116], 2, 0, 1), ([119, 111, 114, 100], 2, 0, 1), ([112, 97, 114, 116], 2, 1, 1), ([98, 121, 116, 101, 115], 0, 1, 0), ([122, 101, 114, 111], 0, 1, 0), ([115, 107, 105, 112], 0, 1, 0), ([116, 97, 105, 108], 0, 0, 0), ([110, 111, 110, 101], 0, 0, 0), ([111, 112, 101, 110], 1, 0, 0), ([99, 108, 111, 115, 101], 0, 0, 0), ([101, 110, 116, 101, 114], 0, 1, 0), ([108, 101, 97, 118, 101], 0, 0, 0), ([115, 101, 101, 107], 0, 1, 0), ([98, 97, 99, 107], 0, 0, 0), ([106, 117, 109, 112], 1, 0, 0), ([106, 117, 109, 112, 122], 1, 1, 0), ([109, 111, 114, 101], 1, 0, 0), ([104, 101, 114, 101], 1, 0, 0), ([109, 111, 118, 101, 100], 1, 0, 0), ([99, 111, 117, 110, 116], 2, 0, 0), ([105, 110, 99, 114], 1, 0, 0), ([108, 105, 109, 105, 116], 0, 1, 1), ([99, 97, 108, 108], 1, 0, 0), ([114, 101, 116], 0, 0, 0), ([116, 101, 115, 116], 2, 1, 0), ([102, 97, 105, 108], 1, 0, 0), ([99, 114, 99], 2, 0, 1), ([97, 100, 108, 101, 114], 2, 0, 1), ([115, 105, 122, 101], 2, 0, 1), ([101, 110, 100], 0, 0, 0)]
abbrev OpR := List UInt8 × Nat × Nat × Nat
def noneR : OpR := ([], 0, 0, 0)
/-- An Op's word; what it has, takes and puts. -/
def opF (o : Int) : OpR := if 0 ≤ o ∧ o < 36 then opsL.getD o.toNat noneR else noneR
structure IN where
  o : Int
  a : Int
  b : Int
  n : Nat
structure FN where
  e : Int
  s : Int
  p : Int
def arg (z : Int) : List UInt8 := 32 :: Lib.itoa z
/-- An instruction's line, without a line feed. -/
def lineF (x : IN) : List UInt8 :=
  match (opF x.o).1 with
  | [] => [63]
  | w => if x.o = 0 then w ++ 32 :: Lib.decDigits x.n else w ++ ([x.a, x.b].take (opF x.o).2.1).flatMap arg
def funcS : List UInt8 := [102, 117, 110, 99]
def fnF (f : FN) : List UInt8 := funcS ++ [f.e, f.s, f.p].flatMap arg
def textF (fs : List FN) (l : List IN) : List UInt8 := fs.flatMap (fun f => fnF f ++ [10]) ++ l.flatMap (fun x => lineF x ++ [10])

/-! ### Numbers -/
def natF (s : List UInt8) : Option Nat := match Lib.parseUintB 64 s with
  | .ok n => if Lib.decDigits n = s then some n else none
  | _ => none
def intF (s : List UInt8) : Option Int := match Lib.atoiAll s with
  | .ok n => if Lib.itoa n = s then some n else none
  | _ => none
theorem decU8 (d : Nat) (h : d < 10) : (UInt8.ofNat (48 + d)).toNat = 48 + d := by rw [UInt8.toNat_ofNat']; show (48 + d) % 256 = _; omega
theorem dec_ne (n : Nat) : Lib.decDigits n ≠ [] := by
  rw [Lib.decDigits]
  split <;> simp
theorem parseM_dec (n : Nat) : n < 18446744073709551616 → ∀ r : List UInt8, Lib.parseUintM 18446744073709551615 0 (Lib.decDigits n ++ r) = Lib.parseUintM 18446744073709551615 n r := by
  induction n using Nat.strongRecOn with
  | ind n ih =>
    intro hn r
    rw [Lib.decDigits]
    split
    · rename_i h
      rw [List.singleton_append, Lib.parseUintM, decU8 n h, if_pos ⟨by omega, by omega⟩, if_neg (by omega), if_neg (by omega)]
      congr 1; omega
    · rename_i h
      rw [List.append_assoc, ih (n / 10) (by omega) (by omega), List.singleton_append, Lib.parseUintM, decU8 _ (by omega), if_pos ⟨by omega, by omega⟩, if_neg (by omega), if_neg (by omega)]
      congr 1; omega
theorem parse10_dec (n : Nat) : n < 18446744073709551616 → ∀ r : List UInt8, Lib.parseUint10 0 (Lib.decDigits n ++ r) = Lib.parseUint10 n r := by
  induction n using Nat.strongRecOn with
  | ind n ih =>
    intro hn r
    rw [Lib.decDigits]
    split
    · rename_i h
      rw [List.singleton_append, Lib.parseUint10, decU8 n h, if_pos ⟨by omega, by omega⟩, if_neg (by omega), if_neg (by omega)]
      congr 1; omega
    · rename_i h
      rw [List.append_assoc, ih (n / 10) (by omega) (by omega), List.singleton_append, Lib.parseUint10, decU8 _ (by omega), if_pos ⟨by omega, by omega⟩, if_neg (by omega), if_neg (by omega)]
      congr 1; omega
theorem natF_iff {s : List UInt8} {n : Nat} : natF s = some n ↔ n < 18446744073709551616 ∧ Lib.decDigits n = s := by
  have key : ∀ n, n < 18446744073709551616 → Lib.parseUintB 64 (Lib.decDigits n) = .ok n := fun n hn => by
    have h1 := parseM_dec n hn []
    rw [List.append_nil, Lib.parseUintM] at h1
    unfold Lib.parseUintB
    rw [if_neg (dec_ne n)]
    exact h1
  have hlt : ∀ (l : List UInt8) (acc u : Nat), acc < 18446744073709551616 → Lib.parseUintM 18446744073709551615 acc l = .ok u → u < 18446744073709551616 := by
    intro l
    induction l with
    | nil => intro acc u h e; simp only [Lib.parseUintM] at e; injection e with e; omega
    | cons c r ih =>
      intro acc u h e
      rw [Lib.parseUintM] at e
      split at e
      · split at e
        · cases e
        · split at e
          · cases e
          · exact ih _ _ (by omega) e
      · cases e
  constructor
  · intro h
    unfold natF at h
    split at h
    · rename_i m hm
      split at h
      · rename_i hd
        injection h with h
        subst h
        refine ⟨?_, hd⟩
        unfold Lib.parseUintB at hm
        split at hm
        · cases hm
        · exact hlt _ _ _ (by omega) hm
      · cases h
    · cases h
  · rintro ⟨h1, rfl⟩
    unfold natF
    rw [key n h1]
    dsimp only
    rw [if_pos rfl]
theorem dec_head (n : Nat) : ∃ c r, Lib.decDigits n = c :: r ∧ 48 ≤ c.toNat ∧ c.toNat ≤ 57 := by
  induction n using Nat.strongRecOn with
  | ind n ih =>
    rw [Lib.decDigits]
    split
    · rename_i h
      exact ⟨_, [], rfl, by rw [decU8 n h]; omega, by rw [decU8 n h]; omega⟩
    · rename_i h
      obtain ⟨c, r, e, h1, h2⟩ := ih (n / 10) (by omega)
      rw [e]
      exact ⟨c, _, rfl, h1, h2⟩
theorem mag_dec (n : Nat) (hn : n < 18446744073709551616) : Lib.parseMag (Lib.decDigits n) = .ok n := by
  have h1 := parse10_dec n hn []
  rw [List.append_nil, Lib.parseUint10] at h1
  unfold Lib.parseMag
  rw [if_neg (dec_ne n), h1]
theorem atoi_itoa (z : Int) (h1 : -9223372036854775808 ≤ z) (h2 : z ≤ 9223372036854775807) : Lib.atoiAll (Lib.itoa z) = .ok z := by
  unfold Lib.itoa
  split
  · rename_i h
    rw [Lib.atoiAll_minus, mag_dec _ (by omega), Lib.signed, if_neg (by omega)]
    congr 1; omega
  · rename_i h
    obtain ⟨c, r, e, h3, h4⟩ := dec_head z.toNat
    have := mag_dec z.toNat (by omega)
    rw [e] at this ⊢
    rw [Lib.atoiAll_plain c r (by omega) (by omega), this, Lib.signless, if_neg (by omega)]
    congr 1; omega
theorem intF_iff {s : List UInt8} {z : Int} : intF s = some z ↔ (-9223372036854775808 ≤ z ∧ z ≤ 9223372036854775807) ∧ Lib.itoa z = s := by
  constructor
  · intro h
    unfold intF at h
    split at h
    · rename_i m hm
      split at h
      · rename_i hd
        injection h with h
        subst h
        exact ⟨Lib.atoiAll_bounds hm, hd⟩
      · cases h
    · cases h
  · rintro ⟨⟨h1, h2⟩, rfl⟩
    unfold intF
    rw [atoi_itoa z h1 h2]
    dsimp only
    rw [if_pos rfl]
/-- Digits, read one by one. -/
def digR (acc : Nat) : List UInt8 → Option Nat
  | [] => some acc
  | c :: r => if 48 ≤ c.toNat ∧ c.toNat ≤ 57 then if (18446744073709551615 - (c.toNat - 48)) / 10 < acc then none else digR (10 * acc + (c.toNat - 48)) r else none
theorem digR_dec (n : Nat) : n < 18446744073709551616 → ∀ r : List UInt8, digR 0 (Lib.decDigits n ++ r) = digR n r := by
  induction n using Nat.strongRecOn with
  | ind n ih =>
    intro hn r
    rw [Lib.decDigits]
    split
    · rename_i h
      rw [List.singleton_append, digR, decU8 n h, if_pos ⟨by omega, by omega⟩, if_neg (by omega)]
      congr 1; omega
    · rename_i h
      rw [List.append_assoc, ih (n / 10) (by omega) (by omega), List.singleton_append, digR, decU8 _ (by omega), if_pos ⟨by omega, by omega⟩, if_neg (by omega)]
      congr 1; omega
theorem dec_snoc {c : UInt8} {a : Nat} (h : 48 ≤ c.toNat ∧ c.toNat ≤ 57) (ha : 0 < a) : Lib.decDigits (10 * a + (c.toNat - 48)) = Lib.decDigits a ++ [c] := by
  rw [Lib.decDigits, dif_neg (by omega)]
  rw [show (10 * a + (c.toNat - 48)) / 10 = a by omega, show (10 * a + (c.toNat - 48)) % 10 = c.toNat - 48 by omega]
  congr 2
  apply UInt8.toNat_inj.1
  rw [decU8 _ (by omega)]
  omega
theorem digR_ok : ∀ (l : List UInt8) (a n : Nat), 0 < a → a < 18446744073709551616 → digR a l = some n → n < 18446744073709551616 ∧ Lib.decDigits n = Lib.decDigits a ++ l
  | [], a, n, _, h1, h => by
    rw [digR] at h
    injection h with h
    subst h
    exact ⟨h1, by rw [List.append_nil]⟩
  | c :: r, a, n, h0, h1, h => by
    rw [digR] at h
    split at h
    · rename_i hc
      split at h
      · cases h
      · rename_i hn
        obtain ⟨e1, e2⟩ := digR_ok r _ n (by omega) (by omega) h
        rw [dec_snoc hc h0] at e2
        exact ⟨e1, by rw [e2, List.append_assoc]; rfl⟩
    · cases h
/-- A number of digits, as it is written. -/
def decR (d : List UInt8) (neg : Bool) : Option Nat :=
  match d with
  | [] => none
  | c :: r => if c = 48 ∧ (r ≠ [] ∨ neg = true) then none else digR 0 (c :: r)
theorem dec_zero1 {n : Nat} {r : List UInt8} (h : Lib.decDigits n = 48 :: r) : n = 0 ∧ r = [] := by
  have h0 : Lib.decDigits 0 = [48] := by rw [Lib.decDigits]; rfl
  induction n using Nat.strongRecOn generalizing r with
  | ind n ih =>
    rw [Lib.decDigits] at h
    split at h
    · rename_i hn
      injection h with h1 h2
      have := decU8 n hn
      rw [h1] at this
      have : n = 0 := by have h48 : (48 : UInt8).toNat = 48 := rfl; omega
      exact ⟨this, h2.symm⟩
    · rename_i hn
      obtain ⟨c, r2, e, -, -⟩ := dec_head (n / 10)
      rw [e] at h
      injection h with h1 h2
      subst h1
      have := (ih (n / 10) (by omega) e).1
      omega
theorem decR_iff {d : List UInt8} {neg : Bool} {n : Nat} : decR d neg = some n ↔ n < 18446744073709551616 ∧ Lib.decDigits n = d ∧ ¬ (neg = true ∧ n = 0) := by
  have h0 : Lib.decDigits 0 = [48] := by rw [Lib.decDigits]; rfl
  constructor
  · intro h
    rcases d with _ | ⟨c, r⟩
    · cases h
    · rw [decR] at h
      split at h
      · cases h
      · rename_i hz
        rw [digR] at h
        split at h
        · rename_i hc
          rw [if_neg (by omega)] at h
          have hone : ∀ k, 10 * 0 + (c.toNat - 48) = k → Lib.decDigits k = [c] := fun k hk => by
            rw [Lib.decDigits, dif_pos (by omega)]
            congr 1
            apply UInt8.toNat_inj.1
            rw [decU8 _ (by omega)]
            omega
          by_cases h48 : c = 48
          · subst h48
            rcases r with _ | ⟨x, y⟩
            · rw [digR] at h
              injection h with h
              subst h
              exact ⟨by decide, h0, fun hh => hz ⟨rfl, .inr hh.1⟩⟩
            · exact absurd ⟨rfl, .inl (by simp)⟩ hz
          · have hpos : 0 < 10 * 0 + (c.toNat - 48) := by
              have : c.toNat ≠ 48 := fun e => h48 (UInt8.toNat_inj.1 e)
              omega
            obtain ⟨e1, e2⟩ := digR_ok r _ n hpos (by omega) h
            rw [hone _ rfl] at e2
            refine ⟨e1, e2, fun hh => ?_⟩
            rw [hh.2, h0] at e2
            injection e2 with e2 _
            exact h48 e2.symm
        · cases h
  · rintro ⟨h1, h2, h3⟩
    obtain ⟨c, r, e, h4, h5⟩ := dec_head n
    have hd := digR_dec n h1 []
    rw [List.append_nil, digR, h2] at hd
    rw [h2] at e
    rw [e] at hd h2 ⊢
    rw [decR, if_neg, hd]
    rintro ⟨rfl, h6⟩
    obtain ⟨h7, h8⟩ := dec_zero1 h2
    rcases h6 with h6 | h6
    · exact h6 h8
    · exact h3 ⟨h6, h7⟩
/-- What the document's 'number' reads: sign and digits. -/
def signR (s : List UInt8) : Bool × List UInt8 := match s with
  | 45 :: r => (true, r)
  | s => (false, s)
def wholeR (s : List UInt8) : Option Int :=
  match decR (signR s).2 (signR s).1 with
  | none => none
  | some n => if (signR s).1 = false ∧ 9223372036854775807 < n ∨ (signR s).1 = true ∧ 9223372036854775808 < n then none else some (if (signR s).1 then -(n : Int) else n)
theorem signR_minus (r : List UInt8) : signR (45 :: r) = (true, r) := rfl
theorem signR_other {s : List UInt8} (h : ∀ r, s ≠ 45 :: r) : signR s = (false, s) := by
  unfold signR
  split
  · exact absurd rfl (h _)
  · rfl
theorem wholeR_iff {s : List UInt8} {z : Int} : wholeR s = some z ↔ (-9223372036854775808 ≤ z ∧ z ≤ 9223372036854775807) ∧ Lib.itoa z = s := by
  by_cases hm : ∃ r, s = 45 :: r
  · obtain ⟨r, rfl⟩ := hm
    unfold wholeR
    rw [signR_minus]
    dsimp only
    constructor
    · intro h
      split at h
      · cases h
      · rename_i n hn
        obtain ⟨h1, h2, h3⟩ := decR_iff.1 hn
        split at h
        · cases h
        · rename_i hb
          injection h with h
          rw [if_pos rfl] at h
          have hb' : ¬ 9223372036854775808 < n := fun hh => hb (.inr ⟨rfl, hh⟩)
          have hn0 : n ≠ 0 := fun hh => h3 ⟨rfl, hh⟩
          subst h
          refine ⟨⟨by omega, by omega⟩, ?_⟩
          unfold Lib.itoa
          rw [if_pos (by omega), show (-(n : Int)).natAbs = n by omega, h2]
    · rintro ⟨⟨h1, h2⟩, h3⟩
      unfold Lib.itoa at h3
      split at h3
      · rename_i hz
        injection h3 with _ h3
        have hd : decR r true = some z.natAbs := decR_iff.2 ⟨by omega, h3, by omega⟩
        rw [hd]
        dsimp only
        rw [if_neg (by rintro (⟨h, -⟩ | ⟨-, h⟩); cases h; omega), if_pos rfl]
        congr 1; omega
      · obtain ⟨c, r2, e, h4, h5⟩ := dec_head z.toNat
        rw [e] at h3
        injection h3 with h3 _
        subst h3
        exact absurd h4 (by decide)
  · have hs := signR_other (s := s) (fun r e => hm ⟨r, e⟩)
    unfold wholeR
    rw [hs]
    dsimp only
    constructor
    · intro h
      split at h
      · cases h
      · rename_i n hn
        obtain ⟨h1, h2, h3⟩ := decR_iff.1 hn
        split at h
        · cases h
        · rename_i hb
          injection h with h
          rw [if_neg (by decide)] at h
          have hb' : ¬ 9223372036854775807 < n := fun hh => hb (.inl ⟨rfl, hh⟩)
          subst h
          refine ⟨⟨by omega, by omega⟩, ?_⟩
          unfold Lib.itoa
          rw [if_neg (by omega), show ((n : Int)).toNat = n by omega, h2]
    · rintro ⟨⟨h1, h2⟩, h3⟩
      unfold Lib.itoa at h3
      split at h3
      · exact absurd ⟨_, h3.symm⟩ hm
      · have hd : decR s false = some z.toNat := decR_iff.2 ⟨by omega, h3, by rintro ⟨h, -⟩; cases h⟩
        rw [hd]
        dsimp only
        rw [if_neg (by rintro (⟨-, h⟩ | ⟨h, -⟩); omega; cases h), if_neg (by decide)]
        congr 1; omega
theorem whole_eq (s : List UInt8) : wholeR s = intF s := by
  cases h : intF s with
  | some z => exact wholeR_iff.2 (intF_iff.1 h)
  | none =>
    cases h2 : wholeR s with
    | none => rfl
    | some z => rw [intF_iff.2 (wholeR_iff.1 h2)] at h; cases h
theorem nat_eq (s : List UInt8) : natF s = match signR s with
    | (true, _) => none
    | (false, d) => decR d false := by
  by_cases hm : ∃ r, s = 45 :: r
  · obtain ⟨r, rfl⟩ := hm
    rw [signR_minus]
    dsimp only
    cases h : natF (45 :: r) with
    | none => rfl
    | some n =>
      obtain ⟨-, h2⟩ := natF_iff.1 h
      obtain ⟨c, r2, e, h4, h5⟩ := dec_head n
      rw [e] at h2
      injection h2 with h2 _
      subst h2
      exact absurd h4 (by decide)
  · rw [signR_other (s := s) (fun r e => hm ⟨r, e⟩)]
    dsimp only
    cases h : natF s with
    | some n => exact (decR_iff.2 ⟨(natF_iff.1 h).1, (natF_iff.1 h).2, by rintro ⟨h, -⟩; cases h⟩).symm
    | none =>
      cases h2 : decR s false with
      | none => rfl
      | some n =>
        obtain ⟨h3, h4, -⟩ := decR_iff.1 h2
        rw [natF_iff.2 ⟨h3, h4⟩] at h; cases h

/-! ### Pieces -/
def onHead (p : List UInt8) : List (List UInt8) → List (List UInt8)
  | h :: t => (p ++ h) :: t
  | [] => [p]
/-- A text cut at a byte. -/
def cutL (c : UInt8) : List UInt8 → List (List UInt8)
  | [] => [[]]
  | a :: r => if a = c then [] :: cutL c r else onHead [a] (cutL c r)
theorem cutL_ne (c : UInt8) : ∀ s, cutL c s ≠ []
  | [] => by simp [cutL]
  | a :: r => by
    rw [cutL]
    split
    · simp
    · cases h : cutL c r <;> simp [onHead]
theorem split_cut (c : UInt8) : ∀ s : List UInt8, Lib.split s [c] = cutL c s
  | [] => by
    unfold Lib.split
    rw [Lib.count_one]
    rfl
  | a :: r => by
    have ih := split_cut c r
    unfold Lib.split at ih ⊢
    rw [Lib.count_one] at ih ⊢
    rw [cutL]
    by_cases h : a = c
    · subst h
      rw [if_pos rfl, List.count_cons_self, Lib.splitK]
      have hix : Lib.index (a :: r) [a] = 0 := by rw [Lib.index]; simp [List.isPrefixOf]
      rw [hix, if_neg (by decide), ← ih]
      rfl
    · rw [if_neg h, List.count_cons_of_ne h]
      have hp : ([c] : List UInt8).isPrefixOf (a :: r) = false := by simp [List.isPrefixOf, Ne.symm h]
      have hix : Lib.index (a :: r) [c] = if Lib.index r [c] == -1 then -1 else Lib.index r [c] + 1 := by rw [Lib.index, hp]; simp
      have hge := Lib.index_ge r [c]
      cases hk : List.count c r with
      | zero =>
        rw [hk] at ih
        rw [← ih]
        rfl
      | succ k =>
        rw [hk, Lib.splitK] at ih
        rw [Lib.splitK, hix]
        by_cases hm : Lib.index r [c] = -1
        · rw [if_pos (beq_iff_eq.2 hm)] at ih ⊢
          rw [if_pos (by rfl), ← ih]
          rfl
        · rw [if_neg (fun e => hm (beq_iff_eq.1 e))] at ih ⊢
          rw [if_neg (fun e => by have := beq_iff_eq.1 e; omega), ← ih]
          obtain ⟨j, hj⟩ : ∃ j : Nat, Lib.index r [c] = j := ⟨(Lib.index r [c]).toNat, by omega⟩
          rw [hj, show ((j : Int) + 1).toNat = j + 1 by omega, show ((j : Int)).toNat = j by omega, show j + 1 + [c].length = (j + [c].length) + 1 by simp, List.drop_succ_cons, Nat.add_zero, Nat.add_zero, List.take_succ_cons]
          rfl
/-- The lines of a text. -/
def linesF : List UInt8 → List (List UInt8)
  | [] => []
  | a :: r => if a = 10 then [] :: linesF r else onHead [a] (linesF r)
theorem linesF_ne {s : List UInt8} (h : s ≠ []) : linesF s ≠ [] := by
  cases s with
  | nil => exact absurd rfl h
  | cons a r =>
    rw [linesF]
    split
    · simp
    · cases linesF r <;> simp [onHead]
theorem suffix_cons {a b : UInt8} {r : List UInt8} (h : r ≠ []) : Lib.hasSuffix (a :: r) [b] = Lib.hasSuffix r [b] := by
  unfold Lib.hasSuffix
  apply Bool.eq_iff_iff.2
  rw [List.isSuffixOf_iff_suffix, List.isSuffixOf_iff_suffix, List.suffix_cons_iff]
  constructor
  · rintro (e | h1)
    · injection e with _ e; exact absurd e.symm h
    · exact h1
  · exact .inr
theorem trim_lines : ∀ s : List UInt8, s ≠ [] → cutL 10 (Lib.trimSuffix s [10]) = linesF s
  | [], h => absurd rfl h
  | [a], _ => by
    unfold Lib.trimSuffix Lib.hasSuffix
    by_cases h : a = 10
    · subst h; rfl
    · have : List.isSuffixOf [10] [a] = false := by
        cases hb : List.isSuffixOf [10] [a] with
        | false => rfl
        | true =>
          have := List.isSuffixOf_iff_suffix.1 hb
          rw [List.suffix_cons_iff] at this
          rcases this with e | e
          · injection e with e; exact absurd e.symm h
          · have := e.length_le; simp at this
      rw [this, if_neg (by decide), cutL, linesF, if_neg h, if_neg h]
      rfl
  | a :: b :: r, _ => by
    have ih := trim_lines (b :: r) (by simp)
    have hs := suffix_cons (a := a) (b := 10) (r := b :: r) (by simp)
    have ht : Lib.trimSuffix (a :: b :: r) [10] = a :: Lib.trimSuffix (b :: r) [10] := by
      unfold Lib.trimSuffix
      rw [hs]
      split
      · rfl
      · rfl
    rw [ht, cutL, linesF, ih]
theorem cutL_app {c : UInt8} : ∀ (p : List UInt8) (X : List UInt8), c ∉ p → cutL c (p ++ X) = onHead p (cutL c X)
  | [], X, _ => by
    cases h : cutL c X with
    | nil => exact absurd h (cutL_ne c X)
    | cons a t => rw [List.nil_append, h]; rfl
  | a :: p, X, h => by
    rw [List.cons_append, cutL, if_neg (fun e => h (by rw [e]; simp)), cutL_app p X (fun hp => h (by simp [hp]))]
    cases h : cutL c X with
    | nil => exact absurd h (cutL_ne c X)
    | cons a t => rfl
theorem linesF_app : ∀ (p X : List UInt8), 10 ∉ p → linesF (p ++ 10 :: X) = p :: linesF X
  | [], X, _ => by rw [List.nil_append, linesF, if_pos rfl]
  | a :: p, X, h => by
    rw [List.cons_append, linesF, if_neg (fun e => h (by rw [e]; simp)), linesF_app p X (fun hp => h (by simp [hp]))]
    rfl
/-- The first line, and what stands behind it. -/
theorem linesF_next : ∀ {s : List UInt8}, s ≠ [] → linesF s = s.takeWhile (fun b => decide (b ≠ 10)) :: linesF (s.drop ((s.takeWhile (fun b => decide (b ≠ 10))).length + 1))
  | [], h => absurd rfl h
  | [a], _ => by
    rw [linesF, List.takeWhile_cons]
    by_cases h : a = 10
    · rw [if_pos h, if_neg (by simp [h])]; rfl
    · rw [if_neg h, if_pos (by simp [h])]; rfl
  | a :: b :: r, _ => by
    have ih := linesF_next (s := b :: r) (by simp)
    rw [linesF, List.takeWhile_cons]
    by_cases h : a = 10
    · rw [if_pos h, if_neg (by simp [h])]; rfl
    · rw [if_neg h, if_pos (by simp [h]), ih]; rfl

/-! ### What lines are parsed to -/
def intsF : List (List UInt8) → Option (List Int)
  | [] => some []
  | s :: l => match intF s with
    | none => none
    | some z => (intsF l).map (z :: ·)
def findO (w : List UInt8) : Option Nat := opsL.findIdx? fun r => decide (r.1 = w)
def instrF (l : List (List UInt8)) : Option IN :=
  match findO (l.headD []) with
  | none => none
  | some o => if l.length = 1 + (opF o).2.1 then
      if o = 0 then (natF (l.getD 1 [])).map fun n => ⟨0, 0, 0, n⟩
      else (intsF l.tail).map fun k => ⟨o, k.getD 0 0, k.getD 1 0, 0⟩
    else none
abbrev PR := List FN × List IN
def putL (p : PR) (l : List (List UInt8)) : Option PR :=
  if l.headD [] = funcS then
    match intsF l.tail, p.2 with
    | some [a, b, c], [] => some (p.1 ++ [⟨a, b, c⟩], [])
    | _, _ => none
  else (instrF l).map fun x => (p.1, p.2 ++ [x])
inductive PO where
  | ok (p : PR)
  | err (n e : Nat)
def parseL : List (List UInt8) → Nat → PR → PO
  | [], _, p => .ok p
  | l :: ls, n, p => match putL p (cutL 32 l) with
    | none => .err n 4
    | some q => parseL ls (n + 1) q
/-- The program of lines. -/
def parseV (s : List UInt8) : PO := if (linesF s).length ≤ 8192 then parseL (linesF s) 1 ([], []) else .err 0 7

/-! ### Lines of instructions -/
theorem intsF_len : ∀ {l : List (List UInt8)} {k : List Int}, intsF l = some k → k.length = l.length
  | [], k, h => by injection h with h; subst h; rfl
  | s :: l, k, h => by
    rw [intsF] at h
    split at h
    · cases h
    · obtain ⟨k2, h2, rfl⟩ := Option.map_eq_some_iff.1 h
      rw [List.length_cons, List.length_cons, intsF_len h2]
theorem dec_no (c : UInt8) (hc : c.toNat < 48) (n : Nat) : c ∉ Lib.decDigits n := by
  induction n using Nat.strongRecOn with
  | ind n ih =>
    rw [Lib.decDigits]
    split
    · rename_i h
      intro hm
      rw [List.mem_singleton.1 hm, decU8 n h] at hc
      omega
    · rename_i h
      intro hm
      rcases List.mem_append.1 hm with hm | hm
      · exact ih (n / 10) (by omega) hm
      · rw [List.mem_singleton.1 hm, decU8 _ (by omega)] at hc
        omega
theorem itoa_no (c : UInt8) (hc : c.toNat < 45) (z : Int) : c ∉ Lib.itoa z := by
  unfold Lib.itoa
  split
  · intro hm
    rcases List.mem_cons.1 hm with e | hm
    · rw [e] at hc; exact absurd hc (by decide)
    · exact dec_no c (by omega) _ hm
  · exact dec_no c (by omega) _
theorem args_no (l : List Int) : 10 ∉ l.flatMap arg := by
  intro h
  obtain ⟨z, -, hz⟩ := List.mem_flatMap.1 h
  rcases List.mem_cons.1 hz with e | hz
  · exact absurd e (by decide)
  · exact itoa_no 10 (by decide) z hz
theorem args_cut : ∀ (l : List Int) , cutL 32 (l.flatMap arg) = [] :: l.map Lib.itoa ∨ False
  | [] => .inl rfl
  | z :: l => .inl (by
    have ih := (args_cut l).resolve_right id
    rw [List.flatMap_cons, arg, List.cons_append, cutL, if_pos rfl, cutL_app _ _ (itoa_no 32 (by decide) z), ih, List.map_cons]
    simp [onHead])
theorem ops_facts : ∀ o : Fin 36, 10 ∉ (opsL.getD o.val noneR).1 ∧ 32 ∉ (opsL.getD o.val noneR).1 ∧ (opsL.getD o.val noneR).1 ≠ [] ∧ (opsL.getD o.val noneR).1 ≠ funcS ∧ findO (opsL.getD o.val noneR).1 = some o.val ∧ (opsL.getD o.val noneR).2.1 ≤ 2 ∧ ((opsL.getD o.val noneR).1).length ≤ 6 ∧ ((opsL.getD 0 noneR).2.1 = 1) := by decide
theorem opF_named {o : Int} (h : (opF o).1 ≠ []) : ∃ k : Fin 36, o = k.val ∧ opF o = opsL.getD k.val noneR := by
  unfold opF at h ⊢
  split at h
  · rename_i hb
    refine ⟨⟨o.toNat, by omega⟩, by show o = (o.toNat : Int); omega, ?_⟩
    rw [if_pos hb]
  · exact absurd rfl h
theorem opF_at (k : Fin 36) : opF (k.val : Int) = opsL.getD k.val noneR := by
  unfold opF
  rw [if_pos ⟨by omega, by have := k.isLt; omega⟩]
  rfl
theorem intsF_itoa : ∀ (l : List Int), (∀ z ∈ l, -9223372036854775808 ≤ z ∧ z ≤ 9223372036854775807) → intsF (l.map Lib.itoa) = some l
  | [], _ => rfl
  | z :: l, h => by
    rw [List.map_cons, intsF, intF_iff.2 ⟨h z (by simp), rfl⟩]
    dsimp only
    rw [intsF_itoa l (fun z hz => h z (by simp [hz]))]
    rfl
def InOk (x : IN) : Prop := (-9223372036854775808 ≤ x.a ∧ x.a ≤ 9223372036854775807) ∧ (-9223372036854775808 ≤ x.b ∧ x.b ≤ 9223372036854775807) ∧ x.n < 18446744073709551616
theorem lineF_named {x : IN} (h : (opF x.o).1 ≠ []) : lineF x = if x.o = 0 then (opF x.o).1 ++ 32 :: Lib.decDigits x.n else (opF x.o).1 ++ ([x.a, x.b].take (opF x.o).2.1).flatMap arg := by
  unfold lineF
  cases hw : (opF x.o).1 with
  | nil => exact absurd hw h
  | cons a t => rfl
theorem line_no (x : IN) : 10 ∉ lineF x := by
  by_cases h : (opF x.o).1 = []
  · unfold lineF; rw [h]; show 10 ∉ ([63] : List UInt8); decide
  · obtain ⟨k, -, hk⟩ := opF_named h
    rw [lineF_named h, hk]
    have h1 := (ops_facts k).1
    split
    · intro hm
      rcases List.mem_append.1 hm with hm | hm
      · exact h1 hm
      · rcases List.mem_cons.1 hm with e | hm
        · exact absurd e (by decide)
        · exact dec_no 10 (by decide) _ hm
    · intro hm
      rcases List.mem_append.1 hm with hm | hm
      · exact h1 hm
      · exact args_no _ hm
/-- An instruction's line is one. -/
theorem line_back {x : IN} (hx : InOk x) (h : (opF x.o).1 ≠ []) (p : PR) : ∃ y, putL p (cutL 32 (lineF x)) = some (p.1, p.2 ++ [y]) := by
  obtain ⟨k, h1, hk⟩ := opF_named h
  obtain ⟨f1, f2, f3, f4, f5, f6, f7, f8⟩ := ops_facts k
  obtain ⟨⟨b1, b2⟩, ⟨b3, b4⟩, b5⟩ := hx
  have hk2 := opF_at k
  rw [lineF_named h, hk]
  by_cases h0 : x.o = 0
  · have hk0 : k.val = 0 := by omega
    rw [if_pos h0, cutL_app _ _ f2, cutL, if_pos rfl, show Lib.decDigits x.n = Lib.decDigits x.n ++ [] by rw [List.append_nil], cutL_app _ _ (dec_no 32 (by decide) _)]
    have e : onHead (opsL.getD k.val noneR).1 ([] :: onHead (Lib.decDigits x.n) (cutL 32 [])) = [(opsL.getD k.val noneR).1, Lib.decDigits x.n] := by simp [onHead, cutL]
    rw [e]
    unfold putL
    rw [if_neg (by simpa using f4)]
    unfold instrF
    rw [show ([(opsL.getD k.val noneR).1, Lib.decDigits x.n] : List (List UInt8)).headD [] = (opsL.getD k.val noneR).1 from rfl, f5]
    dsimp only
    rw [hk2, hk0, if_pos (by rw [f8]; rfl), if_pos rfl]
    rw [show natF (([(opsL.getD 0 noneR).1, Lib.decDigits x.n] : List (List UInt8)).getD 1 []) = some x.n from natF_iff.2 ⟨b5, rfl⟩]
    exact ⟨_, rfl⟩
  · have hk0 : k.val ≠ 0 := by omega
    rw [if_neg h0, cutL_app _ _ f2, (args_cut _).resolve_right id]
    rw [show onHead (opsL.getD k.val noneR).1 ([] :: (List.take (opsL.getD k.val noneR).2.1 [x.a, x.b]).map Lib.itoa) = (opsL.getD k.val noneR).1 :: (List.take (opsL.getD k.val noneR).2.1 [x.a, x.b]).map Lib.itoa by simp [onHead]]
    unfold putL
    rw [if_neg (by simpa using f4)]
    unfold instrF
    rw [List.headD_cons, f5]
    dsimp only
    rw [hk2, if_pos (by rw [List.length_cons, List.length_map, List.length_take]; show min _ 2 + 1 = 1 + _; omega), if_neg hk0, List.tail_cons, intsF_itoa _ (fun z hz => by
      have := List.mem_of_mem_take hz
      simp at this
      rcases this with rfl | rfl
      · exact ⟨b1, b2⟩
      · exact ⟨b3, b4⟩)]
    exact ⟨_, rfl⟩
theorem lines_text : ∀ (l : List IN), linesF (l.flatMap fun x => lineF x ++ [10]) = l.map lineF
  | [] => rfl
  | x :: l => by
    rw [List.flatMap_cons, List.append_assoc, List.singleton_append, linesF_app _ _ (line_no x), lines_text l, List.map_cons]
theorem parseL_text : ∀ (l : List IN) (n : Nat) (p : PR), (∀ x ∈ l, InOk x ∧ (opF x.o).1 ≠ []) → ∃ q, parseL (l.map lineF) n p = .ok q ∧ q.1 = p.1 ∧ q.2.length = p.2.length + l.length
  | [], n, p, _ => ⟨p, rfl, rfl, by simp⟩
  | x :: l, n, p, h => by
    obtain ⟨y, hy⟩ := line_back (h x (by simp)).1 (h x (by simp)).2 p
    obtain ⟨q, h1, h2, h3⟩ := parseL_text l (n + 1) (p.1, p.2 ++ [y]) (fun x hx => h x (by simp [hx]))
    refine ⟨q, ?_, h2, ?_⟩
    · rw [List.map_cons, parseL, hy]; exact h1
    · rw [h3, List.length_append, List.length_cons, List.length_cons, List.length_nil]; omega
theorem parse_text (l : List IN) (hl : l.length ≤ 8192) (h : ∀ x ∈ l, InOk x ∧ (opF x.o).1 ≠ []) : ∃ q, parseV (textF [] l) = .ok q ∧ q.1 = [] ∧ q.2.length = l.length := by
  have e : textF [] l = l.flatMap fun x => lineF x ++ [10] := rfl
  unfold parseV
  rw [e, lines_text, List.length_map, if_pos hl]
  obtain ⟨q, h1, h2, h3⟩ := parseL_text l 1 ([], []) h
  exact ⟨q, h1, h2, by rw [h3]; simp⟩
end Go.Proofs.YtgfmbkbiingagaaGreatDoor

namespace Go.Proofs.YtgfmbkbiingagaaGreatDoor
set_option linter.unusedVariables false
set_option linter.unusedSimpArgs false

/-- What is known at an instruction. -/
structure SS where
  k : Int
  o : List UInt8
  m : Bool
  w : Bool
def SS.same (a b : SS) : Bool := decide (a.k = b.k) && decide (a.o = b.o) && decide (a.m = b.m) && decide (a.w = b.w)
theorem SS.same_iff {a b : SS} : SS.same a b = true ↔ a = b := by
  obtain ⟨a1, a2, a3, a4⟩ := a
  obtain ⟨b1, b2, b3, b4⟩ := b
  simp [SS.same, and_assoc]
theorem SS.same_self (a : SS) : SS.same a a = true := SS.same_iff.2 rfl
def errV (n : Int) : Bool := decide (1 ≤ n ∧ n ≤ 99 ∧ n ≠ 12 ∧ n ≠ 23)
def slotV (f : FN) (n : Int) : Bool := decide (0 ≤ n ∧ n < f.s)
def placeV (fr tt n : Int) : Bool := decide (fr ≤ n ∧ n < tt)
def sizeV (n : Int) : Bool := decide (n = 1 ∨ n = 2 ∨ n = 3 ∨ n = 4 ∨ n = 8)
/-- Are an instruction's numbers such as may be? -/
def numbersV (f : FN) (fn : Nat) (fr tt : Int) (x : IN) : Bool :=
  if x.o = 1 ∨ x.o = 2 ∨ x.o = 23 ∨ x.o = 24 ∨ x.o = 26 then slotV f x.a
  else if x.o = 32 ∨ x.o = 33 ∨ x.o = 34 then slotV f x.a && slotV f x.b
  else if x.o = 4 then decide (0 ≤ x.a ∧ x.a < 17)
  else if x.o = 6 ∨ x.o = 7 then sizeV x.a && decide (x.b = 0 ∨ x.b = 1)
  else if x.o = 8 then decide (0 ≤ x.a ∧ x.a ≤ 63 ∧ 1 ≤ x.b ∧ x.b ≤ 64)
  else if x.o = 20 ∨ x.o = 21 ∨ x.o = 22 then placeV fr tt x.a
  else if x.o = 25 then slotV f x.a && placeV fr tt x.b
  else if x.o = 28 then decide (0 ≤ x.a ∧ x.a < fn)
  else if x.o = 14 then decide (x.a = 0 ∨ x.a = 1)
  else if x.o = 30 then slotV f x.a && errV x.b
  else if x.o = 31 then errV x.a
  else decide (0 ≤ x.o ∧ x.o < 36)
def zF : FN := ⟨0, 0, 0⟩
def zI : IN := ⟨0, 0, 0, 0⟩
/-- How many numbers an instruction takes. -/
def takesV (fs : List FN) (x : IN) : Int := if x.o = 28 then (fs.getD x.a.toNat zF).p else ((opF x.o).2.2.1 : Int)
def makesV (o : Int) : Bool := decide (o = 6 ∨ o = 8 ∨ o = 9 ∨ o = 10 ∨ o = 11 ∨ o = 12 ∨ o = 13 ∨ o = 14 ∨ o = 28)
/-- What an instruction opens, and what it closes: letters. -/
def opensV (o : Int) : List UInt8 × List UInt8 :=
  if o = 14 then ([111], []) else if o = 16 then ([119], []) else if o = 18 then ([97], [])
  else if o = 15 then ([], [111]) else if o = 17 then ([], [119]) else if o = 19 then ([], [97]) else ([], [])
def insideV (s : SS) : Bool := s.o.contains 111
/-- Is the last of what is open this letter? -/
def lastIs (o l : List UInt8) : Bool := decide (o ≠ [] ∧ o.drop (o.length - 1) = l)
def fitsV (fs : List FN) (fn : Nat) (fr tt : Int) (x : IN) (s : SS) : Bool :=
  if numbersV (fs.getD fn zF) fn fr tt x = false ∨ s.k < takesV fs x then false
  else if (opensV x.o).2 ≠ [] ∧ lastIs s.o (opensV x.o).2 = false then false
  else if makesV x.o = true ∧ s.m = true ∧ insideV s = false then false
  else if x.o = 8 ∧ s.w = false then false
  else if x.o = 29 ∨ x.o = 35 then decide ((x.o = 35 ↔ fn + 1 = fs.length) ∧ s.k = 0 ∧ s.o = [] ∧ s.m = true)
  else true
def nextV (fs : List FN) (x : IN) (s : SS) : SS :=
  ⟨s.k + ((opF x.o).2.2.2 - takesV fs x), s.o.take (s.o.length - (opensV x.o).2.length) ++ (opensV x.o).1, s.m || makesV x.o && !insideV s, s.w || decide (x.o = 7)⟩
def goesV (x : IN) (i : Int) : List Int :=
  if x.o = 20 then [x.a] else if x.o = 21 ∨ x.o = 22 then [x.a, i + 1] else if x.o = 25 then [x.b, i + 1]
  else if x.o = 29 ∨ x.o = 35 ∨ x.o = 31 then [] else [i + 1]

/-! ### A function that is looked through -/
structure SG where
  kn : List (Int × SS)
  lf : List Int
  d : Int
  w : Int
def SG.at (g : SG) (i : Int) : Option SS := (g.kn.find? fun p => decide (p.1 = i)).map (·.2)
def faultV (w i : Int) : Int := if w < 0 ∨ i < w then i else w
def SG.fault (g : SG) (i : Int) : SG := { g with w := faultV g.w i }
def SG.come (g : SG) (i : Int) (s : SS) : SG := match g.at i with
  | some t => if SS.same t s then g else g.fault i
  | none => { g with kn := g.kn ++ [(i, s)], lf := g.lf ++ [i] }
def SG.go (fr tt : Int) (i : Int) (s : SS) (g : SG) (j : Int) : SG := if placeV fr tt j = false ∨ 512 < s.k then g.fault i else g.come j s
def SG.step (fs : List FN) (cs : List IN) (fn : Nat) (fr tt : Int) (g : SG) (i : Int) : SG :=
  let x := cs.getD i.toNat zI
  let s := (g.at i).getD ⟨0, [], false, false⟩
  let g := { g with d := max g.d s.k }
  if fitsV fs fn fr tt x s = false then g.fault i else (goesV x i).foldl (SG.go fr tt i (nextV fs x s)) g
def minL : List Int → Int
  | [] => 0
  | x :: l => l.foldl min x
def SG.pull (fs : List FN) (cs : List IN) (fn : Nat) (fr tt : Int) (g : SG) : SG :=
  SG.step fs cs fn fr tt { g with lf := g.lf.filter fun k => !decide (k = minL g.lf) } (minL g.lf)
def SG.run (fs : List FN) (cs : List IN) (fn : Nat) (fr tt : Int) : Nat → SG → SG
  | 0, g => g
  | n + 1, g => if g.lf = [] then g else SG.run fs cs fn fr tt n (SG.pull fs cs fn fr tt g)
def SG.start (fr : Int) : SG := ⟨[(fr, ⟨0, [], false, false⟩)], [fr], 0, -1⟩
def toV (fs : List FN) (cs : List IN) (fn : Nat) : Int := if fn + 1 < fs.length then (fs.getD (fn + 1) zF).e else cs.length
/-- The least place at which a function goes wrong, below 0: none; its deepest stack. -/
def functionV (fs : List FN) (cs : List IN) (fn : Nat) : Int × Int :=
  let g := SG.run fs cs fn (fs.getD fn zF).e (toV fs cs fn) (2 * cs.length + 2) (SG.start (fs.getD fn zF).e)
  (g.w, g.d)

/-! ### It ends -/
def SG.Ok (n : Nat) (g : SG) : Prop := (∀ p ∈ g.kn, 0 ≤ p.1 ∧ p.1 < n) ∧ (g.kn.map (·.1)).Nodup ∧ ∀ i ∈ g.lf, (g.at i).isSome = true
def SG.rest (n : Nat) (g : SG) : Nat := 2 * (n - g.kn.length) + g.lf.length
theorem nodup_len {n : Nat} {l : List Int} (h1 : ∀ i ∈ l, 0 ≤ i ∧ i < n) (h2 : l.Nodup) : l.length ≤ n := by
  have h3 : (l.map Int.toNat).Nodup := by
    rw [List.Nodup, List.pairwise_map]
    exact h2.imp_of_mem fun {a b} ha hb hne e => hne (by have := h1 a ha; have := h1 b hb; omega)
  have h4 : (l.map Int.toNat) ⊆ List.range n := fun i hi => by
    obtain ⟨j, hj, rfl⟩ := List.mem_map.1 hi
    have := h1 j hj
    exact List.mem_range.2 (by omega)
  have := h3.length_le_of_subset h4
  simpa using this
theorem SG.at_mem {g : SG} {i : Int} {s : SS} (h : g.at i = some s) : (i, s) ∈ g.kn := by
  unfold SG.at at h
  obtain ⟨p, hp, rfl⟩ := Option.map_eq_some_iff.1 h
  have h1 := List.find?_some hp
  have h2 := List.mem_of_find?_eq_some hp
  have e : p.1 = i := of_decide_eq_true h1
  rw [← e]
  exact h2
theorem SG.at_none {g : SG} {i : Int} (h : g.at i = none) : ∀ p ∈ g.kn, p.1 ≠ i := fun p hp e => by
  unfold SG.at at h
  rw [Option.map_eq_none_iff, List.find?_eq_none] at h
  exact h p hp (decide_eq_true e)
theorem at_snoc {kn : List (Int × SS)} {i j : Int} {s : SS} : ((kn ++ [(i, s)]).find? fun p => decide (p.1 = j)).map (·.2) = match (kn.find? fun p => decide (p.1 = j)).map (·.2) with
    | some t => some t
    | none => if i = j then some s else none := by
  rw [List.find?_append]
  cases h : kn.find? (fun p => decide (p.1 = j)) with
  | some p => rfl
  | none =>
    by_cases e : i = j
    · simp [e]
    · simp [e]
theorem SG.come_at {g : SG} {i : Int} {s : SS} (j : Int) (h : g.at i = none) : (g.come i s).at j = if i = j then some s else g.at j := by
  have e : g.come i s = { g with kn := g.kn ++ [(i, s)], lf := g.lf ++ [i] } := by unfold SG.come; rw [h]
  rw [e]
  show ((g.kn ++ [(i, s)]).find? fun p => decide (p.1 = j)).map (·.2) = _
  rw [at_snoc]
  by_cases hij : i = j
  · subst hij
    have : (g.kn.find? fun p => decide (p.1 = i)).map (·.2) = none := h
    rw [this, if_pos rfl, if_pos rfl]
  · rw [if_neg hij, if_neg hij]
    show _ = (g.kn.find? fun p => decide (p.1 = j)).map (·.2)
    cases (g.kn.find? fun p => decide (p.1 = j)).map (·.2) <;> rfl
theorem SG.fault_ok {n : Nat} {g : SG} (h : g.Ok n) (i : Int) : (g.fault i).Ok n ∧ (g.fault i).rest n = g.rest n := ⟨h, rfl⟩
theorem SG.come_ok {n : Nat} {g : SG} (h : g.Ok n) {i : Int} (hi : 0 ≤ i ∧ i < n) (s : SS) : (g.come i s).Ok n ∧ (g.come i s).rest n ≤ g.rest n := by
  unfold SG.come
  cases ha : g.at i with
  | some t =>
    dsimp only
    split
    · exact ⟨h, Nat.le_refl _⟩
    · exact ⟨h, Nat.le_refl _⟩
  | none =>
    dsimp only
    obtain ⟨h1, h2, h3⟩ := h
    have hnew := SG.at_none ha
    have hb : ∀ p ∈ g.kn ++ [(i, s)], 0 ≤ p.1 ∧ p.1 < n := fun p hp => by
      rcases List.mem_append.1 hp with hp | hp
      · exact h1 p hp
      · obtain rfl : p = (i, s) := by simpa using hp
        exact hi
    have hnd : ((g.kn ++ [(i, s)]).map (·.1)).Nodup := by
      rw [List.map_append, List.nodup_append]
      refine ⟨h2, by simp, fun a ha b hb => ?_⟩
      obtain ⟨p, hp, rfl⟩ := List.mem_map.1 ha
      obtain rfl : b = i := by simpa using hb
      exact hnew p hp
    have hlen := nodup_len (l := (g.kn ++ [(i, s)]).map (·.1)) (fun j hj => by
      obtain ⟨p, hp, rfl⟩ := List.mem_map.1 hj
      exact hb p hp) hnd
    simp only [List.length_map, List.length_append, List.length_cons, List.length_nil] at hlen
    refine ⟨⟨hb, hnd, fun j hj => ?_⟩, ?_⟩
    · have hc := SG.come_at (g := g) (s := s) j ha
      unfold SG.come at hc
      rw [ha] at hc
      dsimp only at hc
      rw [hc]
      split
      · rfl
      · rename_i hne
        rcases List.mem_append.1 hj with hj | hj
        · exact h3 j hj
        · exact absurd (by simpa using hj : j = i).symm hne
    · unfold SG.rest
      simp only [List.length_append, List.length_cons, List.length_nil]
      omega
theorem SG.go_ok {n : Nat} {g : SG} (h : g.Ok n) {fr tt : Int} (hf : 0 ≤ fr) (ht : tt ≤ n) (i : Int) (s : SS) (j : Int) : (SG.go fr tt i s g j).Ok n ∧ (SG.go fr tt i s g j).rest n ≤ g.rest n := by
  unfold SG.go
  split
  · exact ⟨h, Nat.le_refl _⟩
  · rename_i hp
    have : placeV fr tt j = true := by
      cases hv : placeV fr tt j with
      | true => rfl
      | false => exact absurd (.inl hv) hp
    have := of_decide_eq_true this
    exact SG.come_ok h ⟨by omega, by omega⟩ s
theorem SG.gos_ok {n : Nat} {fr tt : Int} (hf : 0 ≤ fr) (ht : tt ≤ n) (i : Int) (s : SS) : ∀ (l : List Int) {g : SG}, g.Ok n → (l.foldl (SG.go fr tt i s) g).Ok n ∧ (l.foldl (SG.go fr tt i s) g).rest n ≤ g.rest n
  | [], g, h => ⟨h, Nat.le_refl _⟩
  | j :: l, g, h => by
    obtain ⟨h1, h2⟩ := SG.go_ok h hf ht i s j
    obtain ⟨h3, h4⟩ := SG.gos_ok hf ht i s l h1
    exact ⟨h3, Nat.le_trans h4 h2⟩
theorem SG.step_ok {n : Nat} {g : SG} (h : g.Ok n) {fr tt : Int} (hf : 0 ≤ fr) (ht : tt ≤ n) (fs : List FN) (cs : List IN) (fn : Nat) (i : Int) : (SG.step fs cs fn fr tt g i).Ok n ∧ (SG.step fs cs fn fr tt g i).rest n ≤ g.rest n := by
  unfold SG.step
  dsimp only
  split
  · exact ⟨h, Nat.le_refl _⟩
  · exact SG.gos_ok hf ht i _ _ (g := { g with d := _ }) h
theorem fold_min_mem : ∀ (l : List Int) (x : Int), l.foldl min x = x ∨ l.foldl min x ∈ l
  | [], x => .inl rfl
  | y :: l, x => by
    rw [List.foldl_cons]
    rcases fold_min_mem l (min x y) with h | h
    · by_cases hxy : x ≤ y
      · left; rw [h]; exact Int.min_eq_left hxy
      · right; rw [h, Int.min_eq_right (by omega)]; simp
    · right; exact List.mem_cons_of_mem _ h
theorem fold_min_le : ∀ (l : List Int) (x : Int), l.foldl min x ≤ x ∧ ∀ y ∈ l, l.foldl min x ≤ y
  | [], x => ⟨Int.le_refl _, fun y hy => by cases hy⟩
  | z :: l, x => by
    rw [List.foldl_cons]
    obtain ⟨h1, h2⟩ := fold_min_le l (min x z)
    refine ⟨by omega, fun y hy => ?_⟩
    rcases List.mem_cons.1 hy with rfl | hy
    · omega
    · exact h2 y hy
theorem minL_mem {l : List Int} (h : l ≠ []) : minL l ∈ l := by
  cases l with
  | nil => exact absurd rfl h
  | cons x l =>
    rcases fold_min_mem l x with h | h
    · show l.foldl min x ∈ _
      rw [h]; simp
    · exact List.mem_cons_of_mem _ h
theorem minL_le {l : List Int} {y : Int} (h : y ∈ l) : minL l ≤ y := by
  cases l with
  | nil => cases h
  | cons x l =>
    obtain ⟨h1, h2⟩ := fold_min_le l x
    rcases List.mem_cons.1 h with rfl | h
    · exact h1
    · exact h2 y h
theorem filter_lt {l : List Int} {m : Int} (h : m ∈ l) : (l.filter fun k => !decide (k = m)).length < l.length := by
  induction l with
  | nil => cases h
  | cons x l ih =>
    rw [List.filter_cons]
    split
    · rename_i hx
      rcases List.mem_cons.1 h with rfl | h
      · simp at hx
      · have := ih h
        simp only [List.length_cons]; omega
    · have := List.length_filter_le (fun k => !decide (k = m)) l
      simp only [List.length_cons]; omega
theorem SG.less_ok {n : Nat} {g : SG} (h : g.Ok n) (hl : g.lf ≠ []) : SG.Ok n { g with lf := g.lf.filter fun k => !decide (k = minL g.lf) } ∧ SG.rest n { g with lf := g.lf.filter fun k => !decide (k = minL g.lf) } < g.rest n := by
  refine ⟨⟨h.1, h.2.1, fun i hi => h.2.2 i (List.mem_filter.1 hi).1⟩, ?_⟩
  have := filter_lt (minL_mem hl)
  unfold SG.rest
  dsimp only
  omega
theorem SG.pull_ok {n : Nat} {g : SG} (h : g.Ok n) (hl : g.lf ≠ []) {fr tt : Int} (hf : 0 ≤ fr) (ht : tt ≤ n) (fs : List FN) (cs : List IN) (fn : Nat) : (SG.pull fs cs fn fr tt g).Ok n ∧ (SG.pull fs cs fn fr tt g).rest n < g.rest n := by
  obtain ⟨h1, h2⟩ := SG.less_ok h hl
  obtain ⟨h3, h4⟩ := SG.step_ok h1 hf ht fs cs fn (minL g.lf)
  exact ⟨h3, Nat.lt_of_le_of_lt h4 h2⟩
/-- So many rounds or more end in the same way. -/
theorem SG.run_end {cs : List IN} {fr tt : Int} (hf : 0 ≤ fr) (ht : tt ≤ cs.length) (fs : List FN) (fn : Nat) : ∀ (a b : Nat) {g : SG}, g.Ok cs.length → g.rest cs.length < a → g.rest cs.length < b → SG.run fs cs fn fr tt a g = SG.run fs cs fn fr tt b g
  | a + 1, b + 1, g, h, ha, hb => by
    rw [SG.run, SG.run]
    split
    · rfl
    · rename_i hl
      obtain ⟨h1, h2⟩ := SG.pull_ok h hl hf ht fs cs fn
      exact SG.run_end hf ht fs fn a b h1 (by omega) (by omega)
theorem SG.start_ok {n : Nat} {fr : Int} (h : 0 ≤ fr ∧ fr < n) : (SG.start fr).Ok n ∧ (SG.start fr).rest n < 2 * n + 2 := by
  refine ⟨⟨fun p hp => ?_, by simp [SG.start], fun i hi => ?_⟩, ?_⟩
  · obtain rfl : p = (fr, ⟨0, [], false, false⟩) := by simpa [SG.start] using hp
    exact h
  · obtain rfl : i = fr := by simpa [SG.start] using hi
    simp [SG.start, SG.at]
  · unfold SG.rest SG.start
    simp only [List.length_cons, List.length_nil]
    omega

/-! ### A program -/
def framesV : List FN → Nat → Int → Int → Bool → Bool
  | [], _, _, _, _ => true
  | f :: fs, n, sl, la, first => if (first = true ∧ f.e ≠ 0) ∨ f.e ≤ la ∨ (n : Int) ≤ f.e ∨ f.p < 0 ∨ f.s < f.p ∨ 4096 - sl < f.s then false else framesV fs n (sl + f.s) f.e false
def badV (fs : List FN) (cs : List IN) : Nat → Nat → Option Int
  | 0, _ => none
  | n + 1, i => if 0 ≤ (functionV fs cs i).1 then some (functionV fs cs i).1 else badV fs cs n (i + 1)
def okFrames (fs : List FN) (cs : List IN) : Bool := framesV fs cs.length 0 (-1) true && decide (fs ≠ [])
/-- Is a program well made; the first instruction at which it isn't (of at most 8192 instructions and 64 functions). -/
def checkV (fs : List FN) (cs : List IN) : Int × Nat :=
  if okFrames fs cs = false then (0, 2) else match badV fs cs fs.length 0 with
    | some i => (i, 4)
    | none => (0, 0)
def deepestV (fs : List FN) (cs : List IN) (fn : Int) : Int :=
  if (checkV fs cs).2 ≠ 0 ∨ fn < 0 ∨ (fs.length : Int) ≤ fn then 0 else (functionV fs cs fn.toNat).2
/-- What frames that are such as may be say of each function. -/
theorem framesV_spec : ∀ {fs : List FN} {n : Nat} {sl la : Int} {b : Bool}, framesV fs n sl la b = true → -1 ≤ la → 0 ≤ sl → sl ≤ 4096 → ∀ (i : Nat) (f : FN), fs[i]? = some f → la < f.e ∧ f.e < n ∧ 0 ≤ f.p ∧ f.p ≤ f.s ∧ f.s ≤ 4096 ∧ (∀ (j : Nat) (h : FN), i < j → fs[j]? = some h → f.e < h.e)
  | f :: fs, n, sl, la, b, h, h1, h2, h3, i, x, hx => by
    rw [framesV] at h
    split at h
    · cases h
    · rename_i hno
      have ih := fun i y hy => framesV_spec h (by omega) (by omega) (by omega) i y hy
      cases i with
      | zero =>
        simp only [List.getElem?_cons_zero, Option.some.injEq] at hx
        subst hx
        refine ⟨by omega, by omega, by omega, by omega, by omega, fun j y hj hy => ?_⟩
        obtain ⟨j, rfl⟩ : ∃ j', j = j' + 1 := ⟨j - 1, by omega⟩
        exact (ih j y (by simpa using hy)).1
      | succ i =>
        obtain ⟨g1, g2, g3, g4, g5, g6⟩ := ih i x (by simpa using hx)
        refine ⟨by omega, g2, g3, g4, g5, fun j y hj hy => ?_⟩
        obtain ⟨j, rfl⟩ : ∃ j', j = j' + 1 := ⟨j - 1, by omega⟩
        exact g6 j y (by omega) (by simpa using hy)
end Go.Proofs.YtgfmbkbiingagaaGreatDoor

namespace Go.Proofs.YtgfmbkbiingagaaGreatDoor
set_option linter.unusedVariables false
set_option linter.unusedSimpArgs false
open Go.RowKit
set_option maxRecDepth 100000

abbrev dis (l : List Int) : List (List D) := l.map fun z => [di z]
def ΓK : Glob := { Γ0 with kr := [19, 29] }
theorem CallsA.ofK {f : FuncId} {xs : List T1} {r : TV} {Γ : Glob} (h : CallsA Tryz.prog ΓK f xs r) : CallsA Tryz.prog Γ f xs r := ⟨h.1, fun S w vs hS _ hv => h.2 S w vs hS trivial hv⟩
theorem CallsM.ofK {f : FuncId} {m : List (Nat × Blk)} {nx : Nat} {xs : List T1} {r : TV} {upd : List (Nat × Blk)} {new : List Blk} {Γ : Glob} (h : CallsM Tryz.prog ΓK f m nx xs r upd new) : CallsM Tryz.prog Γ f m nx xs r upd new := ⟨h.1, fun ι S w vs hs _ hb hd hv => h.2 ι S w vs hs trivial hb hd hv⟩
theorem clo_c (k a : Int) : CallsM Tryz.prog ΓK 20 [(0, .obj [.d (di a)])] 1 [c1 (di k), .c (.ptr 0 0)] (Tb (decide (k = a))) [(0, .obj [.d (di a)])] [] := by
  refine fn_ruleM (C := ⟨Tryz.prog, layF, Tryz.f20.ntmps, ΓK, 1, [], []⟩) layF_ok mixed Tryz.func20 rfl (by kernel_rfl) rfl rfl rfl ?_
  refine ex_eq ?_
  exact ⟨rfl, TLe.rfl, rfl, rfl⟩
abbrev cloT : T1 := .f 20 0 [.ptr 1 0]
theorem indexFunc_c (p r : List Int) (a : Int) (hp : a ∉ p) (hl : (p ++ a :: r).length ≤ 1000000) :
    CallsM Tryz.prog ΓK 29 [(0, .row 1 3 (dis (p ++ a :: r))), (1, .obj [.d (di a)])] 2 [.c (.row 0), cloT] (Ti p.length) [(0, .row 1 3 (dis (p ++ a :: r))), (1, .obj [.d (di a)])] [] := by
  refine fn_ruleM (C := ⟨Tryz.prog, layF, Tryz.f29.ntmps, ΓK, 2, [], []⟩) layF_ok mixed Tryz.func29 rfl (by kernel_rfl) rfl rfl rfl ?_
  repeat' (first | refine ex_true (by first | decide | omega | assumption | (with_reducible exact rfl)) ?_ | refine ex_false (by first | decide | omega | assumption | exact (fun h => h rfl)) ?_ | refine ex_dec (fun _ => ?_) (fun _ => ?_) | refine ex_u8 _ rfl (by omega) (by omega) ?_ | refine ex_i64 _ rfl (by omega) (by omega) ?_ | refine ex_u64 _ rfl (by omega) (by omega) ?_ | refine and_mk (by first | omega | (with_reducible rfl) | (show drawOk _ _ _ = true; kernel_rfl)) ?_ | refine and_mk ⟨_, rfl⟩ ?_ | refine ex_is _ (List.length_map _) ?_ | refine ex_is _ List.length_nil ?_ | fail "no step")
  refine ex_loop (X := Nat) (fun q => ⟨[(0, .o (.c (.row 0))), (1, .o cloT), (7, Ti (p ++ a :: r).length), (8, Ti q)], [(0, .row 1 3 (dis (p ++ a :: r))), (1, .obj [.d (di a)])], 2⟩) (fun q => p.length + 1 - q) (fun q => q ≤ p.length) 0 (Nat.zero_le _) (SLe.of ⟨⟨rfl, rfl, rfl, rfl, trivial⟩, ⟨rfl, rfl, trivial⟩⟩) ?_
  intro q hq
  have hlen : (p ++ a :: r).length = p.length + 1 + r.length := by simp; omega
  have hx : (p ++ a :: r)[q]? = some ((p ++ a :: r)[q]'(by omega)) := at_some (by omega)
  have hql : ((q : Nat) : Int).toNat < (dis (p ++ a :: r)).length := by rw [Int.toNat_natCast, List.length_map]; omega
  by_cases hqp : q = p.length
  · have he : (p ++ a :: r)[q]'(by omega) = a := by subst hqp; simp
    rw [he] at hx
    have hc := clo_c a a
    rw [decide_eq_true rfl] at hc
    repeat' (first | refine (ex_callM (hc.ren [1] 2 rfl rfl rfl rfl)) ?_ | refine (ex_at q a hx) ?_ | refine (and_mk hql) ?_ | refine ex_true (by first | decide | omega | assumption | (with_reducible exact rfl)) ?_ | refine ex_false (by first | decide | omega | assumption | exact (fun h => h rfl)) ?_ | refine ex_dec (fun _ => ?_) (fun _ => ?_) | refine ex_u8 _ rfl (by omega) (by omega) ?_ | refine ex_i64 _ rfl (by omega) (by omega) ?_ | refine ex_u64 _ rfl (by omega) (by omega) ?_ | refine and_mk (by first | omega | (with_reducible rfl) | (show drawOk _ _ _ = true; kernel_rfl)) ?_ | refine and_mk ⟨_, rfl⟩ ?_ | refine ex_is _ (List.length_map _) ?_ | refine ex_is _ List.length_nil ?_ | fail "no step")
    exact ⟨rfl, TLe.eq (by rw [hqp]; rfl), rfl, rfl⟩
  · have hne : (p ++ a :: r)[q]'(by omega) ≠ a := fun e => hp (by rw [← e, List.getElem_append_left (by omega)]; exact List.getElem_mem _)
    have hc := clo_c ((p ++ a :: r)[q]'(by omega)) a
    rw [decide_eq_false hne] at hc
    generalize (p ++ a :: r)[q]'(by omega) = z at *
    repeat' (first | refine (ex_callM (hc.ren [1] 2 rfl rfl rfl rfl)) ?_ | refine (ex_at q z hx) ?_ | refine (and_mk hql) ?_ | refine ex_true (by first | decide | omega | assumption | (with_reducible exact rfl)) ?_ | refine ex_false (by first | decide | omega | assumption | exact (fun h => h rfl)) ?_ | refine ex_dec (fun _ => ?_) (fun _ => ?_) | refine ex_u8 _ rfl (by omega) (by omega) ?_ | refine ex_i64 _ rfl (by omega) (by omega) ?_ | refine ex_u64 _ rfl (by omega) (by omega) ?_ | refine and_mk (by first | omega | (with_reducible rfl) | (show drawOk _ _ _ = true; kernel_rfl)) ?_ | refine and_mk ⟨_, rfl⟩ ?_ | refine ex_is _ (List.length_map _) ?_ | refine ex_is _ List.length_nil ?_ | fail "no step")
    exact ex_round (q + 1) (by show q + 1 ≤ p.length; omega) (by show _ - _ < _ - _; omega) (SLe.of ⟨⟨rfl, rfl, rfl, rfl, trivial⟩, ⟨rfl, rfl, trivial⟩⟩)
theorem deleteFunc_c (p r : List Int) (a : Int) (hp : a ∉ p) (hl : (p ++ a :: r).length ≤ 1000000) :
    CallsM Tryz.prog ΓK 19 [(0, .row 1 3 (dis (p ++ a :: r))), (1, .obj [.d (di a)])] 2 [.c (.row 0), cloT] (.o (.c (.row 2))) [(0, .dead), (1, .obj [.d (di a)])] [.row 1 3 (dis ((p ++ a :: r).filter fun k => !decide (k = a)))] := by
  have hi := indexFunc_c p r a hp hl
  have hlen : (p ++ a :: r).length = p.length + 1 + r.length := by simp; omega
  refine fn_ruleR (C := ⟨Tryz.prog, layF, Tryz.f19.ntmps, ΓK, 2, [], []⟩) layF_ok mixed Tryz.func19 rfl (by kernel_rfl) rfl rfl rfl ?_
  repeat' (first | refine (ex_callM hi) ?_ | refine ex_true (by first | decide | omega | assumption | (with_reducible exact rfl)) ?_ | refine ex_false (by first | decide | omega | assumption | exact (fun h => h rfl)) ?_ | refine ex_dec (fun _ => ?_) (fun _ => ?_) | refine ex_u8 _ rfl (by omega) (by omega) ?_ | refine ex_i64 _ rfl (by omega) (by omega) ?_ | refine ex_u64 _ rfl (by omega) (by omega) ?_ | refine and_mk (by first | omega | (with_reducible rfl) | (show drawOk _ _ _ = true; kernel_rfl)) ?_ | refine and_mk ⟨_, rfl⟩ ?_ | refine ex_is _ (List.length_map _) ?_ | refine ex_is _ List.length_nil ?_ | fail "no step")
  refine ex_loop (X := Nat × Nat × Int × List Int) (fun ⟨m, k, z, c⟩ => ⟨[(0, .o (.c (.row 0))), (1, .o cloT), (5, Ti k), (6, Ti z)], [(0, .row 1 3 (dis c)), (1, .obj [.d (di a)])], 2⟩) (fun x => r.length - x.1) (fun ⟨m, k, z, c⟩ => m ≤ r.length ∧ z = ((p.length + 1 + m : Nat) : Int) ∧ c.length = p.length + 1 + r.length ∧ k = (p ++ (r.take m).filter fun k => !decide (k = a)).length ∧ c.take k = p ++ (r.take m).filter (fun k => !decide (k = a)) ∧ c.drop (p.length + 1 + m) = r.drop m)
    (0, p.length, (p.length : Int) + 1, p ++ a :: r) ⟨Nat.zero_le _, by omega, hlen, by simp, by simp, by simp [List.drop_append]⟩ (SLe.of ⟨⟨rfl, rfl, rfl, rfl, trivial⟩, ⟨rfl, rfl, trivial⟩⟩) ?_
  rintro ⟨m, k, z, c⟩ ⟨hm, hz, hc, hk, ht, hd⟩
  subst hz
  have hfl := List.length_filter_le (fun k => !decide (k = a)) (r.take m)
  rw [List.length_take] at hfl
  have hkl : k ≤ p.length + m := by rw [hk, List.length_append]; omega
  have hdl : (dis c).length = c.length := List.length_map _
  by_cases hmr : m < r.length
  · have hrm : r[m]? = some r[m] := at_some hmr
    have hcm : c[p.length + 1 + m]? = some r[m] := by
      have := congrArg (fun l => l[0]?) hd
      simpa [List.getElem?_drop, hrm] using this
    have htk : r.take (m + 1) = r.take m ++ [r[m]] := by rw [List.take_add_one, hrm]; rfl
    have hcl := clo_c r[m] a
    have hdd : c.drop (p.length + 1 + (m + 1)) = r.drop (m + 1) := by
      have := congrArg (List.drop 1) hd
      rwa [List.drop_drop, List.drop_drop] at this
    generalize r[m] = v at *
    have hql : ((p.length + 1 + m : Nat) : Int).toNat < (dis c).length := by rw [Int.toNat_natCast, hdl]; omega
    by_cases hv : v = a
    · rw [decide_eq_true hv] at hcl
      repeat' (first | refine ex_i64 ((p.length + 1 + (m + 1) : Nat) : Int) (by omega) (by omega) (by omega) ?_ | refine ex_u64 ((p.length + 1 + (m + 1) : Nat) : Int) (by omega) (by omega) (by omega) ?_ | refine ex_u8 ((p.length + 1 + (m + 1) : Nat) : Int) (by omega) (by omega) (by omega) ?_ | refine (ex_callM (hcl.ren [1] 2 rfl rfl rfl rfl)) ?_ | refine (ex_at (p.length + 1 + m) v hcm) ?_ | refine (and_mk hql) ?_ | refine ex_true (by first | decide | omega | assumption | (with_reducible exact rfl)) ?_ | refine ex_false (by first | decide | omega | assumption | exact (fun h => h rfl)) ?_ | refine ex_dec (fun _ => ?_) (fun _ => ?_) | refine ex_u8 _ rfl (by omega) (by omega) ?_ | refine ex_i64 _ rfl (by omega) (by omega) ?_ | refine ex_u64 _ rfl (by omega) (by omega) ?_ | refine and_mk (by first | omega | (with_reducible rfl) | (show drawOk _ _ _ = true; kernel_rfl)) ?_ | refine and_mk ⟨_, rfl⟩ ?_ | refine ex_is _ (List.length_map _) ?_ | refine ex_is _ List.length_nil ?_ | fail "no step")
      exact ex_round (m + 1, k, _, c) ⟨by omega, rfl, hc, by rw [hk, htk, List.filter_append]; simp [hv], by rw [ht, htk, List.filter_append]; simp [hv], hdd⟩ (by show _ - _ < _ - _; omega) (SLe.of ⟨⟨rfl, rfl, rfl, rfl, trivial⟩, ⟨rfl, rfl, trivial⟩⟩)
    · rw [decide_eq_false hv] at hcl
      have hkk : ((k : Nat) : Int).toNat < (dis c).length := by rw [Int.toNat_natCast, hdl]; omega
      have hck : c[k]? = some (c[k]'(by omega)) := at_some (by omega)
      generalize c[k]'(by omega) = u at hck
      have hset : (dis c).set ((k : Nat) : Int).toNat [di v] = dis (c.set k v) := by rw [Int.toNat_natCast]; exact List.map_set.symm
      repeat' (first | refine ex_i64 ((p.length + 1 + (m + 1) : Nat) : Int) (by omega) (by omega) (by omega) ?_ | refine ex_u64 ((p.length + 1 + (m + 1) : Nat) : Int) (by omega) (by omega) (by omega) ?_ | refine ex_u8 ((p.length + 1 + (m + 1) : Nat) : Int) (by omega) (by omega) (by omega) ?_ | refine ex_i64 ((k + 1 : Nat) : Int) (by omega) (by omega) (by omega) ?_ | refine ex_u64 ((k + 1 : Nat) : Int) (by omega) (by omega) (by omega) ?_ | refine ex_u8 ((k + 1 : Nat) : Int) (by omega) (by omega) (by omega) ?_ | refine (ex_is (dis (c.set k v)) hset) ?_ | refine (ex_at k u hck) ?_ | refine (and_mk hkk) ?_ | refine (ex_callM (hcl.ren [1] 2 rfl rfl rfl rfl)) ?_ | refine (ex_at (p.length + 1 + m) v hcm) ?_ | refine (and_mk hql) ?_ | refine ex_true (by first | decide | omega | assumption | (with_reducible exact rfl)) ?_ | refine ex_false (by first | decide | omega | assumption | exact (fun h => h rfl)) ?_ | refine ex_dec (fun _ => ?_) (fun _ => ?_) | refine ex_u8 _ rfl (by omega) (by omega) ?_ | refine ex_i64 _ rfl (by omega) (by omega) ?_ | refine ex_u64 _ rfl (by omega) (by omega) ?_ | refine and_mk (by first | omega | (with_reducible rfl) | (show drawOk _ _ _ = true; kernel_rfl)) ?_ | refine and_mk ⟨_, rfl⟩ ?_ | refine ex_is _ (List.length_map _) ?_ | refine ex_is _ List.length_nil ?_ | fail "no step")
      have hkc : k < c.length := by omega
      have hk1 : k + 1 = (p ++ (r.take (m + 1)).filter fun k => !decide (k = a)).length := by rw [htk, List.filter_append, ← List.append_assoc, List.length_append, ← hk]; simp [hv]
      have ht1 : (c.set k v).take (k + 1) = p ++ (r.take (m + 1)).filter (fun k => !decide (k = a)) := by
        rw [List.take_set, List.take_add_one, List.set_append_right _ _ (by rw [List.length_take]; omega), List.length_take, Nat.min_eq_left (by omega), Nat.sub_self, ht, htk, List.filter_append]
        simp [hv, List.getElem?_eq_getElem hkc]
      exact ex_round (m + 1, k + 1, _, c.set k v) ⟨by omega, rfl, by rw [List.length_set]; exact hc, hk1, ht1, by rw [List.drop_set_of_lt (by omega)]; exact hdd⟩ (by show _ - _ < _ - _; omega) (SLe.of ⟨⟨rfl, rfl, rfl, rfl, trivial⟩, ⟨rfl, rfl, trivial⟩⟩)
  · obtain rfl : m = r.length := by omega
    rw [List.take_length] at hk ht
    repeat' (first | refine ex_true (by first | decide | omega | assumption | (with_reducible exact rfl)) ?_ | refine ex_false (by first | decide | omega | assumption | exact (fun h => h rfl)) ?_ | refine ex_dec (fun _ => ?_) (fun _ => ?_) | refine ex_u8 _ rfl (by omega) (by omega) ?_ | refine ex_i64 _ rfl (by omega) (by omega) ?_ | refine ex_u64 _ rfl (by omega) (by omega) ?_ | refine and_mk (by first | omega | (with_reducible rfl) | (show drawOk _ _ _ = true; kernel_rfl)) ?_ | refine and_mk ⟨_, rfl⟩ ?_ | refine ex_is _ (List.length_map _) ?_ | refine ex_is _ List.length_nil ?_ | fail "no step")
    refine ⟨k, c.length - k, Int.toNat_natCast k, by rw [hdl], ?_⟩
    repeat' (first | refine ex_true (by first | decide | omega | assumption | (with_reducible exact rfl)) ?_ | refine ex_false (by first | decide | omega | assumption | exact (fun h => h rfl)) ?_ | refine ex_dec (fun _ => ?_) (fun _ => ?_) | refine ex_u8 _ rfl (by omega) (by omega) ?_ | refine ex_i64 _ rfl (by omega) (by omega) ?_ | refine ex_u64 _ rfl (by omega) (by omega) ?_ | refine and_mk (by first | omega | (with_reducible rfl) | (show drawOk _ _ _ = true; kernel_rfl)) ?_ | refine and_mk ⟨_, rfl⟩ ?_ | refine ex_is _ (List.length_map _) ?_ | refine ex_is _ List.length_nil ?_ | fail "no step")
    have hrep : (dis c).take k ++ List.replicate (c.length - k) [di 0] = dis (c.take k ++ List.replicate (c.length - k) 0) := by simp [List.map_take]
    refine ex_is (dis (c.take k ++ List.replicate (c.length - k) 0)) hrep ?_
    have hl2 : (dis (c.take k ++ List.replicate (c.length - k) 0)).length = c.length := by rw [List.length_map, List.length_append, List.length_take, List.length_replicate]; omega
    have htk2 : (dis (c.take k ++ List.replicate (c.length - k) 0)).take ((k : Nat) : Int).toNat = dis ((p ++ a :: r).filter fun k => !decide (k = a)) := by
      have hpf : p.filter (fun k => !decide (k = a)) = p := by
        rw [List.filter_eq_self]
        intro x hx
        have : x ≠ a := fun e => hp (e ▸ hx)
        simp [this]
      rw [Int.toNat_natCast, ← List.map_take, List.take_append_of_le_length (by rw [List.length_take]; omega), List.take_take, Nat.min_self, ht, List.filter_append, hpf]
      simp
    repeat' (first | refine (ex_is _ htk2) ?_ | refine ex_true (by first | decide | omega | assumption | (with_reducible exact rfl)) ?_ | refine ex_false (by first | decide | omega | assumption | exact (fun h => h rfl)) ?_ | refine ex_dec (fun _ => ?_) (fun _ => ?_) | refine ex_u8 _ rfl (by omega) (by omega) ?_ | refine ex_i64 _ rfl (by omega) (by omega) ?_ | refine ex_u64 _ rfl (by omega) (by omega) ?_ | refine and_mk (by first | omega | (with_reducible rfl) | (show drawOk _ _ _ = true; kernel_rfl)) ?_ | refine and_mk ⟨_, rfl⟩ ?_ | refine ex_is _ (List.length_map _) ?_ | refine ex_is _ List.length_nil ?_ | fail "no step")
    exact ⟨rfl, rfl, TLe.rfl, rfl, rfl⟩
end Go.Proofs.YtgfmbkbiingagaaGreatDoor

namespace Go.Proofs.YtgfmbkbiingagaaGreatDoor
set_option linter.unusedVariables false
set_option linter.unusedSimpArgs false
open Go.RowKit
set_option maxRecDepth 100000

/-- A name may be given up at any time. -/
theorem SLe.kill {nx0 : Nat} {tm : List (Nat × TV)} {mem : List (Nat × Blk)} {nx nx' : Nat} {t : St} (k : Nat) (h : SLe nx0 ⟨tm, mem, nx⟩ t) : SLe nx0 ⟨tm, (k, .dead) :: mem, nx'⟩ t := fun E a w he hR => by
  obtain ⟨ι, S, I⟩ := h E a w he hR
  have hcase : ∀ n b, findL ((k, Blk.dead) :: mem) n = some b → b.live = true → findL mem n = some b := fun n b hb hl => by
    simp only [findL] at hb
    split at hb
    · cases hb; cases hl
    · exact hb
  refine ⟨ι, S, I.os, I.tape, I.output, I.size, I.old, I.slt, I.s0, I.sg, I.tms, fun n b hb => ?_, fun n b hb hl => I.mutb n b (hcase n b hb hl) hl, fun n n' b b' g hb hb' hl hl' => I.dst n n' b b' g (hcase n b hb hl) (hcase n' b' hb' hl') hl hl', I.dn, I.sz, I.gl, I.ik⟩
  cases hl : b.live with
  | true => exact I.blk n b (hcase n b hb hl)
  | false => cases b <;> first | trivial | cases hl
/-- A row that a call leaves as it is, told under a new name. -/
theorem CallsM.fork {P : Program} {Γ : Glob} {f : FuncId} {m : List (Nat × Blk)} {nx : Nat} {xs : List T1} {r : TV} {upd : List (Nat × Blk)} (h : CallsM P Γ f m nx xs r upd []) (k : Nat) (hk : k < nx) {b b0 : Blk} (hu : (k, b) ∈ upd) (hl : b.live = true) (hm0 : (k, b0) ∈ m) (hl0 : b0.live = true)
    (hb : ∀ n, b.men n = false) (hb' : ∀ ρ, b.ren ρ = b) (hr : ∀ n, nx ≤ n ∨ n = k → r.men n = false) (h1 : ∀ p ∈ upd, p.2.men nx = false) (h2 : ∀ p ∈ upd, p.1 < nx) :
    CallsM P Γ f m nx xs r (upd.map fun p => if p.1 = k then (k, .dead) else (p.1, p.2.ren fun n => if n = k then nx else n)) [b] :=
  ⟨h.1, fun ι S w vs hs hG hblk hdst hvs => by
    refine (h.2 ι S w vs hs hG hblk hdst hvs).mono fun e w' hX => ?_
    have hsep : ∀ g, blkOf (ι k) = some g → ¬ S g := fun g hg => ((hblk _ hm0).sep hl0 hg).2
    have conv : ∀ (tv : TV) (x : Value) (ι' : Nat → Value) (S' : Nat → Prop), (∀ n, nx ≤ n ∨ n = k → tv.men n = false) → After ι S w nx ⟨tv, m.map (·.1), upd, []⟩ x ι' S' w' →
        ∃ ι'', After ι S w nx ⟨tv, m.map (·.1), upd.map (fun p => if p.1 = k then (k, .dead) else (p.1, p.2.ren fun n => if n = k then nx else n)), [b]⟩ x ι'' S' w' := fun tv x ι' S' htv A => by
      obtain ⟨ι'', hι⟩ : ∃ ι'' : Nat → Value, ∀ n, ι'' n = if n = nx then ι' k else ι' n := ⟨_, fun _ => rfl⟩
      have hnx : ι'' nx = ι' k := by rw [hι, if_pos rfl]
      have ho : ∀ n, n ≠ nx → ι'' n = ι' n := fun n hn => by rw [hι, if_neg hn]
      have hik : ι' k = ι k := A.keep k (.inl hk)
      have hnames : ∀ n, n ∈ (upd.map (fun p => if p.1 = k then (k, Blk.dead) else (p.1, p.2.ren fun n => if n = k then nx else n))).map (·.1) ↔ n ∈ upd.map (·.1) := fun n => by
        rw [List.map_map]
        have : ((fun p : Nat × Blk => p.1) ∘ fun p : Nat × Blk => if p.1 = k then (k, Blk.dead) else (p.1, p.2.ren fun n => if n = k then nx else n)) = fun p => p.1 := by
          funext p
          simp only [Function.comp]
          split
          · rename_i e; exact e.symm
          · rfl
        rw [this]
      have hdead : ∀ n, (n, Blk.dead) ∈ upd → (n, Blk.dead) ∈ upd.map (fun p => if p.1 = k then (k, Blk.dead) else (p.1, p.2.ren fun n => if n = k then nx else n)) := fun n hn => by
        refine List.mem_map.2 ⟨_, hn, ?_⟩
        dsimp only
        split
        · rename_i e; subst e; rfl
        · rfl
      have hbok : BlkOk ι' S' w' k b := A.updok k b hu
      have hrow : ∀ n, n ≠ k → ∀ c : Blk, BlkOk ι' S' w' n c → n ≠ nx → (∀ j, c.men j = true → j ≠ nx) → BlkOk ι'' S' w' n (c.ren fun n => if n = k then nx else n) := fun n hn c hc hnn hcm => by
        have := BlkOk_to (ι' := ι'') (ρ := fun n => if n = k then nx else n) (k := n) (b := c) (fun _ => by simp only [if_neg hn]; exact ho n hnn) (fun j hj => by
          by_cases e : j = k
          · subst e; simp only [if_true]; exact hnx
          · simp only [if_neg e]; exact ho j (hcm j hj)) hc
        simpa only [if_neg hn] using this
      refine ⟨ι'', ?_, fun n hn => ?_, A.smono, fun c hc => ?_, A.slt, A.os, A.tape, A.output, A.size, fun c hc hne => A.heap c hc fun n hn => hne n ((hnames n).2 hn), fun n c hn => ?_, fun i c hc => ?_, fun i c hc hlc g hg => ?_, fun i j c c' g hi hj _ _ _ _ => ?_⟩
      · exact V.mono (fun _ _ => rfl) (fun _ h => h) (fun n hn => ho n fun e => by
          subst e
          rw [htv n (.inl (Nat.le_refl _))] at hn
          cases hn) A.val
      · have hne : n ≠ nx := by simp only [List.length_cons, List.length_nil] at hn; omega
        rw [ho n hne]
        exact A.keep n (by simp only [List.length_nil]; omega)
      · rcases A.sgrow c hc with h | h | ⟨n, hn, h⟩
        · exact .inl h
        · exact .inr (.inl h)
        · exact .inr (.inr ⟨n, hdead n hn, h⟩)
      · obtain ⟨p, hp, he⟩ := List.mem_map.1 hn
        split at he
        · cases he; trivial
        · rename_i hpk
          cases he
          by_cases hpx : p.1 = nx
          · have := h2 p hp
            omega
          · exact hrow p.1 hpk p.2 (A.updok p.1 p.2 hp) hpx (fun j hj e => by rw [e, h1 p hp] at hj; cases hj)
      · obtain ⟨hi, hcb⟩ := one_at hc
        rw [hi, hcb]
        have := BlkOk_to (ι' := ι'') (ρ := fun n => if n = k then nx else n) (k := k) (b := b) (fun _ => by simp only [if_true]; exact hnx) (fun j hj => by rw [hb j] at hj; cases hj) hbok
        simp only [if_true] at this
        rw [hb'] at this
        exact this
      · obtain ⟨hi, hcb⟩ := one_at hc
        rw [hi, Nat.add_zero, hnx, hik] at hg
        exact ⟨hsep g hg, .inr ⟨k, List.mem_map.2 ⟨_, hu, by simp⟩, hg⟩⟩
      · obtain ⟨rfl, _⟩ := one_at hi
        obtain ⟨rfl, _⟩ := one_at hj
        rfl
    rcases hX with ⟨x, ι', S', he, A⟩ | ⟨v, ι', S', hrv, he, A⟩
    · obtain ⟨ι'', A'⟩ := conv r x ι' S' hr A
      exact .inl ⟨x, ι'', S', he, A'⟩
    · obtain ⟨ι'', A'⟩ := conv .und undef ι' S' (fun _ _ => rfl) A
      exact .inr ⟨v, ι'', S', hrv, he, A'⟩⟩
end Go.Proofs.YtgfmbkbiingagaaGreatDoor

namespace Go.Proofs
open Go.Shelf
def Tryz.lays283_ren : Go.Shelf.Ren := ⟨fun | 283 => 87 | n => n, fun | 3 => 3 | 9 => 9 | 4 => 4 | n => n, fun | n => n⟩
theorem Tryz.lays283 : Go.Proofs.Lays.n283 Tryz.prog Tryz.lays283_ren := {
  mixed := by kernel_rfl
  f283 := Tryz.func87.trans (congrArg some (by kernel_rfl))
  t3 := Tryz.underlying3
  a3 := Tryz.isAgg3
  z3 := Tryz.sizeOf3
  v3 := Tryz.zeroValue3
  t4 := Tryz.underlying4
  a4 := Tryz.isAgg4
  z4 := Tryz.sizeOf4
  v4 := Tryz.zeroValue4
  t9 := Tryz.underlying9
  a9 := Tryz.isAgg9
  z9 := Tryz.sizeOf9
  v9 := Tryz.zeroValue9 }
open Go.Lib in
theorem Tryz.internal_strconv_small (i : Nat) (h : i < 100) (w : World) :
    Calls Tryz.prog 87 #[.int .i64 i] w fun e w' => e = .returned (.string ⟨(Lib.decDigits i).toArray⟩) ∧ w' = w := Any.internal_strconv_small Tryz.lays283 i h w
def Tryz.laysM284_ren : Go.Shelf.Ren := ⟨fun | 284 => 88 | 129 => 98 | 317 => 97 | 318 => 99 | n => n, fun | 53 => 45 | 3 => 3 | 212 => 160 | 0 => 0 | 4 => 4 | 46 => 137 | 5 => 5 | 9 => 9 | n => n, fun | 17 => 6 | n => n⟩
theorem Tryz.laysM284 : Go.Proofs.LaysM.n284 Tryz.prog Tryz.laysM284_ren := {
  mixed := by kernel_rfl
  f129 := Tryz.func98.trans (congrArg some (by kernel_rfl))
  f284 := Tryz.func88.trans (congrArg some (by kernel_rfl))
  f317 := Tryz.func97.trans (congrArg some (by kernel_rfl))
  f318 := Tryz.func99.trans (congrArg some (by kernel_rfl))
  t0 := Tryz.underlying0
  a0 := Tryz.isAgg0
  z0 := Tryz.sizeOf0
  v0 := Tryz.zeroValue0
  t3 := Tryz.underlying3
  a3 := Tryz.isAgg3
  z3 := Tryz.sizeOf3
  v3 := Tryz.zeroValue3
  t4 := Tryz.underlying4
  a4 := Tryz.isAgg4
  z4 := Tryz.sizeOf4
  v4 := Tryz.zeroValue4
  t5 := Tryz.underlying5
  a5 := Tryz.isAgg5
  z5 := Tryz.sizeOf5
  v5 := Tryz.zeroValue5
  t9 := Tryz.underlying9
  a9 := Tryz.isAgg9
  z9 := Tryz.sizeOf9
  v9 := Tryz.zeroValue9
  t46 := Tryz.underlying137
  a46 := Tryz.isAgg137
  z46 := Tryz.sizeOf137
  v46 := Tryz.zeroValue137
  t53 := Tryz.underlying45
  a53 := Tryz.isAgg45
  z53 := Tryz.sizeOf45
  v53 := Tryz.zeroValue45
  t212 := Tryz.underlying160
  a212 := Tryz.isAgg160
  z212 := Tryz.sizeOf160
  v212 := Tryz.zeroValue160
  g17 := by kernel_rfl
  i0 := by kernel_rfl
  i3 := by kernel_rfl
  i4 := by kernel_rfl
  i5 := by kernel_rfl
  i9 := by kernel_rfl
  i46 := by kernel_rfl
  i53 := by kernel_rfl
  i212 := by kernel_rfl
  m17 := by kernel_rfl }
open Go.Lib in
theorem Tryz.internal_strconv_numDigits (u : Nat) (h1 : 1 ≤ u) (h2 : u < 18446744073709551616) (w : World) (htab : Lib.TabIs Tryz.prog w "internal/strconv.uint64pow10" .u64 Lib.pow10Tab) :
    Calls Tryz.prog 88 #[.int .u64 u] w fun e w' => e = .returned (.int .i64 (Lib.nDigits u)) ∧ w' = w := Any.internal_strconv_numDigits Tryz.laysM284 u h1 h2 w htab
def Tryz.lays285_ren : Go.Shelf.Ren := ⟨fun | 285 => 89 | n => n, fun | 37 => 108 | 53 => 45 | 3 => 3 | 4 => 4 | 51 => 152 | 9 => 9 | 5 => 5 | 0 => 0 | n => n, fun | n => n⟩
theorem Tryz.lays285 : Go.Proofs.Lays.n285 Tryz.prog Tryz.lays285_ren := {
  mixed := by kernel_rfl
  f285 := Tryz.func89.trans (congrArg some (by kernel_rfl))
  t0 := Tryz.underlying0
  a0 := Tryz.isAgg0
  z0 := Tryz.sizeOf0
  v0 := Tryz.zeroValue0
  t3 := Tryz.underlying3
  a3 := Tryz.isAgg3
  z3 := Tryz.sizeOf3
  v3 := Tryz.zeroValue3
  t4 := Tryz.underlying4
  a4 := Tryz.isAgg4
  z4 := Tryz.sizeOf4
  v4 := Tryz.zeroValue4
  t5 := Tryz.underlying5
  a5 := Tryz.isAgg5
  z5 := Tryz.sizeOf5
  v5 := Tryz.zeroValue5
  t9 := Tryz.underlying9
  a9 := Tryz.isAgg9
  z9 := Tryz.sizeOf9
  v9 := Tryz.zeroValue9
  t37 := Tryz.underlying108
  a37 := Tryz.isAgg108
  z37 := Tryz.sizeOf108
  v37 := Tryz.zeroValue108
  t51 := Tryz.underlying152
  a51 := Tryz.isAgg152
  z51 := Tryz.sizeOf152
  v51 := Tryz.zeroValue152
  t53 := Tryz.underlying45
  a53 := Tryz.isAgg45
  z53 := Tryz.sizeOf45
  v53 := Tryz.zeroValue45 }
open Go.RowKit Go.Sort Go.Lib in
theorem Tryz.internal_strconv_formatBase10 (blk off cap : Nat) (u : Nat) (d : Array UInt8) (w : World) (hH : Holds (fun (b : UInt8) => Value.int .u8 (b.toNat : Int)) w blk off d) (hu : u < 10 ^ d.size) (hu64 : u < 18446744073709551616) (hsz : d.size < 4611686018427387904) :
    Calls Tryz.prog 89 #[.slice (some ⟨blk, off, none⟩) d.size cap, .int .u64 u] w fun e w' =>
      e = .returned (.tuple #[]) ∧ ∃ (n v' : Nat) (dk : Array UInt8), w' = (putRow (fun (b : UInt8) => Value.int .u8 (b.toNat : Int)) w blk off dk).drewN n ∧ FmtInv d.size u 0 v' dk := Any.internal_strconv_formatBase10 Tryz.lays285 blk off cap u d w hH hu hu64 hsz
def Tryz.laysM171_ren : Go.Shelf.Ren := ⟨fun | 171 => 74 | 243 => 92 | 246 => 103 | 283 => 87 | 284 => 88 | 285 => 89 | 286 => 90 | 129 => 98 | 317 => 97 | 318 => 99 | 319 => 100 | 320 => 101 | 337 => 104 | 338 => 105 | n => n, fun | 3 => 3 | 9 => 9 | 2 => 2 | 4 => 4 | 171 => 143 | 0 => 0 | 53 => 45 | 37 => 108 | 5 => 5 | 173 => 146 | 212 => 160 | 51 => 152 | 20 => 20 | 213 => 161 | 46 => 137 | 232 => 171 | 233 => 172 | n => n, fun | 17 => 6 | 18 => 7 | 19 => 8 | n => n⟩
theorem Tryz.laysM171 : Go.Proofs.LaysM.n171 Tryz.prog Tryz.laysM171_ren := {
  mixed := by kernel_rfl
  f129 := Tryz.func98.trans (congrArg some (by kernel_rfl))
  f171 := Tryz.func74.trans (congrArg some (by kernel_rfl))
  f243 := Tryz.func92.trans (congrArg some (by kernel_rfl))
  f246 := Tryz.func103.trans (congrArg some (by kernel_rfl))
  f283 := Tryz.func87.trans (congrArg some (by kernel_rfl))
  f284 := Tryz.func88.trans (congrArg some (by kernel_rfl))
  f285 := Tryz.func89.trans (congrArg some (by kernel_rfl))
  f286 := Tryz.func90.trans (congrArg some (by kernel_rfl))
  f317 := Tryz.func97.trans (congrArg some (by kernel_rfl))
  f318 := Tryz.func99.trans (congrArg some (by kernel_rfl))
  f319 := Tryz.func100.trans (congrArg some (by kernel_rfl))
  f320 := Tryz.func101.trans (congrArg some (by kernel_rfl))
  f337 := Tryz.func104.trans (congrArg some (by kernel_rfl))
  f338 := Tryz.func105.trans (congrArg some (by kernel_rfl))
  t0 := Tryz.underlying0
  a0 := Tryz.isAgg0
  z0 := Tryz.sizeOf0
  v0 := Tryz.zeroValue0
  t2 := Tryz.underlying2
  a2 := Tryz.isAgg2
  z2 := Tryz.sizeOf2
  v2 := Tryz.zeroValue2
  t3 := Tryz.underlying3
  a3 := Tryz.isAgg3
  z3 := Tryz.sizeOf3
  v3 := Tryz.zeroValue3
  t4 := Tryz.underlying4
  a4 := Tryz.isAgg4
  z4 := Tryz.sizeOf4
  v4 := Tryz.zeroValue4
  t5 := Tryz.underlying5
  a5 := Tryz.isAgg5
  z5 := Tryz.sizeOf5
  v5 := Tryz.zeroValue5
  t9 := Tryz.underlying9
  a9 := Tryz.isAgg9
  z9 := Tryz.sizeOf9
  v9 := Tryz.zeroValue9
  t20 := Tryz.underlying20
  a20 := Tryz.isAgg20
  z20 := Tryz.sizeOf20
  v20 := Tryz.zeroValue20
  t37 := Tryz.underlying108
  a37 := Tryz.isAgg108
  z37 := Tryz.sizeOf108
  v37 := Tryz.zeroValue108
  t46 := Tryz.underlying137
  a46 := Tryz.isAgg137
  z46 := Tryz.sizeOf137
  v46 := Tryz.zeroValue137
  t51 := Tryz.underlying152
  a51 := Tryz.isAgg152
  z51 := Tryz.sizeOf152
  v51 := Tryz.zeroValue152
  t53 := Tryz.underlying45
  a53 := Tryz.isAgg45
  z53 := Tryz.sizeOf45
  v53 := Tryz.zeroValue45
  t171 := Tryz.underlying143
  a171 := Tryz.isAgg143
  z171 := Tryz.sizeOf143
  v171 := Tryz.zeroValue143
  t173 := Tryz.underlying146
  a173 := Tryz.isAgg146
  z173 := Tryz.sizeOf146
  v173 := Tryz.zeroValue146
  t212 := Tryz.underlying160
  a212 := Tryz.isAgg160
  z212 := Tryz.sizeOf160
  v212 := Tryz.zeroValue160
  t213 := Tryz.underlying161
  a213 := Tryz.isAgg161
  z213 := Tryz.sizeOf161
  t232 := Tryz.underlying171
  a232 := Tryz.isAgg171
  z232 := Tryz.sizeOf171
  v232 := Tryz.zeroValue171
  t233 := Tryz.underlying172
  a233 := Tryz.isAgg172
  z233 := Tryz.sizeOf172
  v233 := Tryz.zeroValue172
  g17 := by kernel_rfl
  g18 := by kernel_rfl
  g19 := by kernel_rfl
  i0 := by kernel_rfl
  i2 := by kernel_rfl
  i3 := by kernel_rfl
  i4 := by kernel_rfl
  i5 := by kernel_rfl
  i9 := by kernel_rfl
  i20 := by kernel_rfl
  i37 := by kernel_rfl
  i46 := by kernel_rfl
  i51 := by kernel_rfl
  i53 := by kernel_rfl
  i171 := by kernel_rfl
  i173 := by kernel_rfl
  i212 := by kernel_rfl
  i232 := by kernel_rfl
  i233 := by kernel_rfl
  m17 := by kernel_rfl
  m18 := by kernel_rfl
  m19 := by kernel_rfl }
open Go.RowKit Go.Sort Go.Lib in
theorem Tryz.strconv_Itoa (n : Int) (h0 : -9223372036854775808 ≤ n) (h1 : n ≤ 9223372036854775807) (w : World) (htab : Lib.TabIs Tryz.prog w "internal/strconv.uint64pow10" .u64 Lib.pow10Tab) :
    Calls Tryz.prog 74 #[.int .i64 n] w fun e w' => e = .returned (.string ⟨(Lib.itoa n).toArray⟩) ∧ ∃ k os, w' = grow (w.drewN k) os := Any.strconv_Itoa Tryz.laysM171 n h0 h1 w htab
def Tryz.laysC172_ren : Go.Shelf.Ren := ⟨fun | 172 => 73 | 244 => 91 | 245 => 71 | 247 => 102 | 279 => 83 | 280 => 84 | 281 => 85 | 282 => 86 | 287 => 70 | 316 => 95 | 171 => 74 | 205 => 96 | 321 => 81 | 322 => 82 | 243 => 92 | 246 => 103 | 283 => 87 | 284 => 88 | 285 => 89 | 286 => 90 | 129 => 98 | 317 => 97 | 318 => 99 | 319 => 100 | 320 => 101 | 337 => 104 | 338 => 105 | n => n, fun | 9 => 9 | 3 => 3 | 75 => 119 | 76 => 132 | 4 => 4 | 5 => 5 | 167 => 138 | 37 => 108 | 0 => 0 | 85 => 163 | 2 => 2 | 168 => 140 | 53 => 45 | 175 => 120 | 46 => 137 | 210 => 157 | 127 => 166 | 145 => 169 | 143 => 167 | 21 => 21 | 171 => 143 | 173 => 146 | 212 => 160 | 51 => 152 | 20 => 20 | 213 => 161 | 232 => 171 | 233 => 172 | 80 => 106 | n => n, fun | 15 => 4 | 16 => 5 | 17 => 6 | 18 => 7 | 19 => 8 | n => n⟩
theorem Tryz.laysC172 : Go.Proofs.LaysC.n172 Tryz.prog Tryz.laysC172_ren := {
  mixed := by kernel_rfl
  f129 := Tryz.func98.trans (congrArg some (by kernel_rfl))
  f171 := Tryz.func74.trans (congrArg some (by kernel_rfl))
  f172 := Tryz.func73.trans (congrArg some (by kernel_rfl))
  f205 := Tryz.func96.trans (congrArg some (by kernel_rfl))
  f243 := Tryz.func92.trans (congrArg some (by kernel_rfl))
  f244 := Tryz.func91.trans (congrArg some (by kernel_rfl))
  f245 := Tryz.func71.trans (congrArg some (by kernel_rfl))
  f246 := Tryz.func103.trans (congrArg some (by kernel_rfl))
  f247 := Tryz.func102.trans (congrArg some (by kernel_rfl))
  f279 := Tryz.func83.trans (congrArg some (by kernel_rfl))
  f280 := Tryz.func84.trans (congrArg some (by kernel_rfl))
  f281 := Tryz.func85.trans (congrArg some (by kernel_rfl))
  f282 := Tryz.func86.trans (congrArg some (by kernel_rfl))
  f283 := Tryz.func87.trans (congrArg some (by kernel_rfl))
  f284 := Tryz.func88.trans (congrArg some (by kernel_rfl))
  f285 := Tryz.func89.trans (congrArg some (by kernel_rfl))
  f286 := Tryz.func90.trans (congrArg some (by kernel_rfl))
  f287 := Tryz.func70.trans (congrArg some (by kernel_rfl))
  f316 := Tryz.func95.trans (congrArg some (by kernel_rfl))
  f317 := Tryz.func97.trans (congrArg some (by kernel_rfl))
  f318 := Tryz.func99.trans (congrArg some (by kernel_rfl))
  f319 := Tryz.func100.trans (congrArg some (by kernel_rfl))
  f320 := Tryz.func101.trans (congrArg some (by kernel_rfl))
  f321 := Tryz.func81.trans (congrArg some (by kernel_rfl))
  f322 := Tryz.func82.trans (congrArg some (by kernel_rfl))
  f337 := Tryz.func104.trans (congrArg some (by kernel_rfl))
  f338 := Tryz.func105.trans (congrArg some (by kernel_rfl))
  t0 := Tryz.underlying0
  a0 := Tryz.isAgg0
  z0 := Tryz.sizeOf0
  v0 := Tryz.zeroValue0
  t2 := Tryz.underlying2
  a2 := Tryz.isAgg2
  z2 := Tryz.sizeOf2
  v2 := Tryz.zeroValue2
  t3 := Tryz.underlying3
  a3 := Tryz.isAgg3
  z3 := Tryz.sizeOf3
  v3 := Tryz.zeroValue3
  t4 := Tryz.underlying4
  a4 := Tryz.isAgg4
  z4 := Tryz.sizeOf4
  v4 := Tryz.zeroValue4
  t5 := Tryz.underlying5
  a5 := Tryz.isAgg5
  z5 := Tryz.sizeOf5
  v5 := Tryz.zeroValue5
  t9 := Tryz.underlying9
  a9 := Tryz.isAgg9
  z9 := Tryz.sizeOf9
  v9 := Tryz.zeroValue9
  t20 := Tryz.underlying20
  a20 := Tryz.isAgg20
  z20 := Tryz.sizeOf20
  v20 := Tryz.zeroValue20
  t21 := Tryz.underlying21
  a21 := Tryz.isAgg21
  z21 := Tryz.sizeOf21
  v21 := Tryz.zeroValue21
  t37 := Tryz.underlying108
  a37 := Tryz.isAgg108
  z37 := Tryz.sizeOf108
  v37 := Tryz.zeroValue108
  t46 := Tryz.underlying137
  a46 := Tryz.isAgg137
  z46 := Tryz.sizeOf137
  v46 := Tryz.zeroValue137
  t51 := Tryz.underlying152
  a51 := Tryz.isAgg152
  z51 := Tryz.sizeOf152
  v51 := Tryz.zeroValue152
  t53 := Tryz.underlying45
  a53 := Tryz.isAgg45
  z53 := Tryz.sizeOf45
  v53 := Tryz.zeroValue45
  t75 := Tryz.underlying119
  a75 := Tryz.isAgg119
  z75 := Tryz.sizeOf119
  v75 := Tryz.zeroValue119
  t76 := Tryz.underlying132
  a76 := Tryz.isAgg132
  z76 := Tryz.sizeOf132
  v76 := Tryz.zeroValue132
  t85 := Tryz.underlying163
  a85 := Tryz.isAgg163
  z85 := Tryz.sizeOf163
  v85 := Tryz.zeroValue163
  t127 := Tryz.underlying166
  a127 := Tryz.isAgg166
  z127 := Tryz.sizeOf166
  v127 := Tryz.zeroValue166
  t143 := Tryz.underlying167
  a143 := Tryz.isAgg167
  z143 := Tryz.sizeOf167
  v143 := Tryz.zeroValue167
  t145 := Tryz.underlying169
  a145 := Tryz.isAgg169
  z145 := Tryz.sizeOf169
  v145 := Tryz.zeroValue169
  t167 := Tryz.underlying138
  a167 := Tryz.isAgg138
  z167 := Tryz.sizeOf138
  v167 := Tryz.zeroValue138
  t168 := Tryz.underlying140
  a168 := Tryz.isAgg140
  z168 := Tryz.sizeOf140
  v168 := Tryz.zeroValue140
  t171 := Tryz.underlying143
  a171 := Tryz.isAgg143
  z171 := Tryz.sizeOf143
  v171 := Tryz.zeroValue143
  t173 := Tryz.underlying146
  a173 := Tryz.isAgg146
  z173 := Tryz.sizeOf146
  v173 := Tryz.zeroValue146
  t175 := Tryz.underlying120
  a175 := Tryz.isAgg120
  z175 := Tryz.sizeOf120
  v175 := Tryz.zeroValue120
  t210 := Tryz.underlying157
  a210 := Tryz.isAgg157
  z210 := Tryz.sizeOf157
  v210 := Tryz.zeroValue157
  t212 := Tryz.underlying160
  a212 := Tryz.isAgg160
  z212 := Tryz.sizeOf160
  v212 := Tryz.zeroValue160
  t213 := Tryz.underlying161
  a213 := Tryz.isAgg161
  z213 := Tryz.sizeOf161
  t232 := Tryz.underlying171
  a232 := Tryz.isAgg171
  z232 := Tryz.sizeOf171
  v232 := Tryz.zeroValue171
  t233 := Tryz.underlying172
  a233 := Tryz.isAgg172
  z233 := Tryz.sizeOf172
  v233 := Tryz.zeroValue172
  g15 := by kernel_rfl
  g16 := by kernel_rfl
  g17 := by kernel_rfl
  g18 := by kernel_rfl
  g19 := by kernel_rfl
  t80 := Tryz.underlying106
  a80 := Tryz.isAgg106
  z80 := Tryz.sizeOf106
  v80 := Tryz.zeroValue106
  i0 := by kernel_rfl
  i2 := by kernel_rfl
  i3 := by kernel_rfl
  i4 := by kernel_rfl
  i5 := by kernel_rfl
  i9 := by kernel_rfl
  i20 := by kernel_rfl
  i21 := by kernel_rfl
  i37 := by kernel_rfl
  i46 := by kernel_rfl
  i51 := by kernel_rfl
  i53 := by kernel_rfl
  i75 := by kernel_rfl
  i76 := by kernel_rfl
  i80 := by kernel_rfl
  i85 := by kernel_rfl
  i127 := by kernel_rfl
  i143 := by kernel_rfl
  i145 := by kernel_rfl
  i167 := by kernel_rfl
  i168 := by kernel_rfl
  i171 := by kernel_rfl
  i173 := by kernel_rfl
  i175 := by kernel_rfl
  i210 := by kernel_rfl
  i212 := by kernel_rfl
  i232 := by kernel_rfl
  i233 := by kernel_rfl
  m15 := by kernel_rfl
  m16 := by kernel_rfl
  m17 := by kernel_rfl
  m18 := by kernel_rfl
  m19 := by kernel_rfl
  c0 := by kernel_rfl
  c2 := by kernel_rfl
  c3 := by kernel_rfl
  c4 := by kernel_rfl
  c5 := by kernel_rfl
  c9 := by kernel_rfl
  c20 := by kernel_rfl
  c21 := by kernel_rfl
  c37 := by kernel_rfl
  c46 := by kernel_rfl
  c51 := by kernel_rfl
  c53 := by kernel_rfl
  c75 := by kernel_rfl
  c76 := by kernel_rfl
  c80 := by kernel_rfl
  c85 := by kernel_rfl
  c127 := by kernel_rfl
  c143 := by kernel_rfl
  c145 := by kernel_rfl
  c167 := by kernel_rfl
  c168 := by kernel_rfl
  c171 := by kernel_rfl
  c173 := by kernel_rfl
  c175 := by kernel_rfl
  c210 := by kernel_rfl
  c212 := by kernel_rfl
  c213 := by kernel_rfl
  c232 := by kernel_rfl
  c233 := by kernel_rfl }
open Go.RowKit in
theorem Tryz.strconv_Atoi_ok (s : ByteArray) (hmax : s.size ≤ 9223372036854775806) (v : Int) (h : Lib.atoiAll s.data.toList = .ok v) (w : World) :
    Calls Tryz.prog 73 #[.string s] w fun e w' => e = .returned (.tuple #[.int .i64 v, .nilIface]) ∧ (w' = w ∨ ∃ t, w' = Lib.bytesWorld w 5 t) := Any.strconv_Atoi_ok Tryz.laysC172 s hmax v h w
open Go.RowKit in
theorem Tryz.strconv_Atoi_range (s : ByteArray) (hlim : s.size ≤ 281474976710656) (h : Lib.atoiAll s.data.toList = .range) (ev : Value) (w : World) (hv : w.cell? ⟨5, 0, none⟩ = some ev) (hev : ev = .nilIface ∨ ∃ te pe, ev = .iface te pe) :
    Calls Tryz.prog 73 #[.string s] w fun e w' => ∃ N, e = .returned (.tuple #[.int .i64 (Lib.atoiSat s.data.toList), .iface 140 (.pointer (some ⟨N, 0, none⟩))]) ∧ w.heap.size ≤ N ∧ w'.heap[N]? = some (.cells #[.string ⟨#[65, 116, 111, 105]⟩, .string s, ev] 157 (0, 0)) ∧ Below w.heap.size w w' := Any.strconv_Atoi_range Tryz.laysC172 s hlim h ev w hv hev
def Tryz.laysPu14_ren : Go.Shelf.Ren := ⟨fun | 14 => 61 | 16 => 70 | 17 => 71 | 19 => 81 | 20 => 82 | 21 => 83 | 22 => 84 | 23 => 85 | 24 => 86 | 25 => 95 | 27 => 74 | 26 => 96 | 28 => 92 | 29 => 103 | 30 => 87 | 31 => 88 | 32 => 89 | 33 => 90 | 35 => 98 | 34 => 97 | 36 => 99 | 37 => 100 | 38 => 101 | 39 => 104 | 40 => 105 | n => n, fun | 9 => 9 | 3 => 3 | 22 => 45 | 24 => 119 | 25 => 120 | 4 => 4 | 34 => 138 | 5 => 5 | 36 => 137 | 37 => 108 | 0 => 0 | 39 => 140 | 21 => 21 | 44 => 157 | 47 => 166 | 50 => 169 | 48 => 167 | 2 => 2 | 52 => 143 | 55 => 146 | 59 => 160 | 60 => 152 | 20 => 20 | 61 => 161 | 65 => 171 | 66 => 172 | 67 => 106 | n => n, fun | 0 => 4 | 1 => 5 | 2 => 6 | 3 => 7 | 4 => 8 | n => n⟩
theorem Tryz.laysPu14 : Go.Proofs.LaysPu.n14 Tryz.prog Tryz.laysPu14_ren := {
  mixed := by kernel_rfl
  f14 := Tryz.func61.trans (congrArg some (by kernel_rfl))
  f16 := Tryz.func70.trans (congrArg some (by kernel_rfl))
  f17 := Tryz.func71.trans (congrArg some (by kernel_rfl))
  f19 := Tryz.func81.trans (congrArg some (by kernel_rfl))
  f20 := Tryz.func82.trans (congrArg some (by kernel_rfl))
  f21 := Tryz.func83.trans (congrArg some (by kernel_rfl))
  f22 := Tryz.func84.trans (congrArg some (by kernel_rfl))
  f23 := Tryz.func85.trans (congrArg some (by kernel_rfl))
  f24 := Tryz.func86.trans (congrArg some (by kernel_rfl))
  f25 := Tryz.func95.trans (congrArg some (by kernel_rfl))
  f26 := Tryz.func96.trans (congrArg some (by kernel_rfl))
  f27 := Tryz.func74.trans (congrArg some (by kernel_rfl))
  f28 := Tryz.func92.trans (congrArg some (by kernel_rfl))
  f29 := Tryz.func103.trans (congrArg some (by kernel_rfl))
  f30 := Tryz.func87.trans (congrArg some (by kernel_rfl))
  f31 := Tryz.func88.trans (congrArg some (by kernel_rfl))
  f32 := Tryz.func89.trans (congrArg some (by kernel_rfl))
  f33 := Tryz.func90.trans (congrArg some (by kernel_rfl))
  f34 := Tryz.func97.trans (congrArg some (by kernel_rfl))
  f35 := Tryz.func98.trans (congrArg some (by kernel_rfl))
  f36 := Tryz.func99.trans (congrArg some (by kernel_rfl))
  f37 := Tryz.func100.trans (congrArg some (by kernel_rfl))
  f38 := Tryz.func101.trans (congrArg some (by kernel_rfl))
  f39 := Tryz.func104.trans (congrArg some (by kernel_rfl))
  f40 := Tryz.func105.trans (congrArg some (by kernel_rfl))
  t0 := Tryz.underlying0
  a0 := Tryz.isAgg0
  z0 := Tryz.sizeOf0
  v0 := Tryz.zeroValue0
  i0 := by kernel_rfl
  t2 := Tryz.underlying2
  a2 := Tryz.isAgg2
  z2 := Tryz.sizeOf2
  v2 := Tryz.zeroValue2
  i2 := by kernel_rfl
  t3 := Tryz.underlying3
  a3 := Tryz.isAgg3
  z3 := Tryz.sizeOf3
  v3 := Tryz.zeroValue3
  i3 := by kernel_rfl
  t4 := Tryz.underlying4
  a4 := Tryz.isAgg4
  z4 := Tryz.sizeOf4
  v4 := Tryz.zeroValue4
  i4 := by kernel_rfl
  t5 := Tryz.underlying5
  a5 := Tryz.isAgg5
  z5 := Tryz.sizeOf5
  v5 := Tryz.zeroValue5
  i5 := by kernel_rfl
  t9 := Tryz.underlying9
  a9 := Tryz.isAgg9
  z9 := Tryz.sizeOf9
  v9 := Tryz.zeroValue9
  i9 := by kernel_rfl
  t20 := Tryz.underlying20
  a20 := Tryz.isAgg20
  z20 := Tryz.sizeOf20
  v20 := Tryz.zeroValue20
  i20 := by kernel_rfl
  t21 := Tryz.underlying21
  a21 := Tryz.isAgg21
  z21 := Tryz.sizeOf21
  v21 := Tryz.zeroValue21
  i21 := by kernel_rfl
  t22 := Tryz.underlying45
  a22 := Tryz.isAgg45
  z22 := Tryz.sizeOf45
  v22 := Tryz.zeroValue45
  i22 := by kernel_rfl
  t24 := Tryz.underlying119
  a24 := Tryz.isAgg119
  z24 := Tryz.sizeOf119
  v24 := Tryz.zeroValue119
  i24 := by kernel_rfl
  t25 := Tryz.underlying120
  a25 := Tryz.isAgg120
  z25 := Tryz.sizeOf120
  v25 := Tryz.zeroValue120
  i25 := by kernel_rfl
  t34 := Tryz.underlying138
  a34 := Tryz.isAgg138
  z34 := Tryz.sizeOf138
  v34 := Tryz.zeroValue138
  i34 := by kernel_rfl
  c34 := by kernel_rfl
  t36 := Tryz.underlying137
  a36 := Tryz.isAgg137
  z36 := Tryz.sizeOf137
  v36 := Tryz.zeroValue137
  i36 := by kernel_rfl
  t37 := Tryz.underlying108
  a37 := Tryz.isAgg108
  z37 := Tryz.sizeOf108
  v37 := Tryz.zeroValue108
  i37 := by kernel_rfl
  t39 := Tryz.underlying140
  a39 := Tryz.isAgg140
  z39 := Tryz.sizeOf140
  v39 := Tryz.zeroValue140
  i39 := by kernel_rfl
  t44 := Tryz.underlying157
  a44 := Tryz.isAgg157
  z44 := Tryz.sizeOf157
  v44 := Tryz.zeroValue157
  i44 := by kernel_rfl
  t47 := Tryz.underlying166
  a47 := Tryz.isAgg166
  z47 := Tryz.sizeOf166
  v47 := Tryz.zeroValue166
  i47 := by kernel_rfl
  t48 := Tryz.underlying167
  a48 := Tryz.isAgg167
  z48 := Tryz.sizeOf167
  v48 := Tryz.zeroValue167
  i48 := by kernel_rfl
  t50 := Tryz.underlying169
  a50 := Tryz.isAgg169
  z50 := Tryz.sizeOf169
  v50 := Tryz.zeroValue169
  i50 := by kernel_rfl
  t52 := Tryz.underlying143
  a52 := Tryz.isAgg143
  z52 := Tryz.sizeOf143
  v52 := Tryz.zeroValue143
  i52 := by kernel_rfl
  t55 := Tryz.underlying146
  a55 := Tryz.isAgg146
  z55 := Tryz.sizeOf146
  v55 := Tryz.zeroValue146
  i55 := by kernel_rfl
  t59 := Tryz.underlying160
  a59 := Tryz.isAgg160
  z59 := Tryz.sizeOf160
  v59 := Tryz.zeroValue160
  i59 := by kernel_rfl
  t60 := Tryz.underlying152
  a60 := Tryz.isAgg152
  z60 := Tryz.sizeOf152
  v60 := Tryz.zeroValue152
  i60 := by kernel_rfl
  t61 := Tryz.underlying161
  a61 := Tryz.isAgg161
  z61 := Tryz.sizeOf161
  t65 := Tryz.underlying171
  a65 := Tryz.isAgg171
  z65 := Tryz.sizeOf171
  v65 := Tryz.zeroValue171
  i65 := by kernel_rfl
  t66 := Tryz.underlying172
  a66 := Tryz.isAgg172
  z66 := Tryz.sizeOf172
  v66 := Tryz.zeroValue172
  i66 := by kernel_rfl
  t67 := Tryz.underlying106
  a67 := Tryz.isAgg106
  z67 := Tryz.sizeOf106
  v67 := Tryz.zeroValue106
  i67 := by kernel_rfl
  g0 := by kernel_rfl
  m0 := by kernel_rfl
  g1 := by kernel_rfl
  m1 := by kernel_rfl
  g2 := by kernel_rfl
  m2 := by kernel_rfl
  g3 := by kernel_rfl
  m3 := by kernel_rfl
  g4 := by kernel_rfl
  m4 := by kernel_rfl }
open Go.RowKit in
theorem Tryz.strconv_ParseUint_10_at64_ok (s : ByteArray) (hmax : s.size ≤ 9223372036854775806) (u : Nat) (h : Lib.parseUintB 64 s.data.toList = .ok u) (w : World) :
    Calls Tryz.prog 61 #[.string s, .int .i64 10, .int .i64 64] w fun e w' => e = .returned (.tuple #[.int .u64 u, .nilIface]) ∧ (w' = w ∨ w' = Lib.bytesWorld w 5 s) := Any.strconv_ParseUint_10_at64_ok Tryz.laysPu14 s hmax u h w
open Go.RowKit in
theorem Tryz.strconv_ParseUint_10_at64_range (s : ByteArray) (hlim : s.size ≤ 281474976710656) (h : Lib.parseUintB 64 s.data.toList = .range) (ev : Value) (w : World) (hv : w.cell? ⟨5, 0, none⟩ = some ev) (hev : ev = .nilIface ∨ ∃ te pe, ev = .iface te pe) :
    Calls Tryz.prog 61 #[.string s, .int .i64 10, .int .i64 64] w fun e w' => ∃ N, e = .returned (.tuple #[.int .u64 18446744073709551615, .iface 140 (.pointer (some ⟨N, 0, none⟩))]) ∧ w.heap.size ≤ N ∧ w'.heap[N]? = some (.cells #[.string ⟨#[80, 97, 114, 115, 101, 85, 105, 110, 116]⟩, .string s, ev] 157 (0, 0)) ∧ Below w.heap.size w w' := Any.strconv_ParseUint_10_at64_range Tryz.laysPu14 s hlim h ev w hv hev
def Tryz.lays102_ren : Go.Shelf.Ren := ⟨fun | 102 => 35 | 209 => 46 | 207 => 59 | n => n, fun | 9 => 9 | 4 => 4 | 3 => 3 | n => n, fun | n => n⟩
theorem Tryz.lays102 : Go.Proofs.Lays.n102 Tryz.prog Tryz.lays102_ren := {
  mixed := by kernel_rfl
  f102 := Tryz.func35.trans (congrArg some (by kernel_rfl))
  f207 := Tryz.func59.trans (congrArg some (by kernel_rfl))
  f209 := Tryz.func46.trans (congrArg some (by kernel_rfl))
  t3 := Tryz.underlying3
  a3 := Tryz.isAgg3
  z3 := Tryz.sizeOf3
  v3 := Tryz.zeroValue3
  t4 := Tryz.underlying4
  a4 := Tryz.isAgg4
  z4 := Tryz.sizeOf4
  v4 := Tryz.zeroValue4
  t9 := Tryz.underlying9
  a9 := Tryz.isAgg9
  z9 := Tryz.sizeOf9
  v9 := Tryz.zeroValue9 }
open Go.RowKit Go.Lib in
theorem Tryz.strings_TrimSuffix (s p : ByteArray) (w : World) (hs : s.size ≤ 9223372036854775807) :
    Calls Tryz.prog 35 #[.string s, .string p] w fun e w' => e = .returned (.string ⟨(Lib.trimSuffix s.data.toList p.data.toList).toArray⟩) ∧ w' = w := Any.strings_TrimSuffix Tryz.lays102 s p w hs
open Go.RowKit Go.Lib in
def Tryz.lays146_ren : Go.Shelf.Ren := ⟨fun | 146 => 34 | 221 => 45 | 268 => 56 | 138 => 57 | 143 => 58 | 195 => 66 | 197 => 67 | 218 => 68 | 219 => 69 | 260 => 76 | 217 => 77 | 225 => 78 | 224 => 79 | 267 => 80 | 266 => 93 | 314 => 94 | n => n, fun | 9 => 9 | 31 => 86 | 3 => 3 | 4 => 4 | 0 => 0 | 105 => 128 | 21 => 21 | 5 => 5 | 46 => 137 | 119 => 148 | 139 => 151 | 138 => 150 | 146 => 153 | 51 => 152 | n => n, fun | 1 => 1 | 3 => 2 | 4 => 3 | n => n⟩
theorem Tryz.lays146 : Go.Proofs.Lays.n146 Tryz.prog Tryz.lays146_ren := {
  mixed := by kernel_rfl
  f138 := Tryz.func57.trans (congrArg some (by kernel_rfl))
  f143 := Tryz.func58.trans (congrArg some (by kernel_rfl))
  f146 := Tryz.func34.trans (congrArg some (by kernel_rfl))
  f195 := Tryz.func66.trans (congrArg some (by kernel_rfl))
  f197 := Tryz.func67.trans (congrArg some (by kernel_rfl))
  f217 := Tryz.func77.trans (congrArg some (by kernel_rfl))
  f218 := Tryz.func68.trans (congrArg some (by kernel_rfl))
  f219 := Tryz.func69.trans (congrArg some (by kernel_rfl))
  f221 := Tryz.func45.trans (congrArg some (by kernel_rfl))
  f224 := Tryz.func79.trans (congrArg some (by kernel_rfl))
  f225 := Tryz.func78.trans (congrArg some (by kernel_rfl))
  f260 := Tryz.func76.trans (congrArg some (by kernel_rfl))
  f266 := Tryz.func93.trans (congrArg some (by kernel_rfl))
  f267 := Tryz.func80.trans (congrArg some (by kernel_rfl))
  f268 := Tryz.func56.trans (congrArg some (by kernel_rfl))
  f314 := Tryz.func94.trans (congrArg some (by kernel_rfl))
  t0 := Tryz.underlying0
  a0 := Tryz.isAgg0
  z0 := Tryz.sizeOf0
  v0 := Tryz.zeroValue0
  t3 := Tryz.underlying3
  a3 := Tryz.isAgg3
  z3 := Tryz.sizeOf3
  v3 := Tryz.zeroValue3
  t4 := Tryz.underlying4
  a4 := Tryz.isAgg4
  z4 := Tryz.sizeOf4
  v4 := Tryz.zeroValue4
  t5 := Tryz.underlying5
  a5 := Tryz.isAgg5
  z5 := Tryz.sizeOf5
  v5 := Tryz.zeroValue5
  t9 := Tryz.underlying9
  a9 := Tryz.isAgg9
  z9 := Tryz.sizeOf9
  v9 := Tryz.zeroValue9
  t21 := Tryz.underlying21
  a21 := Tryz.isAgg21
  z21 := Tryz.sizeOf21
  v21 := Tryz.zeroValue21
  t31 := Tryz.underlying86
  a31 := Tryz.isAgg86
  z31 := Tryz.sizeOf86
  v31 := Tryz.zeroValue86
  t46 := Tryz.underlying137
  a46 := Tryz.isAgg137
  z46 := Tryz.sizeOf137
  v46 := Tryz.zeroValue137
  t51 := Tryz.underlying152
  a51 := Tryz.isAgg152
  z51 := Tryz.sizeOf152
  v51 := Tryz.zeroValue152
  t105 := Tryz.underlying128
  a105 := Tryz.isAgg128
  z105 := Tryz.sizeOf128
  v105 := Tryz.zeroValue128
  t119 := Tryz.underlying148
  a119 := Tryz.isAgg148
  z119 := Tryz.sizeOf148
  t138 := Tryz.underlying150
  a138 := Tryz.isAgg150
  z138 := Tryz.sizeOf150
  v138 := Tryz.zeroValue150
  t139 := Tryz.underlying151
  a139 := Tryz.isAgg151
  z139 := Tryz.sizeOf151
  v139 := Tryz.zeroValue151
  t146 := Tryz.underlying153
  a146 := Tryz.isAgg153
  z146 := Tryz.sizeOf153
  v146 := Tryz.zeroValue153
  g1 := by kernel_rfl
  g3 := by kernel_rfl
  g4 := by kernel_rfl }
open Go.RowKit Go.Lib in
theorem Tryz.strings_Split (s sep : ByteArray) (m : Int) (w : World) (hs : s.size < 4294967281) (hm : w.cell? ⟨1, 0, none⟩ = some (.int .i64 m)) (h1 : 1 ≤ sep.size) :
    Calls Tryz.prog 34 #[.string s, .string sep] w fun e w' =>
      e = .returned (.slice (some ⟨w.heap.size, 0, none⟩) (Lib.countB s sep + 1) (Lib.countB s sep + 1)) ∧ w' = w.alloc (.cells ((Lib.splitB sep 0 (Lib.countB s sep) s).map Value.string).toArray 9) := Any.strings_Split Tryz.lays146 (by kernel_rfl) s sep m w hs hm h1
def Tryz.laysM146_ren : Go.Shelf.Ren := ⟨fun | 146 => 34 | 221 => 45 | 268 => 56 | 138 => 57 | 143 => 58 | 195 => 66 | 197 => 67 | 218 => 68 | 219 => 69 | 260 => 76 | 217 => 77 | 225 => 78 | 224 => 79 | 267 => 80 | 266 => 93 | 314 => 94 | n => n, fun | 9 => 9 | 31 => 86 | 3 => 3 | 4 => 4 | 0 => 0 | 105 => 128 | 21 => 21 | 5 => 5 | 46 => 137 | 119 => 148 | 139 => 151 | 138 => 150 | 146 => 153 | 51 => 152 | n => n, fun | 1 => 1 | 3 => 2 | 4 => 3 | n => n⟩
theorem Tryz.laysM146 : Go.Proofs.LaysM.n146 Tryz.prog Tryz.laysM146_ren := {
  mixed := by kernel_rfl
  f138 := Tryz.func57.trans (congrArg some (by kernel_rfl))
  f143 := Tryz.func58.trans (congrArg some (by kernel_rfl))
  f146 := Tryz.func34.trans (congrArg some (by kernel_rfl))
  f195 := Tryz.func66.trans (congrArg some (by kernel_rfl))
  f197 := Tryz.func67.trans (congrArg some (by kernel_rfl))
  f217 := Tryz.func77.trans (congrArg some (by kernel_rfl))
  f218 := Tryz.func68.trans (congrArg some (by kernel_rfl))
  f219 := Tryz.func69.trans (congrArg some (by kernel_rfl))
  f221 := Tryz.func45.trans (congrArg some (by kernel_rfl))
  f224 := Tryz.func79.trans (congrArg some (by kernel_rfl))
  f225 := Tryz.func78.trans (congrArg some (by kernel_rfl))
  f260 := Tryz.func76.trans (congrArg some (by kernel_rfl))
  f266 := Tryz.func93.trans (congrArg some (by kernel_rfl))
  f267 := Tryz.func80.trans (congrArg some (by kernel_rfl))
  f268 := Tryz.func56.trans (congrArg some (by kernel_rfl))
  f314 := Tryz.func94.trans (congrArg some (by kernel_rfl))
  t0 := Tryz.underlying0
  a0 := Tryz.isAgg0
  z0 := Tryz.sizeOf0
  v0 := Tryz.zeroValue0
  t3 := Tryz.underlying3
  a3 := Tryz.isAgg3
  z3 := Tryz.sizeOf3
  v3 := Tryz.zeroValue3
  t4 := Tryz.underlying4
  a4 := Tryz.isAgg4
  z4 := Tryz.sizeOf4
  v4 := Tryz.zeroValue4
  t5 := Tryz.underlying5
  a5 := Tryz.isAgg5
  z5 := Tryz.sizeOf5
  v5 := Tryz.zeroValue5
  t9 := Tryz.underlying9
  a9 := Tryz.isAgg9
  z9 := Tryz.sizeOf9
  v9 := Tryz.zeroValue9
  t21 := Tryz.underlying21
  a21 := Tryz.isAgg21
  z21 := Tryz.sizeOf21
  v21 := Tryz.zeroValue21
  t31 := Tryz.underlying86
  a31 := Tryz.isAgg86
  z31 := Tryz.sizeOf86
  v31 := Tryz.zeroValue86
  t46 := Tryz.underlying137
  a46 := Tryz.isAgg137
  z46 := Tryz.sizeOf137
  v46 := Tryz.zeroValue137
  t51 := Tryz.underlying152
  a51 := Tryz.isAgg152
  z51 := Tryz.sizeOf152
  v51 := Tryz.zeroValue152
  t105 := Tryz.underlying128
  a105 := Tryz.isAgg128
  z105 := Tryz.sizeOf128
  v105 := Tryz.zeroValue128
  t119 := Tryz.underlying148
  a119 := Tryz.isAgg148
  z119 := Tryz.sizeOf148
  t138 := Tryz.underlying150
  a138 := Tryz.isAgg150
  z138 := Tryz.sizeOf150
  v138 := Tryz.zeroValue150
  t139 := Tryz.underlying151
  a139 := Tryz.isAgg151
  z139 := Tryz.sizeOf151
  v139 := Tryz.zeroValue151
  t146 := Tryz.underlying153
  a146 := Tryz.isAgg153
  z146 := Tryz.sizeOf153
  v146 := Tryz.zeroValue153
  g1 := by kernel_rfl
  g3 := by kernel_rfl
  g4 := by kernel_rfl
  i0 := by kernel_rfl
  i3 := by kernel_rfl
  i4 := by kernel_rfl
  i5 := by kernel_rfl
  i9 := by kernel_rfl
  i21 := by kernel_rfl
  i31 := by kernel_rfl
  i46 := by kernel_rfl
  i51 := by kernel_rfl
  i105 := by kernel_rfl
  i138 := by kernel_rfl
  i139 := by kernel_rfl
  i146 := by kernel_rfl
  m1 := by kernel_rfl
  s1_3 := fun w h => Go.Proofs.cell_of_shapedOpen_int (zero := #[.int .i64 0]) (t := 3) h (of_decide_eq_true (by kernel_rfl)) (by kernel_rfl) rfl (by kernel_rfl) (by kernel_rfl) Tryz.underlying3
  m3 := by kernel_rfl
  m4 := by kernel_rfl }
open Go.RowKit Go.Lib in
theorem Tryz.strings_Split_shaped (s sep : ByteArray) (w : World) (h : w.ShapedOpen Tryz.prog) (hs : s.size < 4294967281) (h1 : 1 ≤ sep.size) :
    Calls Tryz.prog 34 #[.string s, .string sep] w fun e w' =>
      e = .returned (.slice (some ⟨w.heap.size, 0, none⟩) (Lib.countB s sep + 1) (Lib.countB s sep + 1)) ∧ w' = w.alloc (.cells ((Lib.splitB sep 0 (Lib.countB s sep) s).map Value.string).toArray 9) := Any.strings_Split_shaped Tryz.laysM146 s sep w h hs h1
end Go.Proofs

namespace Go.Proofs.YtgfmbkbiingagaaGreatDoor
set_option linter.unusedVariables false
set_option linter.unusedSimpArgs false
open Go.RowKit

/-- A variable's cells hold these values. -/
def TabAt (w : World) (g : Nat) (vs : List Value) : Prop := ∀ j v, vs[j]? = some v → w.cell? ⟨g, j, none⟩ = some v
/-- Besides: a variable holds a table, and nobody writes it. -/
def Glob.tab (Γ : Glob) (g : Nat) (vs : List Value) (h1 : vs.all Value.oneCell' = true) : Glob :=
  ⟨fun S w => Γ.G S w ∧ TabAt w g vs ∧ S g, fun hw hS ⟨h, h2, h3⟩ => ⟨Γ.mono hw hS h, fun j v hj => by rw [cell_same (hw _ h3)]; exact h2 j v hj, hS _ h3⟩, Γ.kr,
  fun k => match Nat.beq k g with
    | true => some (vs.map .v)
    | false => Γ.gl k,
  fun {S w k cs} hG hg => by
    obtain ⟨hG, h2, h3⟩ := hG
    split at hg
    · rename_i hb
      obtain rfl := Nat.eq_of_beq_eq_true hb
      cases hg
      refine ⟨fun j => vs.getD j undef, fun _ => h3, fun j d hj => ?_⟩
      rw [List.getElem?_map] at hj
      obtain ⟨v, h4, rfl⟩ := Option.map_eq_some_iff.1 hj
      have : vs.getD j undef = v := by rw [List.getD, h4]; rfl
      dsimp only
      rw [this]
      exact ⟨h2 j v h4, Imm.v (List.all_eq_true.1 h1 v (List.mem_of_getElem? h4))⟩
    · exact Γ.gok hG hg⟩
/-- Besides: a variable holds some int. -/
def Glob.num (Γ : Glob) (g : Nat) : Glob :=
  ⟨fun S w => Γ.G S w ∧ (∃ m, w.cell? ⟨g, 0, none⟩ = some (.int .i64 m)) ∧ S g, fun hw hS ⟨h, ⟨m, h2⟩, h3⟩ => ⟨Γ.mono hw hS h, ⟨m, by rw [cell_same (hw _ h3)]; exact h2⟩, hS _ h3⟩, Γ.kr, Γ.gl, fun ⟨hG, _⟩ hg => Γ.gok hG hg⟩
theorem CallsA.tab {P : Program} {Γ : Glob} {g : Nat} {vs : List Value} {h1 : vs.all Value.oneCell' = true} {f : FuncId} {xs : List T1} {r : TV} (h : CallsA P Γ f xs r) : CallsA P (Γ.tab g vs h1) f xs r := ⟨h.1, fun S w vs hS hG hv => h.2 S w vs hS hG.1 hv⟩
theorem CallsA.num {P : Program} {Γ : Glob} {g : Nat} {f : FuncId} {xs : List T1} {r : TV} (h : CallsA P Γ f xs r) : CallsA P (Γ.num g) f xs r := ⟨h.1, fun S w vs hS hG hv => h.2 S w vs hS hG.1 hv⟩
end Go.Proofs.YtgfmbkbiingagaaGreatDoor

namespace Go.Proofs.YtgfmbkbiingagaaGreatDoor
set_option linter.unusedVariables false
set_option linter.unusedSimpArgs false
open Go.RowKit Go.Sort Go.Lib
set_option maxRecDepth 100000

set_option maxRecDepth 100000

set_option maxHeartbeats 6400000 in
theorem ifmt (n : Nat) (h1 : n < 18446744073709551616) (w : World) (htab : Lib.TabIs Tryz.prog w "internal/strconv.uint64pow10" .u64 Lib.pow10Tab) :
    Calls Tryz.prog 72 #[.int .u64 n, .int .i64 10] w fun e w' => e = .returned (.string ⟨(Lib.decDigits n).toArray⟩) ∧ Below w.heap.size w w' := by
  by_cases hs : n < 100
  · have hw : IntKind.i64.wrap (n : Int) = n := by rw [IntKind.wrap_i64]; omega
    go_enter Tryz.func72, Tryz.ntmps72
    go_wp2_with (go_at_call 87; refine (Tryz.internal_strconv_small n hs _).mono ?_; rintro e w' ⟨rfl, rfl⟩)
    go_ret
    exact ⟨rfl, Below.refl _ _⟩
  · have hu1 : 1 ≤ n := by omega
    have hnd20 : Lib.nDigits n ≤ 20 := by have := Lib.numDigits_eq n hu1 h1; split at this <;> omega
    have hb3 : Lib.nDigits n ≤ 24 := by omega
    have hal : Tryz.prog.arrayLen 143 = 24 := by kernel_rfl
    have hsl1 : ∀ W, (Instr.sliceAt 143 (.pointer (some ⟨w.heap.size, 0, none⟩)) none (some (.int .i64 (Lib.nDigits n : Int))) none).run Tryz.prog W = .ok (.slice (some ⟨w.heap.size, 0, none⟩) (Lib.nDigits n) 24) W := fun W => by
      rw [run_sliceAt_array_h W 143 ⟨w.heap.size, 0, none⟩ (by kernel_rfl) .i64 (Lib.nDigits n : Int) (by omega) (by rw [hal]; omega)]
      go_simp
    have hH0 : Holds (fun (b : UInt8) => Value.int .u8 (b.toNat : Int)) (w.alloc (.cells Lib.zeros24 143)) w.heap.size 0 (Array.replicate (Lib.nDigits n) 0) := fun j hj => by
      have hj' : j < Lib.nDigits n := by simpa using hj
      refine ⟨?_, World.frozen?_alloc_new _ _ _ _⟩
      rw [World.cell?_alloc_new, Lib.zeros24_at _ (by omega), getElem!_pos _ j hj]
      simp
    have hfmt := Tryz.internal_strconv_formatBase10 w.heap.size 0 24 n (Array.replicate (Lib.nDigits n) 0) (w.alloc (.cells Lib.zeros24 143)) hH0 (by rw [Array.size_replicate]; exact Lib.lt_pow_nDigits n) h1 (by rw [Array.size_replicate]; omega)
    rw [Array.size_replicate] at hfmt
    have HH0 := Lib.hid hH0
    clear hH0 hal
    go_enter Tryz.func72, Tryz.ntmps72
    go_wp2_with (first
      | (go_at_call 88; refine (Tryz.internal_strconv_numDigits n hu1 h1 _ (Lib.tabIs_alloc htab _)).mono ?_; rintro e w' ⟨rfl, rfl⟩))
    go_at_call 89
    refine hfmt.mono ?_
    rintro e w' ⟨rfl, k, v', dk, rfl, hF⟩
    have hcv : (convert 108 9 (.slice (some ⟨w.heap.size, 0, none⟩) (Lib.nDigits n) 24)).run Tryz.prog ((putRow (fun (b : UInt8) => Value.int .u8 (b.toNat : Int)) (w.alloc (.cells Lib.zeros24 143)) w.heap.size 0 dk).drewN k) = .ok (.string ⟨(Lib.decDigits n).toArray⟩) ((putRow (fun (b : UInt8) => Value.int .u8 (b.toNat : Int)) (w.alloc (.cells Lib.zeros24 143)) w.heap.size 0 dk).drewN k) := by
      have h := run_convert_bytes_back (P := Tryz.prog) ((putRow (fun (b : UInt8) => Value.int .u8 (b.toNat : Int)) (w.alloc (.cells Lib.zeros24 143)) w.heap.size 0 dk).drewN k) 108 9 5 ⟨w.heap.size, 0, none⟩ 24 (Lib.decDigits n) (by kernel_rfl) (by kernel_rfl) (by kernel_rfl) (fun j hj => by
        rw [Lib.row_is_numeral hF j hj, Lib.add_plain, World.cell?_drewN]
        exact cell?_putRow (fun (b : UInt8) => Value.int .u8 (b.toNat : Int)) _ w.heap.size 0 _ dk HH0.out (by rw [hF.size, Array.size_replicate]) j (by rw [hF.size]; rw [Lib.decDigits_length] at hj; exact hj))
      rw [Lib.decDigits_length] at h
      exact h
    go_wp2
    go_ret
    obtain ⟨os, eo⟩ := Lib.fin_at w (.cells Lib.zeros24 143) dk k 0
    rw [eo]
    exact ⟨rfl, Lib.below_grow _ _ (Nat.le_refl _) _ _⟩
theorem fmt (n : Nat) (h1 : n < 18446744073709551616) (w : World) (htab : Lib.TabIs Tryz.prog w "internal/strconv.uint64pow10" .u64 Lib.pow10Tab) :
    Calls Tryz.prog 62 #[.int .u64 n, .int .i64 10] w fun e w' => e = .returned (.string ⟨(Lib.decDigits n).toArray⟩) ∧ Below w.heap.size w w' := by
  go_enter Tryz.func62, Tryz.ntmps62
  go_wp2_with (go_at_call 72; refine (ifmt n h1 _ htab).mono ?_; rintro e w' ⟨rfl, hb⟩)
  go_ret
  exact ⟨rfl, hb⟩
/-- What is known of the program's variables: the powers of ten, and the errors of strconv. -/
def ErrAt (w : World) (b : Nat) : Prop := ∃ ev, w.cell? ⟨b, 0, none⟩ = some ev ∧ (ev = .nilIface ∨ ∃ te pe, ev = .iface te pe)
def ΓS : Glob := ⟨fun S w => (Lib.TabIs Tryz.prog w "internal/strconv.uint64pow10" .u64 Lib.pow10Tab ∧ ∀ g, Tryz.prog.globalNamed "internal/strconv.uint64pow10" = some g → S g) ∧ (ErrAt w 4 ∧ S 4) ∧ ErrAt w 5 ∧ S 5,
  fun {S S' w w'} hw hS ⟨⟨h1, h2⟩, ⟨h3, h4⟩, h5, h6⟩ => ⟨⟨by
    unfold Lib.TabIs World.var? at h1 ⊢
    cases hg : Tryz.prog.globalNamed "internal/strconv.uint64pow10" with
    | none => rw [hg] at h1; cases h1
    | some g =>
      rw [hg] at h1
      simp only [Option.bind_some] at h1 ⊢
      rw [hw g (h2 g hg)]
      exact h1, fun g hg => hS g (h2 g hg)⟩, ⟨by
    obtain ⟨ev, he, hk⟩ := h3
    exact ⟨ev, by rw [cell_same (hw _ h4)]; exact he, hk⟩, hS _ h4⟩, by
    obtain ⟨ev, he, hk⟩ := h5
    exact ⟨ev, by rw [cell_same (hw _ h6)]; exact he, hk⟩, hS _ h6⟩, [], fun _ => none, fun _ h => by cases h⟩
theorem one_arg {S : Nat → Prop} {w : World} {a : T1} {vs : List Value} (h : All2 (V1 ι0 S w) [a] vs) : ∃ u, vs = [u] ∧ V1 ι0 S w a u := by
  obtain ⟨u, rfl, e⟩ := h.one_left
  exact ⟨u, rfl, e⟩
theorem two_args {S : Nat → Prop} {w : World} {a b : T1} {vs : List Value} (h : All2 (V1 ι0 S w) [a, b] vs) : ∃ u v, vs = [u, v] ∧ V1 ι0 S w a u ∧ V1 ι0 S w b v := by
  obtain ⟨u, vs, rfl, e0, h⟩ := h.cons_left
  obtain ⟨v, rfl, e1⟩ := h.one_left
  exact ⟨u, v, rfl, e0, e1⟩
theorem open_v {S : Nat → Prop} {w : World} {v u : Value} (h : V1 ι0 S w (c1 (.v v)) u) : u = v := by
  have h' : Imm S w _ u := h
  cases h'; rfl
theorem fmt_c (n : Nat) (h1 : n < 18446744073709551616) : CallsA Tryz.prog ΓS 62 [c1 (du n), c1 (di 10)] (.o (c1 (ds ⟨(Lib.decDigits n).toArray⟩))) :=
  ⟨⟨_, Tryz.func62, by kernel_rfl, rfl⟩, fun S w vs hS hG hvs => by
    obtain ⟨u, v, rfl, e1, e2⟩ := two_args hvs
    obtain rfl := open_v e1
    obtain rfl := open_v e2
    exact (fmt n h1 w hG.1.1).mono fun e w' ⟨he, hb⟩ => by subst he; exact flat_end hS hb (Imm.v rfl)⟩
/-- What ParseUint answers, at base 10: the number, and is there an error? -/
def puT (s : ByteArray) : TV := match Lib.parseUintB 64 s.data.toList with
  | .ok u => .tup [c1 (du u), c1 (.v .nilIface)]
  | .range => .tup [c1 (du 18446744073709551615), c1 .err]
  | _ => .tup [c1 (du 0), c1 .err]
theorem three_args {S : Nat → Prop} {w : World} {a b c : T1} {vs : List Value} (h : All2 (V1 ι0 S w) [a, b, c] vs) : ∃ u v x, vs = [u, v, x] ∧ V1 ι0 S w a u ∧ V1 ι0 S w b v ∧ V1 ι0 S w c x := by
  obtain ⟨u, vs, rfl, e0, h⟩ := h.cons_left
  obtain ⟨v, x, rfl, e1, e2⟩ := two_args h
  exact ⟨u, v, x, rfl, e0, e1, e2⟩
theorem pu_c (s : ByteArray) (hs : s.size ≤ 281474976710656) : CallsA Tryz.prog ΓS 61 [c1 (ds s), c1 (di 10), c1 (di 64)] (puT s) :=
  ⟨⟨_, Tryz.func61, by kernel_rfl, rfl⟩, fun S w vs hS hG hvs => by
    obtain ⟨u, v, x, rfl, e1, e2, e3⟩ := three_args hvs
    obtain rfl := open_v e1
    obtain rfl := open_v e2
    obtain rfl := open_v e3
    unfold puT
    obtain ⟨-, ⟨⟨ev, h1, h2⟩, -⟩, ⟨er, h3, h4⟩, -⟩ := hG
    cases hp : Lib.parseUintB 64 s.data.toList with
    | ok u =>
      refine (Tryz.strconv_ParseUint_10_at64_ok s (by omega) u hp w).mono fun e w' ⟨he, hb⟩ => ?_
      subst he
      exact flat_end hS (by rcases hb with rfl | rfl; exact Below.refl _ _; exact Lib.bytesWorld_below _ _ _) ⟨[_, _], rfl, .cons (Imm.v rfl) (.cons (Imm.v rfl) .nil)⟩
    | range =>
      refine (Tryz.strconv_ParseUint_10_at64_range s hs hp er w h3 h4).mono fun e w' ⟨N, he, _, _, hb⟩ => ?_
      subst he
      exact flat_end hS hb ⟨[_, _], rfl, .cons (Imm.v rfl) (.cons Imm.err .nil)⟩
    | _ =>
      refine (Any.strconv_ParseUint_10_at64_syntax Tryz.laysPu14 s hs hp ev w h1 h2).mono fun e w' ⟨N, he, _, _, hb⟩ => ?_
      subst he
      exact flat_end hS hb ⟨[_, _], rfl, .cons (Imm.v rfl) (.cons Imm.err .nil)⟩⟩
abbrev bs (l : List UInt8) : ByteArray := ⟨l.toArray⟩
theorem bs_app (l m : List UInt8) : bs l ++ bs m = bs (l ++ m) := by
  apply ByteArray.ext
  rw [ByteArray.data_append]
  simp
theorem bs_size (l : List UInt8) : (bs l).size = l.length := by simp [ByteArray.size]
theorem bs_list (s : ByteArray) : bs s.data.toList = s := by simp [bs]
/-- The table of the Ops, cell by cell. -/
def shapesV : List Value := opsL.flatMap fun r => [.string (bs r.1), .int .i64 r.2.1, .int .i64 r.2.2.1, .int .i64 r.2.2.2]
def ΓC : Glob := (ΓS.num 1).tab 0 shapesV (by decide)
theorem CallsA.gC {f : FuncId} {xs : List T1} {r : TV} (h : CallsA Tryz.prog ΓS f xs r) : CallsA Tryz.prog ΓC f xs r := h.num.tab
theorem itoa_c (z : Int) (h1 : -9223372036854775808 ≤ z) (h2 : z ≤ 9223372036854775807) : CallsA Tryz.prog ΓC 74 [c1 (di z)] (Tstr (bs (Lib.itoa z))) :=
  ⟨⟨_, Tryz.func74, by kernel_rfl, rfl⟩, fun S w vs hS hG hvs => by
    obtain ⟨u, rfl, e1⟩ := one_arg hvs
    obtain rfl := open_v e1
    refine (Tryz.strconv_Itoa z h1 h2 w hG.1.1.1.1).mono fun e w' ⟨he, k, os, hw⟩ => ?_
    subst he; subst hw
    exact flat_end hS (Lib.below_grow _ _ (Nat.le_refl _) _ _) (Imm.v rfl)⟩
/-- What Atoi answers: the number, and is there an error? -/
def atT (s : List UInt8) : TV := match Lib.atoiAll s with
  | .ok u => .tup [c1 (di u), c1 (.v .nilIface)]
  | .range => .tup [c1 (di (Lib.atoiSat s)), c1 .err]
  | _ => .tup [c1 (di 0), c1 .err]
theorem atoi_c (s : ByteArray) (hs : s.size ≤ 1048576) : CallsA Tryz.prog ΓC 73 [c1 (ds s)] (atT s.data.toList) :=
  ⟨⟨_, Tryz.func73, by kernel_rfl, rfl⟩, fun S w vs hS hG hvs => by
    obtain ⟨u, rfl, e1⟩ := one_arg hvs
    obtain rfl := open_v e1
    unfold atT
    obtain ⟨-, ⟨⟨ev, h1, h2⟩, -⟩, ⟨er, h3, h4⟩, -⟩ := hG.1.1
    cases hp : Lib.atoiAll s.data.toList with
    | ok u =>
      refine (Tryz.strconv_Atoi_ok s (by omega) u hp w).mono fun e w' ⟨he, hb⟩ => ?_
      subst he
      exact flat_end hS (by rcases hb with rfl | ⟨t, rfl⟩; exact Below.refl _ _; exact Lib.bytesWorld_below _ _ _) ⟨[_, _], rfl, .cons (Imm.v rfl) (.cons (Imm.v rfl) .nil)⟩
    | range =>
      refine (Tryz.strconv_Atoi_range s (by omega) hp er w h3 h4).mono fun e w' ⟨N, he, _, _, hb⟩ => ?_
      subst he
      exact flat_end hS hb ⟨[_, _], rfl, .cons (Imm.v rfl) (.cons Imm.err .nil)⟩
    | _ =>
      refine (Any.strconv_Atoi_syntax Tryz.laysC172 s (by omega) hp ev w h1 h2).mono fun e w' ⟨N, he, _, _, hb⟩ => ?_
      subst he
      exact flat_end hS hb ⟨[_, _], rfl, .cons (Imm.v rfl) (.cons Imm.err .nil)⟩⟩
theorem trim_c (Γ : Glob) (s p : List UInt8) (hs : s.length ≤ 1048576) : CallsA Tryz.prog Γ 35 [c1 (ds (bs s)), c1 (ds (bs p))] (Tstr (bs (Lib.trimSuffix s p))) :=
  ⟨⟨_, Tryz.func35, by kernel_rfl, rfl⟩, fun S w vs hS hG hvs => by
    obtain ⟨u, v, rfl, e1, e2⟩ := two_args hvs
    obtain rfl := open_v e1
    obtain rfl := open_v e2
    refine (Tryz.strings_TrimSuffix (bs s) (bs p) w (by rw [bs_size]; omega)).mono fun e w' ⟨he, hw⟩ => ?_
    subst he; subst hw
    exact flat_end hS (Below.refl _ _) (Imm.v rfl)⟩
theorem flat1 {α : Type} (f : α → D) : ∀ K : List α, (K.map fun x => [f x]).flatten = K.map f
  | [] => rfl
  | x :: K => by rw [List.map_cons, List.flatten_cons, flat1 f K]; rfl
abbrev dss (K : List (List UInt8)) : D := .sl 1 (K.map fun x => [ds (bs x)])
theorem split_c (s : List UInt8) (c : UInt8) (hs : s.length ≤ 1048576) : CallsA Tryz.prog ΓC 34 [c1 (ds (bs s)), c1 (ds (bs [c]))] (.o (c1 (dss (cutL c s)))) :=
  ⟨⟨_, Tryz.func34, by kernel_rfl, rfl⟩, fun S w vs hS hG hvs => by
    obtain ⟨u, v, rfl, e1, e2⟩ := two_args hvs
    obtain rfl := open_v e1
    obtain rfl := open_v e2
    obtain ⟨⟨-, ⟨m, hm⟩, -⟩, -⟩ := hG
    have hone : 1 ≤ (bs [c]).size := Nat.le_refl 1
    refine (Tryz.strings_Split (bs s) (bs [c]) m w (by rw [bs_size]; omega) hm hone).mono fun e w' ⟨he, hw⟩ => ?_
    subst he; subst hw
    have hl := Lib.splitB_all (bs [c]) hone 0 _ (bs s) rfl
    have hd := Lib.splitB_data (bs [c]) 0 (Lib.countB (bs s) (bs [c])) (bs s)
    generalize Lib.splitB (bs [c]) 0 (Lib.countB (bs s) (bs [c])) (bs s) = B at hl hd
    have hk : Lib.splitK [c] 0 (Lib.count s [c]) s = cutL c s := split_cut c s
    have hd : B.map (·.data.toList) = cutL c s := by rw [← hk]; exact hd
    have hB : B = (cutL c s).map bs := by
      rw [← hd, List.map_map]
      conv => lhs; rw [← List.map_id B]
      exact List.map_congr_left fun x _ => (bs_list x).symm
    rw [← hl]
    subst hB
    rw [List.length_map]
    obtain ⟨K, hK⟩ : ∃ K, cutL c s = K := ⟨_, rfl⟩
    rw [hK]
    have hflat := flat1 (fun x => ds (bs x)) K
    have hrl : (K.map fun x => [ds (bs x)]).length = K.length := List.length_map _
    have hb := Below.alloc (Below.refl w.heap.size w) (Nat.le_refl _) (.cells ((K.map bs).map Value.string).toArray 9)
    refine ⟨_, fun b => S b ∨ b = w.heap.size, rfl, hb, fun _ h => .inl h, fun b h => h.imp id (fun h => Nat.le_of_eq h.symm), fun b h => ?_, ?_⟩
    · rcases h with h | h
      · exact Nat.lt_of_lt_of_le (hS b h) hb.size
      · subst h; show _ < (w.heap.push _).size; rw [Array.size_push]; exact Nat.lt_succ_self _
    · have key := @Imm.sl (fun b => S b ∨ b = w.heap.size) (w.alloc (.cells ((K.map bs).map Value.string).toArray 9)) 1 (K.map fun x => [ds (bs x)]) w.heap.size 0 K.length (fun j => .string (bs (K.getD j []))) (.inr rfl) (Nat.le_of_eq hrl) (fun r hr => by obtain ⟨x, -, rfl⟩ := List.mem_map.1 hr; rfl)
        (fun j d hj => by
          rw [hflat, List.getElem?_map] at hj
          obtain ⟨x, hx, rfl⟩ := Option.map_eq_some_iff.1 hj
          rw [Nat.zero_add, World.cell?_alloc_new, List.getElem?_toArray, List.getElem?_map, List.getElem?_map, hx]
          have : K.getD j [] = x := by rw [List.getD, hx]; rfl
          rw [this]; rfl)
        (fun j d hj => by
          rw [hflat, List.getElem?_map] at hj
          obtain ⟨x, hx, rfl⟩ := Option.map_eq_some_iff.1 hj
          have : K.getD j [] = x := by rw [List.getD, hx]; rfl
          rw [this]
          exact Imm.v rfl)
      rw [hrl] at key
      exact key⟩
end Go.Proofs.YtgfmbkbiingagaaGreatDoor

namespace Go.Proofs.YtgfmbkbiingagaaGreatDoor
set_option linter.unusedVariables false
set_option linter.unusedSimpArgs false
open Go.RowKit
set_option maxRecDepth 100000

abbrev dint (l : List Int) : D := .sl 1 (l.map fun z => [di z])
abbrev shD (r : OpR) : List D := [ds (bs r.1), di r.2.1, di r.2.2.1, di r.2.2.2]
abbrev inD (x : IN) : List D := [di x.o, di x.a, di x.b, du x.n]
abbrev fnD (f : FN) : List D := [di f.e, di f.s, di f.p]
theorem flat_drop {α β : Type} {f : α → List β} {k : Nat} (hf : ∀ a, (f a).length = k) : ∀ (i : Nat) (l : List α), (l.flatMap f).drop (i * k) = (l.drop i).flatMap f
  | 0, l => by simp
  | i + 1, [] => by simp
  | i + 1, a :: l => by
    rw [List.flatMap_cons, List.drop_succ_cons, Nat.add_mul, Nat.one_mul, Nat.add_comm (i * k) k, ← List.drop_drop, List.drop_left' (hf a), flat_drop hf i l]
theorem ops_drop {k : Nat} (h : k < 36) : opsL.drop k = opsL.getD k noneR :: opsL.drop (k + 1) := by
  have hl : opsL.length = 36 := by decide
  rw [List.drop_eq_getElem_cons (by omega)]
  congr 1
  rw [List.getD, List.getElem?_eq_getElem (by omega)]
  rfl
theorem shapes_at {k : Nat} (h : k < 36) : (shapesV.map D.v).drop (k * 4) = ds (bs (opsL.getD k noneR).1) :: di (opsL.getD k noneR).2.1 :: di (opsL.getD k noneR).2.2.1 :: di (opsL.getD k noneR).2.2.2 :: (shapesV.map D.v).drop ((k + 1) * 4) := by
  unfold shapesV
  rw [← List.map_drop, ← List.map_drop, flat_drop (k := 4) (fun _ => rfl), flat_drop (k := 4) (fun _ => rfl), ops_drop h, List.flatMap_cons]
  rfl
theorem shape_c (o : Int) : CallsA Tryz.prog ΓC 55 [c1 (di o)] (.o (gD (shD (opF o)))) := by
  unfold opF
  by_cases h : 0 ≤ o ∧ o < 36
  · rw [if_pos h]
    have h1 := shapes_at (k := o.toNat) (by omega)
    generalize opsL.getD o.toNat noneR = r at *
    refine fn_rule (C := ⟨Tryz.prog, layF, Tryz.f55.ntmps, ΓC, 0, [], []⟩) layF_ok mixed Tryz.func55 rfl (by kernel_rfl) rfl rfl rfl ?_
    repeat' (first | refine ex_true (by first | decide | omega | assumption | (with_reducible exact rfl)) ?_ | refine ex_false (by first | decide | omega | assumption | exact (fun h => h rfl)) ?_ | refine ex_dec (fun _ => ?_) (fun _ => ?_) | refine ex_u8 _ rfl (by omega) (by omega) ?_ | refine ex_i64 _ rfl (by omega) (by omega) ?_ | refine ex_u64 _ rfl (by omega) (by omega) ?_ | refine and_mk (by first | omega | (with_reducible rfl) | (show drawOk _ _ _ = true; kernel_rfl)) ?_ | refine and_mk ⟨_, rfl⟩ ?_ | refine ex_is _ (List.length_map _) ?_ | refine ex_is _ List.length_nil ?_ | fail "no step")
    refine ex_is _ h1 ?_
    repeat' (first | refine ex_true (by first | decide | omega | assumption | (with_reducible exact rfl)) ?_ | refine ex_false (by first | decide | omega | assumption | exact (fun h => h rfl)) ?_ | refine ex_dec (fun _ => ?_) (fun _ => ?_) | refine ex_u8 _ rfl (by omega) (by omega) ?_ | refine ex_i64 _ rfl (by omega) (by omega) ?_ | refine ex_u64 _ rfl (by omega) (by omega) ?_ | refine and_mk (by first | omega | (with_reducible rfl) | (show drawOk _ _ _ = true; kernel_rfl)) ?_ | refine and_mk ⟨_, rfl⟩ ?_ | refine ex_is _ (List.length_map _) ?_ | refine ex_is _ List.length_nil ?_ | fail "no step")
    exact TLe.rfl
  · rw [if_neg h]
    refine fn_rule (C := ⟨Tryz.prog, layF, Tryz.f55.ntmps, ΓC, 0, [], []⟩) layF_ok mixed Tryz.func55 rfl (by kernel_rfl) rfl rfl rfl ?_
    repeat' (first | refine ex_true (by first | decide | omega | assumption | (with_reducible exact rfl)) ?_ | refine ex_false (by first | decide | omega | assumption | exact (fun h => h rfl)) ?_ | refine ex_dec (fun _ => ?_) (fun _ => ?_) | refine ex_u8 _ rfl (by omega) (by omega) ?_ | refine ex_i64 _ rfl (by omega) (by omega) ?_ | refine ex_u64 _ rfl (by omega) (by omega) ?_ | refine and_mk (by first | omega | (with_reducible rfl) | (show drawOk _ _ _ = true; kernel_rfl)) ?_ | refine and_mk ⟨_, rfl⟩ ?_ | refine ex_is _ (List.length_map _) ?_ | refine ex_is _ List.length_nil ?_ | fail "no step")
    all_goals exact TLe.rfl
theorem name_c (o : Int) : CallsA Tryz.prog ΓC 53 [c1 (di o)] (Tstr (bs (opF o).1)) := by
  refine fn_rule (C := ⟨Tryz.prog, layF, Tryz.f53.ntmps, ΓC, 0, [], []⟩) layF_ok mixed Tryz.func53 rfl (by kernel_rfl) rfl rfl rfl ?_
  repeat' (first | refine ex_call (shape_c o) ?_ | refine ex_true (by first | decide | omega | assumption | (with_reducible exact rfl)) ?_ | refine ex_false (by first | decide | omega | assumption | exact (fun h => h rfl)) ?_ | refine ex_dec (fun _ => ?_) (fun _ => ?_) | refine ex_u8 _ rfl (by omega) (by omega) ?_ | refine ex_i64 _ rfl (by omega) (by omega) ?_ | refine ex_u64 _ rfl (by omega) (by omega) ?_ | refine and_mk (by first | omega | (with_reducible rfl) | (show drawOk _ _ _ = true; kernel_rfl)) ?_ | refine and_mk ⟨_, rfl⟩ ?_ | refine ex_is _ (List.length_map _) ?_ | refine ex_is _ List.length_nil ?_ | fail "no step")
  exact TLe.rfl
theorem takes_c (o : Int) : CallsA Tryz.prog ΓC 44 [c1 (di o)] (.tup [c1 (di (opF o).2.1), c1 (di (opF o).2.2.1), c1 (di (opF o).2.2.2)]) := by
  refine fn_rule (C := ⟨Tryz.prog, layF, Tryz.f44.ntmps, ΓC, 0, [], []⟩) layF_ok mixed Tryz.func44 rfl (by kernel_rfl) rfl rfl rfl ?_
  repeat' (first | refine ex_call (shape_c o) ?_ | refine ex_true (by first | decide | omega | assumption | (with_reducible exact rfl)) ?_ | refine ex_false (by first | decide | omega | assumption | exact (fun h => h rfl)) ?_ | refine ex_dec (fun _ => ?_) (fun _ => ?_) | refine ex_u8 _ rfl (by omega) (by omega) ?_ | refine ex_i64 _ rfl (by omega) (by omega) ?_ | refine ex_u64 _ rfl (by omega) (by omega) ?_ | refine and_mk (by first | omega | (with_reducible rfl) | (show drawOk _ _ _ = true; kernel_rfl)) ?_ | refine and_mk ⟨_, rfl⟩ ?_ | refine ex_is _ (List.length_map _) ?_ | refine ex_is _ List.length_nil ?_ | fail "no step")
  exact TLe.rfl
def alusL : List (List UInt8) := [[43], [45], [42], [47], [37], [38], [124], [60, 60], [62, 62], [61, 61], [33, 61], [60], [60, 61], [62], [62, 61], [38, 38], [124, 124]]
theorem alus_c : CallsA Tryz.prog ΓC 50 [] (.o (c1 (dss alusL))) := by
  refine fn_rule (C := ⟨Tryz.prog, layF, Tryz.f50.ntmps, ΓC, 0, [], []⟩) layF_ok mixed Tryz.func50 rfl (by kernel_rfl) rfl rfl rfl ?_
  repeat' (first | refine ex_true (by first | decide | omega | assumption | (with_reducible exact rfl)) ?_ | refine ex_false (by first | decide | omega | assumption | exact (fun h => h rfl)) ?_ | refine ex_dec (fun _ => ?_) (fun _ => ?_) | refine ex_u8 _ rfl (by omega) (by omega) ?_ | refine ex_i64 _ rfl (by omega) (by omega) ?_ | refine ex_u64 _ rfl (by omega) (by omega) ?_ | refine and_mk (by first | omega | (with_reducible rfl) | (show drawOk _ _ _ = true; kernel_rfl)) ?_ | refine and_mk ⟨_, rfl⟩ ?_ | refine ex_is _ (List.length_map _) ?_ | refine ex_is _ List.length_nil ?_ | fail "no step")
  exact TLe.rfl
theorem dec_len (n : Nat) (h : n < 18446744073709551616) : (Lib.decDigits n).length ≤ 20 := by
  have key : ∀ (d m : Nat), m < 10 ^ (d + 1) → (Lib.decDigits m).length ≤ d + 1 := by
    intro d
    induction d with
    | zero => intro m hm; rw [Lib.decDigits, dif_pos (by omega)]; simp
    | succ d ih =>
      intro m hm
      rw [Lib.decDigits]
      split
      · simp
      · have := ih (m / 10) (by rw [Nat.pow_succ] at hm; omega)
        rw [List.length_append, List.length_singleton]; omega
  exact key 19 n (by omega)
def I64 (z : Int) : Prop := -9223372036854775808 ≤ z ∧ z ≤ 9223372036854775807
theorem itoa_len {z : Int} (h : I64 z) : (Lib.itoa z).length ≤ 21 := by
  unfold Lib.itoa
  unfold I64 at h
  split
  · have := dec_len z.natAbs (by omega)
    rw [List.length_cons]; omega
  · have := dec_len z.toNat (by omega); omega
theorem args_len : ∀ (l : List Int), (∀ z ∈ l, I64 z) → (l.flatMap arg).length ≤ 22 * l.length
  | [], _ => by simp
  | z :: l, h => by
    have h1 := args_len l (fun z hz => h z (by simp [hz]))
    have h2 := itoa_len (h z (by simp))
    rw [List.flatMap_cons, List.length_append, arg, List.length_cons, List.length_cons]; omega
def InB (x : IN) : Prop := I64 x.a ∧ I64 x.b ∧ x.n < 18446744073709551616
theorem opF_has (o : Int) : (opF o).2.1 ≤ 2 ∧ (opF o).1.length ≤ 6 := by
  unfold opF
  split
  · have := ops_facts ⟨o.toNat, by omega⟩
    exact ⟨this.2.2.2.2.2.1, this.2.2.2.2.2.2.1⟩
  · exact ⟨by decide, by decide⟩
end Go.Proofs.YtgfmbkbiingagaaGreatDoor

namespace Go.Proofs.YtgfmbkbiingagaaGreatDoor
set_option linter.unusedVariables false
set_option linter.unusedSimpArgs false
open Go.RowKit
set_option maxRecDepth 100000

theorem min_c (l : List Int) (h0 : l ≠ []) (hl : l.length ≤ 1000000) : CallsA Tryz.prog Γ0 18 [c1 (.sl 1 (dis l))] (Ti (minL l)) := by
  obtain ⟨x, l, rfl⟩ : ∃ x l', l = x :: l' := by cases l with | nil => exact absurd rfl h0 | cons x l => exact ⟨x, l, rfl⟩
  have hdl : (dis (x :: l)).length = l.length + 1 := by rw [List.length_map, List.length_cons]
  have hcl : (x :: l).length = l.length + 1 := List.length_cons
  refine fn_rule (C := ⟨Tryz.prog, layF, Tryz.f18.ntmps, Γ0, 0, [], []⟩) layF_ok mixed Tryz.func18 rfl (by kernel_rfl) rfl rfl rfl ?_
  repeat' (first | refine (ex_row 0 x rfl rfl) ?_ | refine ex_true (by first | decide | omega | assumption | (with_reducible exact rfl)) ?_ | refine ex_false (by first | decide | omega | assumption | exact (fun h => h rfl)) ?_ | refine ex_dec (fun _ => ?_) (fun _ => ?_) | refine ex_u8 _ rfl (by omega) (by omega) ?_ | refine ex_i64 _ rfl (by omega) (by omega) ?_ | refine ex_u64 _ rfl (by omega) (by omega) ?_ | refine and_mk (by first | omega | (with_reducible rfl) | (show drawOk _ _ _ = true; kernel_rfl)) ?_ | refine and_mk ⟨_, rfl⟩ ?_ | refine ex_is _ (List.length_map _) ?_ | refine ex_is _ List.length_nil ?_ | fail "no step")
  refine ex_loop (X := Nat × Int × Int) (fun ⟨q, z, y⟩ => ⟨[(0, .o (c1 (.sl 1 (dis (x :: l))))), (3, Ti z), (4, Ti y)], [], 0⟩) (fun x => l.length - x.1) (fun ⟨q, z, y⟩ => q ≤ l.length ∧ z = (l.take q).foldl min x ∧ y = ((q + 1 : Nat) : Int)) (0, x, 1) ⟨Nat.zero_le _, rfl, rfl⟩ (SLe.of ⟨⟨rfl, rfl, rfl, trivial⟩, trivial⟩) ?_
  rintro ⟨q, z, y⟩ ⟨hq, hz, rfl⟩
  by_cases hql : q < l.length
  · have hx : (x :: l)[q + 1]? = some l[q] := by rw [List.getElem?_cons_succ]; exact at_some hql
    have htk : l.take (q + 1) = l.take q ++ [l[q]] := by rw [List.take_add_one, at_some hql]; rfl
    generalize l[q] = y at *
    have hmin : (if y < z then y else z) = (l.take (q + 1)).foldl min x := by rw [htk, List.foldl_append, ← hz]; show _ = min z y; split <;> omega
    repeat' (first | refine ex_i64 ((q + 1 + 1 : Nat) : Int) (by omega) (by omega) (by omega) ?_ | refine ex_u64 ((q + 1 + 1 : Nat) : Int) (by omega) (by omega) (by omega) ?_ | refine ex_u8 ((q + 1 + 1 : Nat) : Int) (by omega) (by omega) (by omega) ?_ | refine (ex_is _ hmin) ?_ | refine (ex_row (q + 1) y rfl hx) ?_ | refine ex_true (by first | decide | omega | assumption | (with_reducible exact rfl)) ?_ | refine ex_false (by first | decide | omega | assumption | exact (fun h => h rfl)) ?_ | refine ex_dec (fun _ => ?_) (fun _ => ?_) | refine ex_u8 _ rfl (by omega) (by omega) ?_ | refine ex_i64 _ rfl (by omega) (by omega) ?_ | refine ex_u64 _ rfl (by omega) (by omega) ?_ | refine and_mk (by first | omega | (with_reducible rfl) | (show drawOk _ _ _ = true; kernel_rfl)) ?_ | refine and_mk ⟨_, rfl⟩ ?_ | refine ex_is _ (List.length_map _) ?_ | refine ex_is _ List.length_nil ?_ | fail "no step")
    exact ex_round (q + 1, _, _) ⟨by omega, rfl, rfl⟩ (by show _ - _ < _ - _; omega) (SLe.of ⟨⟨rfl, rfl, rfl, trivial⟩, trivial⟩)
  · obtain rfl : q = l.length := by omega
    rw [List.take_length] at hz
    repeat' (first | refine ex_true (by first | decide | omega | assumption | (with_reducible exact rfl)) ?_ | refine ex_false (by first | decide | omega | assumption | exact (fun h => h rfl)) ?_ | refine ex_dec (fun _ => ?_) (fun _ => ?_) | refine ex_u8 _ rfl (by omega) (by omega) ?_ | refine ex_i64 _ rfl (by omega) (by omega) ?_ | refine ex_u64 _ rfl (by omega) (by omega) ?_ | refine and_mk (by first | omega | (with_reducible rfl) | (show drawOk _ _ _ = true; kernel_rfl)) ?_ | refine and_mk ⟨_, rfl⟩ ?_ | refine ex_is _ (List.length_map _) ?_ | refine ex_is _ List.length_nil ?_ | fail "no step")
    exact TLe.eq (by rw [hz]; rfl)
theorem makes_c (o : Int) : CallsA Tryz.prog Γ0 42 [c1 (di o)] (Tb (makesV o)) := by
  unfold makesV
  refine fn_rule (C := ⟨Tryz.prog, layF, Tryz.f42.ntmps, Γ0, 0, [], []⟩) layF_ok mixed Tryz.func42 rfl (by kernel_rfl) rfl rfl rfl ?_
  repeat' (first | refine ex_true (by first | decide | omega | assumption | (with_reducible exact rfl)) ?_ | refine ex_false (by first | decide | omega | assumption | exact (fun h => h rfl)) ?_ | refine ex_dec (fun _ => ?_) (fun _ => ?_) | refine ex_u8 _ rfl (by omega) (by omega) ?_ | refine ex_i64 _ rfl (by omega) (by omega) ?_ | refine ex_u64 _ rfl (by omega) (by omega) ?_ | refine and_mk (by first | omega | (with_reducible rfl) | (show drawOk _ _ _ = true; kernel_rfl)) ?_ | refine and_mk ⟨_, rfl⟩ ?_ | refine ex_is _ (List.length_map _) ?_ | refine ex_is _ List.length_nil ?_ | fail "no step")
  all_goals first | exact TLe.eq (by rw [decide_eq_true (by omega)]; rfl) | exact TLe.eq (by rw [decide_eq_false (by omega)]; rfl)
theorem opens_c (o : Int) : CallsA Tryz.prog Γ0 41 [c1 (di o)] (.tup [c1 (ds (bs (opensV o).1)), c1 (ds (bs (opensV o).2))]) := by
  unfold opensV
  refine fn_rule (C := ⟨Tryz.prog, layF, Tryz.f41.ntmps, Γ0, 0, [], []⟩) layF_ok mixed Tryz.func41 rfl (by kernel_rfl) rfl rfl rfl ?_
  repeat' (first | refine ex_true (by first | decide | omega | assumption | (with_reducible exact rfl)) ?_ | refine ex_false (by first | decide | omega | assumption | exact (fun h => h rfl)) ?_ | refine ex_dec (fun _ => ?_) (fun _ => ?_) | refine ex_u8 _ rfl (by omega) (by omega) ?_ | refine ex_i64 _ rfl (by omega) (by omega) ?_ | refine ex_u64 _ rfl (by omega) (by omega) ?_ | refine and_mk (by first | omega | (with_reducible rfl) | (show drawOk _ _ _ = true; kernel_rfl)) ?_ | refine and_mk ⟨_, rfl⟩ ?_ | refine ex_is _ (List.length_map _) ?_ | refine ex_is _ List.length_nil ?_ | fail "no step")
  all_goals refine TLe.eq ?_
  all_goals simp only [*, if_true, if_false]
  all_goals rfl
theorem err_c (n : Int) : CallsA Tryz.prog Γ0 52 [c1 (di n)] (Tb (errV n)) := by
  unfold errV
  refine fn_rule (C := ⟨Tryz.prog, layF, Tryz.f52.ntmps, Γ0, 0, [], []⟩) layF_ok mixed Tryz.func52 rfl (by kernel_rfl) rfl rfl rfl ?_
  repeat' (first | refine ex_true (by first | decide | omega | assumption | (with_reducible exact rfl)) ?_ | refine ex_false (by first | decide | omega | assumption | exact (fun h => h rfl)) ?_ | refine ex_dec (fun _ => ?_) (fun _ => ?_) | refine ex_u8 _ rfl (by omega) (by omega) ?_ | refine ex_i64 _ rfl (by omega) (by omega) ?_ | refine ex_u64 _ rfl (by omega) (by omega) ?_ | refine and_mk (by first | omega | (with_reducible rfl) | (show drawOk _ _ _ = true; kernel_rfl)) ?_ | refine and_mk ⟨_, rfl⟩ ?_ | refine ex_is _ (List.length_map _) ?_ | refine ex_is _ List.length_nil ?_ | fail "no step")
  all_goals first | exact TLe.eq (by rw [decide_eq_true (by omega)]; rfl) | exact TLe.eq (by rw [decide_eq_false (by omega)]; rfl)
theorem V_eq {ι : Nat → Value} {S : Nat → Prop} {w : World} {v : Value} {a b : TV} (e : a = b) (h : V ι S w a v) : V ι S w b v := e ▸ h
theorem goes_c (x : IN) (i : Int) (hi : 0 ≤ i ∧ i ≤ 1000000) : CallsA Tryz.prog Γ0 32 [gD (inD x), c1 (di i)] (.o (c1 (.sl 1 (dis (goesV x i))))) := by
  obtain ⟨o, a, b, n⟩ := x
  unfold goesV
  change CallsA _ _ _ [gD [di o, di a, di b, du n], _] _
  dsimp only
  refine fn_rule (C := ⟨Tryz.prog, layF, Tryz.f32.ntmps, Γ0, 0, [], []⟩) layF_ok mixed Tryz.func32 rfl (by kernel_rfl) rfl rfl rfl ?_
  repeat' (first | refine ex_true (by first | decide | omega | assumption | (with_reducible exact rfl)) ?_ | refine ex_false (by first | decide | omega | assumption | exact (fun h => h rfl)) ?_ | refine ex_dec (fun _ => ?_) (fun _ => ?_) | refine ex_u8 _ rfl (by omega) (by omega) ?_ | refine ex_i64 _ rfl (by omega) (by omega) ?_ | refine ex_u64 _ rfl (by omega) (by omega) ?_ | refine and_mk (by first | omega | (with_reducible rfl) | (show drawOk _ _ _ = true; kernel_rfl)) ?_ | refine and_mk ⟨_, rfl⟩ ?_ | refine ex_is _ (List.length_map _) ?_ | refine ex_is _ List.length_nil ?_ | fail "no step")
  all_goals first | (refine TLe.eq ?_; simp only [*, if_true, if_false, true_or, or_true, or_self]; rfl) | exact fun ι S w v h => V_eq (by simp [*]) (TLe.nil (s := 1) ι S w v h)
end Go.Proofs.YtgfmbkbiingagaaGreatDoor

namespace Go.Proofs.YtgfmbkbiingagaaGreatDoor
set_option linter.unusedVariables false
set_option linter.unusedSimpArgs false
open Go.RowKit
set_option maxRecDepth 100000

section
variable {P : Program} {Γ : Glob}
/-- A call that tells a truth: both ways. -/
theorem ex_callB {f : FuncId} {xs : List T1} {b : Bool} (h : CallsA P Γ f xs (Tb b)) {K : TV → Prop} (h1 : b = true → K (Tb true)) (h0 : b = false → K (Tb false)) : ∃ r, CallsA P Γ f xs r ∧ K r :=
  ⟨_, h, by cases b with
    | true => exact h1 rfl
    | false => exact h0 rfl⟩
theorem ex_callMB {f : FuncId} {m : List (Nat × Blk)} {nx : Nat} {xs : List T1} {b : Bool} {upd : List (Nat × Blk)} {new : List Blk} (h : CallsM P Γ f m nx xs (Tb b) upd new) {K : TV → List (Nat × Blk) → List Blk → Prop} (h1 : b = true → K (Tb true) upd new) (h0 : b = false → K (Tb false) upd new) :
    ∃ r upd new, CallsM P Γ f m nx xs r upd new ∧ K r upd new :=
  ⟨_, _, _, h, by cases b with
    | true => exact h1 rfl
    | false => exact h0 rfl⟩
end
/-- The equality of what is known, cell by cell. -/
theorem eqSS (k k' : Int) (o o' : ByteArray) (m m' w w' : Bool) (n : Nat) : EqT Tryz.prog (n + 2) 70 (.agg #[.int .i64 k, .string o, .bool m, .bool w]) (.agg #[.int .i64 k', .string o', .bool m', .bool w']) (decide (k = k') && (decide (o = o') && (decide (m = m') && (decide (w = w') && true)))) :=
  EqT.stk (xs := [.int .i64 k, .string o, .bool m, .bool w]) (ys := [.int .i64 k', .string o', .bool m', .bool w']) [(true, 3, 0), (true, 9, 1), (true, 4, 2), (true, 4, 3)] (by kernel_rfl) (by kernel_rfl) (by kernel_rfl)
    (EqKs.cons (PartI.one rfl (by kernel_rfl) rfl) (PartI.one rfl (by kernel_rfl) rfl) (EqT.int rfl) (EqKs.cons (PartI.one rfl (by kernel_rfl) rfl) (PartI.one rfl (by kernel_rfl) rfl) (EqT.str rfl) (EqKs.cons (PartI.one rfl (by kernel_rfl) rfl) (PartI.one rfl (by kernel_rfl) rfl) (EqT.bool rfl)
      (EqKs.cons (PartI.one rfl (by kernel_rfl) rfl) (PartI.one rfl (by kernel_rfl) rfl) (EqT.bool rfl) EqKs.nil))))
theorem eqSSw (k k' : Int) (o o' : List UInt8) (m m' w w' : Bool) (c : Bool) (h : SS.same ⟨k, o, m, w⟩ ⟨k', o', m', w'⟩ = c) : ∀ W, (Op.equal 70 (.agg #[.int .i64 k, .string (bs o), .bool m, .bool w]) (.agg #[.int .i64 k', .string (bs o'), .bool m', .bool w'])).run Tryz.prog W = .ok c W := fun W => by
  have h1 := eqSS k k' (bs o) (bs o') m m' w w' 9998 W
  have e : decide (bs o = bs o') = decide (o = o') := by
    have : bs o = bs o' ↔ o = o' := ⟨fun h => by have := congrArg (fun b => b.data.toList) h; simpa using this, fun h => by rw [h]⟩
    simp [this]
  rw [e] at h1
  rw [← h]
  unfold SS.same
  dsimp only
  rw [show (decide (k = k') && decide (o = o') && decide (m = m') && decide (w = w')) = (decide (k = k') && (decide (o = o') && (decide (m = m') && (decide (w = w') && true)))) by simp [Bool.and_assoc]]
  exact h1
theorem ex_find {lk : LK} {k : Value} {es : List (Value × Value)} {n : Nat} {r : Option (Nat × Value)} (h : findKV lk k es n = some r) {K : Option (Nat × Value) → Prop} (hk : K r) : ∃ r, findKV lk k es n = some r ∧ K r := ⟨r, h, hk⟩
abbrev ssV (s : SS) : Value := .agg #[.int .i64 s.k, .string (bs s.o), .bool s.m, .bool s.w]
abbrev ssD (s : SS) : List D := [di s.k, ds (bs s.o), db s.m, db s.w]
abbrev kvs (kn : List (Int × SS)) : List (Value × Value) := kn.map fun p => (.int .i64 p.1, ssV p.2)
abbrev ckC (fs : List FN) (cs : List IN) (fn : Nat) (fr tt : Int) (j : Nat) (d w : Int) : List CV := [.d (.sl 3 (fs.map fnD)), .d (.sl 4 (cs.map inD)), .d (di fn), .d (di fr), .d (di tt), .mp 1, .row j, .d (di d), .d (di w)]
abbrev ckM (fs : List FN) (cs : List IN) (fn : Nat) (fr tt : Int) (g : SG) : List (Nat × Blk) := [(0, .obj (ckC fs cs fn fr tt 2 g.d g.w)), (1, .map (kvs g.kn)), (2, .row 1 3 (dis g.lf))]
abbrev ckN (fs : List FN) (cs : List IN) (fn : Nat) (fr tt : Int) (g : SG) : List (Nat × Blk) := [(0, .obj (ckC fs cs fn fr tt 3 g.d g.w)), (1, .map (kvs g.kn)), (2, .dead)]
theorem find_kvs (kn : List (Int × SS)) (i : Int) (n : Nat) : ∃ r, findKV (.int .i64) (.int .i64 i) (kvs kn) n = some r ∧ r.map (·.2) = ((kn.find? fun p => decide (p.1 = i)).map (·.2)).map ssV := by
  induction kn generalizing n with
  | nil => exact ⟨none, rfl, rfl⟩
  | cons p kn ih =>
    rw [show kvs (p :: kn) = (.int .i64 p.1, ssV p.2) :: kvs kn from rfl, findKV_cons, List.find?_cons]
    by_cases h : p.1 = i
    · have e : sameKV (.int .i64) (.int .i64 i) (.int .i64 p.1) = some true := by simp [sameKV, h]
      rw [decide_eq_true h]
      simp only [e]
      exact ⟨_, rfl, rfl⟩
    · have e : sameKV (.int .i64) (.int .i64 i) (.int .i64 p.1) = some false := by simp [sameKV, Ne.symm h]
      rw [decide_eq_false h]
      simp only [e]
      exact ih (n + 1)
theorem find_some {g : SG} {i : Int} {s : SS} (h : g.at i = some s) : ∃ j, findKV (.int .i64) (.int .i64 i) (kvs g.kn) 0 = some (some (j, ssV s)) := by
  obtain ⟨r, h1, h2⟩ := find_kvs g.kn i 0
  unfold SG.at at h
  rw [h] at h2
  cases r with
  | none => cases h2
  | some p =>
    obtain ⟨j, v⟩ := p
    simp only [Option.map_some, Option.some.injEq] at h2
    exact ⟨j, by rw [h1, h2]⟩
theorem find_none {g : SG} {i : Int} (h : g.at i = none) : findKV (.int .i64) (.int .i64 i) (kvs g.kn) 0 = some none := by
  obtain ⟨r, h1, h2⟩ := find_kvs g.kn i 0
  unfold SG.at at h
  rw [h] at h2
  cases r with
  | none => exact h1
  | some p => cases h2
section
variable (fs : List FN) (cs : List IN) (fn : Nat) (fr tt : Int) (g : SG)
theorem fault_c (i : Int) : CallsM Tryz.prog Γ0 28 (ckM fs cs fn fr tt g) 3 [.c (.ptr 0 0), c1 (di i)] (.tup []) (ckM fs cs fn fr tt (g.fault i)) [] := by
  by_cases h : g.w < 0 ∨ i < g.w
  · have e : g.fault i = { g with w := i } := by unfold SG.fault faultV; rw [if_pos h]
    rw [e]
    refine fn_ruleM (C := ⟨Tryz.prog, layF, Tryz.f28.ntmps, Γ0, 3, [], []⟩) layF_ok mixed Tryz.func28 rfl (by kernel_rfl) rfl rfl rfl ?_
    repeat' (first | refine ex_true (by first | decide | omega | assumption | (with_reducible exact rfl)) ?_ | refine ex_false (by first | decide | omega | assumption | exact (fun h => h rfl)) ?_ | refine ex_dec (fun _ => ?_) (fun _ => ?_) | refine ex_u8 _ rfl (by omega) (by omega) ?_ | refine ex_i64 _ rfl (by omega) (by omega) ?_ | refine ex_u64 _ rfl (by omega) (by omega) ?_ | refine and_mk (by first | omega | (with_reducible rfl) | (show drawOk _ _ _ = true; kernel_rfl)) ?_ | refine and_mk ⟨_, rfl⟩ ?_ | refine ex_is _ (List.length_map _) ?_ | refine ex_is _ List.length_nil ?_ | fail "no step")
    all_goals exact ⟨rfl, TLe.rfl, rfl, rfl⟩
  · have e : g.fault i = g := by unfold SG.fault faultV; rw [if_neg h]
    rw [e]
    refine fn_ruleM (C := ⟨Tryz.prog, layF, Tryz.f28.ntmps, Γ0, 3, [], []⟩) layF_ok mixed Tryz.func28 rfl (by kernel_rfl) rfl rfl rfl ?_
    repeat' (first | refine ex_true (by first | decide | omega | assumption | (with_reducible exact rfl)) ?_ | refine ex_false (by first | decide | omega | assumption | exact (fun h => h rfl)) ?_ | refine ex_dec (fun _ => ?_) (fun _ => ?_) | refine ex_u8 _ rfl (by omega) (by omega) ?_ | refine ex_i64 _ rfl (by omega) (by omega) ?_ | refine ex_u64 _ rfl (by omega) (by omega) ?_ | refine and_mk (by first | omega | (with_reducible rfl) | (show drawOk _ _ _ = true; kernel_rfl)) ?_ | refine and_mk ⟨_, rfl⟩ ?_ | refine ex_is _ (List.length_map _) ?_ | refine ex_is _ List.length_nil ?_ | fail "no step")
    all_goals exact ⟨rfl, TLe.rfl, rfl, rfl⟩
theorem place_c (n : Int) : CallsM Tryz.prog Γ0 33 (ckM fs cs fn fr tt g) 3 [.c (.ptr 0 0), c1 (di n)] (Tb (placeV fr tt n)) (ckM fs cs fn fr tt g) [] := by
  unfold placeV
  refine fn_ruleM (C := ⟨Tryz.prog, layF, Tryz.f33.ntmps, Γ0, 3, [], []⟩) layF_ok mixed Tryz.func33 rfl (by kernel_rfl) rfl rfl rfl ?_
  repeat' (first | refine ex_true (by first | decide | omega | assumption | (with_reducible exact rfl)) ?_ | refine ex_false (by first | decide | omega | assumption | exact (fun h => h rfl)) ?_ | refine ex_dec (fun _ => ?_) (fun _ => ?_) | refine ex_u8 _ rfl (by omega) (by omega) ?_ | refine ex_i64 _ rfl (by omega) (by omega) ?_ | refine ex_u64 _ rfl (by omega) (by omega) ?_ | refine and_mk (by first | omega | (with_reducible rfl) | (show drawOk _ _ _ = true; kernel_rfl)) ?_ | refine and_mk ⟨_, rfl⟩ ?_ | refine ex_is _ (List.length_map _) ?_ | refine ex_is _ List.length_nil ?_ | fail "no step")
  all_goals first | exact ⟨rfl, TLe.eq (by rw [decide_eq_true (by omega)]; rfl), rfl, rfl⟩ | exact ⟨rfl, TLe.eq (by rw [decide_eq_false (by omega)]; rfl), rfl, rfl⟩
theorem slot_c {f : FN} (hf : fs[fn]? = some f) (n : Int) : CallsM Tryz.prog Γ0 49 (ckM fs cs fn fr tt g) 3 [.c (.ptr 0 0), c1 (di n)] (Tb (slotV f n)) (ckM fs cs fn fr tt g) [] := by
  unfold slotV
  refine fn_ruleM (C := ⟨Tryz.prog, layF, Tryz.f49.ntmps, Γ0, 3, [], []⟩) layF_ok mixed Tryz.func49 rfl (by kernel_rfl) rfl rfl rfl ?_
  repeat' (first | refine (ex_row fn f rfl hf) ?_ | refine ex_true (by first | decide | omega | assumption | (with_reducible exact rfl)) ?_ | refine ex_false (by first | decide | omega | assumption | exact (fun h => h rfl)) ?_ | refine ex_dec (fun _ => ?_) (fun _ => ?_) | refine ex_u8 _ rfl (by omega) (by omega) ?_ | refine ex_i64 _ rfl (by omega) (by omega) ?_ | refine ex_u64 _ rfl (by omega) (by omega) ?_ | refine and_mk (by first | omega | (with_reducible rfl) | (show drawOk _ _ _ = true; kernel_rfl)) ?_ | refine and_mk ⟨_, rfl⟩ ?_ | refine ex_is _ (List.length_map _) ?_ | refine ex_is _ List.length_nil ?_ | fail "no step")
  all_goals first | exact ⟨rfl, TLe.eq (by rw [decide_eq_true (by omega)]; rfl), rfl, rfl⟩ | exact ⟨rfl, TLe.eq (by rw [decide_eq_false (by omega)]; rfl), rfl, rfl⟩
theorem come_old {i : Int} {s t : SS} (h : g.at i = some t) : CallsM Tryz.prog Γ0 17 (ckM fs cs fn fr tt g) 3 [.c (.ptr 0 0), c1 (di i), gD (ssD s)] (.tup []) (ckM fs cs fn fr tt (g.come i s)) [] := by
  obtain ⟨j, hj⟩ := find_some h
  have hf := fault_c fs cs fn fr tt g i
  obtain ⟨k, o, m, w⟩ := s
  obtain ⟨k', o', m', w'⟩ := t
  by_cases e : (⟨k', o', m', w'⟩ : SS) = ⟨k, o, m, w⟩
  · have e2 : g.come i ⟨k, o, m, w⟩ = g := by unfold SG.come; rw [h]; dsimp only; rw [if_pos (SS.same_iff.2 e)]
    rw [e2]
    rw [e] at hj
    refine fn_ruleM (C := ⟨Tryz.prog, layF, Tryz.f17.ntmps, Γ0, 3, [], []⟩) layF_ok mixed Tryz.func17 rfl (by kernel_rfl) rfl rfl rfl ?_
    repeat' (first | refine (ex_agg (by kernel_rfl) true (eqSSw k k o o m m w w true (SS.same_self _))) ?_ | refine (ex_find hj) ?_ | refine ex_true (by first | decide | omega | assumption | (with_reducible exact rfl)) ?_ | refine ex_false (by first | decide | omega | assumption | exact (fun h => h rfl)) ?_ | refine ex_dec (fun _ => ?_) (fun _ => ?_) | refine ex_u8 _ rfl (by omega) (by omega) ?_ | refine ex_i64 _ rfl (by omega) (by omega) ?_ | refine ex_u64 _ rfl (by omega) (by omega) ?_ | refine and_mk (by first | omega | (with_reducible rfl) | (show drawOk _ _ _ = true; kernel_rfl)) ?_ | refine and_mk ⟨_, rfl⟩ ?_ | refine ex_is _ (List.length_map _) ?_ | refine ex_is _ List.length_nil ?_ | fail "no step")
    exact ⟨rfl, TLe.rfl, rfl, rfl⟩
  · have e2 : g.come i ⟨k, o, m, w⟩ = g.fault i := by unfold SG.come; rw [h]; dsimp only; rw [if_neg (fun q => e (SS.same_iff.1 q))]
    rw [e2]
    refine fn_ruleM (C := ⟨Tryz.prog, layF, Tryz.f17.ntmps, Γ0, 3, [], []⟩) layF_ok mixed Tryz.func17 rfl (by kernel_rfl) rfl rfl rfl ?_
    repeat' (first | refine (ex_callM (hf.ren [0, 1, 2] 5 rfl rfl rfl rfl)) ?_ | refine (ex_agg (by kernel_rfl) false (eqSSw k' k o' o m' m w' w false (Bool.eq_false_iff.2 fun q => e (SS.same_iff.1 q)))) ?_ | refine (ex_find hj) ?_ | refine ex_true (by first | decide | omega | assumption | (with_reducible exact rfl)) ?_ | refine ex_false (by first | decide | omega | assumption | exact (fun h => h rfl)) ?_ | refine ex_dec (fun _ => ?_) (fun _ => ?_) | refine ex_u8 _ rfl (by omega) (by omega) ?_ | refine ex_i64 _ rfl (by omega) (by omega) ?_ | refine ex_u64 _ rfl (by omega) (by omega) ?_ | refine and_mk (by first | omega | (with_reducible rfl) | (show drawOk _ _ _ = true; kernel_rfl)) ?_ | refine and_mk ⟨_, rfl⟩ ?_ | refine ex_is _ (List.length_map _) ?_ | refine ex_is _ List.length_nil ?_ | fail "no step")
    exact ⟨rfl, TLe.rfl, rfl, rfl⟩
end
end Go.Proofs.YtgfmbkbiingagaaGreatDoor

namespace Go.Proofs.YtgfmbkbiingagaaGreatDoor
set_option linter.unusedVariables false
set_option linter.unusedSimpArgs false
open Go.RowKit
set_option maxRecDepth 100000

theorem rop_c (o : Int) : CallsA Tryz.prog Γ0 38 [c1 (di o)] (.tup [c1 (ds (bs (opF o).1)), gD [di (opF o).2.1, di (opF o).2.2.1, di (opF o).2.2.2]]) := by
  unfold opF
  by_cases h : 0 ≤ o ∧ o < 36
  · rw [if_pos h]
    obtain ⟨k, rfl⟩ : ∃ k : Nat, o = k := ⟨o.toNat, by omega⟩
    have hk : k < 36 := by omega
    have hw : opsL[k]? = some (opsL.getD k noneR) := by
      have hl : opsL.length = 36 := by decide
      rw [List.getD, List.getElem?_eq_getElem (by omega)]; rfl
    have h1 : (opsL.map fun r => [ds (bs r.1)])[k]? = some [ds (bs (opsL.getD k noneR).1)] := by rw [List.getElem?_map, hw]; rfl
    have h2 : (opsL.map fun r => [di r.2.1, di r.2.2.1, di r.2.2.2])[k]? = some [di (opsL.getD k noneR).2.1, di (opsL.getD k noneR).2.2.1, di (opsL.getD k noneR).2.2.2] := by rw [List.getElem?_map, hw]; rfl
    rw [Int.toNat_natCast]
    generalize opsL.getD k noneR = r at *
    refine fn_rule (C := ⟨Tryz.prog, layF, Tryz.f38.ntmps, Γ0, 0, [], []⟩) layF_ok mixed Tryz.func38 rfl (by kernel_rfl) rfl rfl rfl ?_
    repeat' (first | refine ex_true (by first | decide | omega | assumption | (with_reducible exact rfl)) ?_ | refine ex_false (by first | decide | omega | assumption | exact (fun h => h rfl)) ?_ | refine ex_dec (fun _ => ?_) (fun _ => ?_) | refine ex_u8 _ rfl (by omega) (by omega) ?_ | refine ex_i64 _ rfl (by omega) (by omega) ?_ | refine ex_u64 _ rfl (by omega) (by omega) ?_ | refine and_mk (by first | omega | (with_reducible rfl) | (show drawOk _ _ _ = true; kernel_rfl)) ?_ | refine and_mk ⟨_, rfl⟩ ?_ | refine ex_is _ (List.length_map _) ?_ | refine ex_is _ List.length_nil ?_ | fail "no step")
    refine ⟨show k < (opsL.map fun r => [ds (bs r.1)]).length from (by rw [List.length_map]; exact hk), ?_⟩
    repeat' (first | refine ex_true (by first | decide | omega | assumption | (with_reducible exact rfl)) ?_ | refine ex_false (by first | decide | omega | assumption | exact (fun h => h rfl)) ?_ | refine ex_dec (fun _ => ?_) (fun _ => ?_) | refine ex_u8 _ rfl (by omega) (by omega) ?_ | refine ex_i64 _ rfl (by omega) (by omega) ?_ | refine ex_u64 _ rfl (by omega) (by omega) ?_ | refine and_mk (by first | omega | (with_reducible rfl) | (show drawOk _ _ _ = true; kernel_rfl)) ?_ | refine and_mk ⟨_, rfl⟩ ?_ | refine ex_is _ (List.length_map _) ?_ | refine ex_is _ List.length_nil ?_ | fail "no step")
    refine ⟨_, h1, ?_⟩
    repeat' (first | refine ex_true (by first | decide | omega | assumption | (with_reducible exact rfl)) ?_ | refine ex_false (by first | decide | omega | assumption | exact (fun h => h rfl)) ?_ | refine ex_dec (fun _ => ?_) (fun _ => ?_) | refine ex_u8 _ rfl (by omega) (by omega) ?_ | refine ex_i64 _ rfl (by omega) (by omega) ?_ | refine ex_u64 _ rfl (by omega) (by omega) ?_ | refine and_mk (by first | omega | (with_reducible rfl) | (show drawOk _ _ _ = true; kernel_rfl)) ?_ | refine and_mk ⟨_, rfl⟩ ?_ | refine ex_is _ (List.length_map _) ?_ | refine ex_is _ List.length_nil ?_ | fail "no step")
    refine ⟨show k < (opsL.map fun r => [di r.2.1, di r.2.2.1, di r.2.2.2]).length from (by rw [List.length_map]; exact hk), ?_⟩
    repeat' (first | refine ex_true (by first | decide | omega | assumption | (with_reducible exact rfl)) ?_ | refine ex_false (by first | decide | omega | assumption | exact (fun h => h rfl)) ?_ | refine ex_dec (fun _ => ?_) (fun _ => ?_) | refine ex_u8 _ rfl (by omega) (by omega) ?_ | refine ex_i64 _ rfl (by omega) (by omega) ?_ | refine ex_u64 _ rfl (by omega) (by omega) ?_ | refine and_mk (by first | omega | (with_reducible rfl) | (show drawOk _ _ _ = true; kernel_rfl)) ?_ | refine and_mk ⟨_, rfl⟩ ?_ | refine ex_is _ (List.length_map _) ?_ | refine ex_is _ List.length_nil ?_ | fail "no step")
    refine ⟨_, h2, ?_⟩
    repeat' (first | refine ex_true (by first | decide | omega | assumption | (with_reducible exact rfl)) ?_ | refine ex_false (by first | decide | omega | assumption | exact (fun h => h rfl)) ?_ | refine ex_dec (fun _ => ?_) (fun _ => ?_) | refine ex_u8 _ rfl (by omega) (by omega) ?_ | refine ex_i64 _ rfl (by omega) (by omega) ?_ | refine ex_u64 _ rfl (by omega) (by omega) ?_ | refine and_mk (by first | omega | (with_reducible rfl) | (show drawOk _ _ _ = true; kernel_rfl)) ?_ | refine and_mk ⟨_, rfl⟩ ?_ | refine ex_is _ (List.length_map _) ?_ | refine ex_is _ List.length_nil ?_ | fail "no step")
    exact TLe.rfl
  · rw [if_neg h]
    refine fn_rule (C := ⟨Tryz.prog, layF, Tryz.f38.ntmps, Γ0, 0, [], []⟩) layF_ok mixed Tryz.func38 rfl (by kernel_rfl) rfl rfl rfl ?_
    repeat' (first | refine ex_true (by first | decide | omega | assumption | (with_reducible exact rfl)) ?_ | refine ex_false (by first | decide | omega | assumption | exact (fun h => h rfl)) ?_ | refine ex_dec (fun _ => ?_) (fun _ => ?_) | refine ex_u8 _ rfl (by omega) (by omega) ?_ | refine ex_i64 _ rfl (by omega) (by omega) ?_ | refine ex_u64 _ rfl (by omega) (by omega) ?_ | refine and_mk (by first | omega | (with_reducible rfl) | (show drawOk _ _ _ = true; kernel_rfl)) ?_ | refine and_mk ⟨_, rfl⟩ ?_ | refine ex_is _ (List.length_map _) ?_ | refine ex_is _ List.length_nil ?_ | fail "no step")
    all_goals exact TLe.rfl
end Go.Proofs.YtgfmbkbiingagaaGreatDoor

namespace Go.Proofs.YtgfmbkbiingagaaGreatDoor
set_option linter.unusedVariables false
set_option linter.unusedSimpArgs false
open Go.RowKit
set_option maxRecDepth 100000

/-- An Op that a letter stands for. -/
def letO (c : UInt8) : Int := if c = 111 then 14 else if c = 119 then 16 else 18
def LetOk (l : List UInt8) : Prop := ∀ c ∈ l, c = 111 ∨ c = 119 ∨ c = 97
theorem letO_inj {a b : UInt8} (ha : a = 111 ∨ a = 119 ∨ a = 97) (hb : b = 111 ∨ b = 119 ∨ b = 97) (h : letO a = letO b) : a = b := by
  rcases ha with rfl | rfl | rfl <;> rcases hb with rfl | rfl | rfl <;> first | rfl | (revert h; decide)
def opD (l : List UInt8) : D := match l with
  | [] => dnil
  | c :: r => .sl 1 (dis ((c :: r).map letO))
/-- What is known at an instruction, as the document has it. -/
abbrev stD (s : SS) : List D := [db true, di s.k, opD s.o, db s.m, db s.w]
abbrev stZ : List D := [db false, di 0, dnil, db false, db false]
theorem rmakes_c (o : Int) : CallsA Tryz.prog Γ0 26 [c1 (di o)] (Tb (makesV o)) := by
  unfold makesV
  refine fn_rule (C := ⟨Tryz.prog, layF, Tryz.f26.ntmps, Γ0, 0, [], []⟩) layF_ok mixed Tryz.func26 rfl (by kernel_rfl) rfl rfl rfl ?_
  repeat' (first | refine ex_true (by first | decide | omega | assumption | (with_reducible exact rfl)) ?_ | refine ex_false (by first | decide | omega | assumption | exact (fun h => h rfl)) ?_ | refine ex_dec (fun _ => ?_) (fun _ => ?_) | refine ex_u8 _ rfl (by omega) (by omega) ?_ | refine ex_i64 _ rfl (by omega) (by omega) ?_ | refine ex_u64 _ rfl (by omega) (by omega) ?_ | refine and_mk (by first | omega | (with_reducible rfl) | (show drawOk _ _ _ = true; kernel_rfl)) ?_ | refine and_mk ⟨_, rfl⟩ ?_ | refine ex_is _ (List.length_map _) ?_ | refine ex_is _ List.length_nil ?_ | fail "no step")
  all_goals first | exact TLe.eq (by rw [decide_eq_true (by omega)]; rfl) | exact TLe.eq (by rw [decide_eq_false (by omega)]; rfl)
theorem rerr_c (n : Int) : CallsA Tryz.prog Γ0 37 [c1 (di n)] (Tb (errV n)) := by
  unfold errV
  refine fn_rule (C := ⟨Tryz.prog, layF, Tryz.f37.ntmps, Γ0, 0, [], []⟩) layF_ok mixed Tryz.func37 rfl (by kernel_rfl) rfl rfl rfl ?_
  repeat' (first | refine ex_true (by first | decide | omega | assumption | (with_reducible exact rfl)) ?_ | refine ex_false (by first | decide | omega | assumption | exact (fun h => h rfl)) ?_ | refine ex_dec (fun _ => ?_) (fun _ => ?_) | refine ex_u8 _ rfl (by omega) (by omega) ?_ | refine ex_i64 _ rfl (by omega) (by omega) ?_ | refine ex_u64 _ rfl (by omega) (by omega) ?_ | refine and_mk (by first | omega | (with_reducible rfl) | (show drawOk _ _ _ = true; kernel_rfl)) ?_ | refine and_mk ⟨_, rfl⟩ ?_ | refine ex_is _ (List.length_map _) ?_ | refine ex_is _ List.length_nil ?_ | fail "no step")
  all_goals first | exact TLe.eq (by rw [decide_eq_true (by omega)]; rfl) | exact TLe.eq (by rw [decide_eq_false (by omega)]; rfl)
theorem rlast_c (s : SS) (hs : s.o.length ≤ 1000000) : CallsA Tryz.prog Γ0 27 [gD (stD s)] (Ti (match s.o.getLast? with | some c => letO c | none => -1)) := by
  obtain ⟨k, o, m, w⟩ := s
  dsimp only at *
  rcases o with _ | ⟨c, r⟩
  · change CallsA _ _ _ [gD [db true, di k, dnil, db m, db w]] _
    refine fn_rule (C := ⟨Tryz.prog, layF, Tryz.f27.ntmps, Γ0, 0, [], []⟩) layF_ok mixed Tryz.func27 rfl (by kernel_rfl) rfl rfl rfl ?_
    repeat' (first | refine ex_true (by first | decide | omega | assumption | (with_reducible exact rfl)) ?_ | refine ex_false (by first | decide | omega | assumption | exact (fun h => h rfl)) ?_ | refine ex_dec (fun _ => ?_) (fun _ => ?_) | refine ex_u8 _ rfl (by omega) (by omega) ?_ | refine ex_i64 _ rfl (by omega) (by omega) ?_ | refine ex_u64 _ rfl (by omega) (by omega) ?_ | refine and_mk (by first | omega | (with_reducible rfl) | (show drawOk _ _ _ = true; kernel_rfl)) ?_ | refine and_mk ⟨_, rfl⟩ ?_ | refine ex_is _ (List.length_map _) ?_ | refine ex_is _ List.length_nil ?_ | fail "no step")
    exact TLe.rfl
  · change CallsA _ _ _ [gD [db true, di k, .sl 1 (dis ((c :: r).map letO)), db m, db w]] _
    have hl : ((c :: r).map letO).length = r.length + 1 := by rw [List.length_map, List.length_cons]
    have hdl : (dis ((c :: r).map letO)).length = r.length + 1 := by rw [List.length_map, hl]
    have hcl : (c :: r).length = r.length + 1 := List.length_cons
    obtain ⟨z, hz⟩ : ∃ z, (c :: r).getLast? = some z := ⟨_, List.getLast?_eq_some_getLast (by simp)⟩
    have hx : ((c :: r).map letO)[r.length]? = some (letO z) := by
      rw [List.getElem?_map]
      rw [List.getLast?_eq_getElem?, hcl, Nat.add_sub_cancel] at hz
      rw [hz]; rfl
    rw [hz]
    generalize (c :: r).map letO = l at *
    refine fn_rule (C := ⟨Tryz.prog, layF, Tryz.f27.ntmps, Γ0, 0, [], []⟩) layF_ok mixed Tryz.func27 rfl (by kernel_rfl) rfl rfl rfl ?_
    repeat' (first | refine ex_i64 ((r.length : Nat) : Int) (by omega) (by omega) (by omega) ?_ | refine ex_u64 ((r.length : Nat) : Int) (by omega) (by omega) (by omega) ?_ | refine ex_u8 ((r.length : Nat) : Int) (by omega) (by omega) (by omega) ?_ | refine (ex_row r.length (letO z) rfl hx) ?_ | refine (ex_is _ hdl) ?_ | refine ex_true (by first | decide | omega | assumption | (with_reducible exact rfl)) ?_ | refine ex_false (by first | decide | omega | assumption | exact (fun h => h rfl)) ?_ | refine ex_dec (fun _ => ?_) (fun _ => ?_) | refine ex_u8 _ rfl (by omega) (by omega) ?_ | refine ex_i64 _ rfl (by omega) (by omega) ?_ | refine ex_u64 _ rfl (by omega) (by omega) ?_ | refine and_mk (by first | omega | (with_reducible rfl) | (show drawOk _ _ _ = true; kernel_rfl)) ?_ | refine and_mk ⟨_, rfl⟩ ?_ | refine ex_is _ (List.length_map _) ?_ | refine ex_is _ List.length_nil ?_ | fail "no step")
    exact TLe.rfl
theorem rinside_c (s : SS) (hs : s.o.length ≤ 1000000) (hl : LetOk s.o) : CallsA Tryz.prog Γ0 25 [gD (stD s)] (Tb (insideV s)) := by
  obtain ⟨k, o, m, w⟩ := s
  unfold insideV
  dsimp only at *
  rcases ho : o with _ | ⟨c, r⟩
  · change CallsA _ _ _ [gD [db true, di k, dnil, db m, db w]] (Tb false)
    refine fn_rule (C := ⟨Tryz.prog, layF, Tryz.f25.ntmps, Γ0, 0, [], []⟩) layF_ok mixed Tryz.func25 rfl (by kernel_rfl) rfl rfl rfl ?_
    repeat' (first | refine ex_true (by first | decide | omega | assumption | (with_reducible exact rfl)) ?_ | refine ex_false (by first | decide | omega | assumption | exact (fun h => h rfl)) ?_ | refine ex_dec (fun _ => ?_) (fun _ => ?_) | refine ex_u8 _ rfl (by omega) (by omega) ?_ | refine ex_i64 _ rfl (by omega) (by omega) ?_ | refine ex_u64 _ rfl (by omega) (by omega) ?_ | refine and_mk (by first | omega | (with_reducible rfl) | (show drawOk _ _ _ = true; kernel_rfl)) ?_ | refine and_mk ⟨_, rfl⟩ ?_ | refine ex_is _ (List.length_map _) ?_ | refine ex_is _ List.length_nil ?_ | fail "no step")
    refine ex_loop (X := Unit) (fun _ => ⟨[(1, .o (.c (.ptr 0 0))), (3, Ti 0)], [(0, .obj [.d (db true), .d (di k), .d dnil, .d (db m), .d (db w)])], 1⟩) (fun _ => 0) (fun _ => True) () trivial (SLe.of ⟨⟨rfl, rfl, trivial⟩, ⟨rfl, trivial⟩⟩) ?_
    rintro ⟨⟩ -
    repeat' (first | refine ex_true (by first | decide | omega | assumption | (with_reducible exact rfl)) ?_ | refine ex_false (by first | decide | omega | assumption | exact (fun h => h rfl)) ?_ | refine ex_dec (fun _ => ?_) (fun _ => ?_) | refine ex_u8 _ rfl (by omega) (by omega) ?_ | refine ex_i64 _ rfl (by omega) (by omega) ?_ | refine ex_u64 _ rfl (by omega) (by omega) ?_ | refine and_mk (by first | omega | (with_reducible rfl) | (show drawOk _ _ _ = true; kernel_rfl)) ?_ | refine and_mk ⟨_, rfl⟩ ?_ | refine ex_is _ (List.length_map _) ?_ | refine ex_is _ List.length_nil ?_ | fail "no step")
    exact TLe.rfl
  · rw [← ho]
    have hsl : opD o = .sl 1 (dis (o.map letO)) := by rw [ho]; rfl
    change CallsA _ _ _ [gD [db true, di k, opD o, db m, db w]] _
    rw [hsl]
    have hdl : (dis (o.map letO)).length = o.length := by rw [List.length_map, List.length_map]
    refine fn_rule (C := ⟨Tryz.prog, layF, Tryz.f25.ntmps, Γ0, 0, [], []⟩) layF_ok mixed Tryz.func25 rfl (by kernel_rfl) rfl rfl rfl ?_
    repeat' (first | refine ex_true (by first | decide | omega | assumption | (with_reducible exact rfl)) ?_ | refine ex_false (by first | decide | omega | assumption | exact (fun h => h rfl)) ?_ | refine ex_dec (fun _ => ?_) (fun _ => ?_) | refine ex_u8 _ rfl (by omega) (by omega) ?_ | refine ex_i64 _ rfl (by omega) (by omega) ?_ | refine ex_u64 _ rfl (by omega) (by omega) ?_ | refine and_mk (by first | omega | (with_reducible rfl) | (show drawOk _ _ _ = true; kernel_rfl)) ?_ | refine and_mk ⟨_, rfl⟩ ?_ | refine ex_is _ (List.length_map _) ?_ | refine ex_is _ List.length_nil ?_ | fail "no step")
    refine ex_loop (X := Nat × Int) (fun ⟨q, z⟩ => ⟨[(1, .o (.c (.ptr 0 0))), (3, Ti z)], [(0, .obj [.d (db true), .d (di k), .d (.sl 1 (dis (o.map letO))), .d (db m), .d (db w)])], 1⟩) (fun x => o.length - x.1) (fun ⟨q, z⟩ => q ≤ o.length ∧ z = q ∧ (o.take q).contains 111 = false) (0, 0) ⟨Nat.zero_le _, rfl, rfl⟩ (SLe.of ⟨⟨rfl, rfl, trivial⟩, ⟨rfl, trivial⟩⟩) ?_
    rintro ⟨q, z⟩ ⟨hq, rfl, hno⟩
    by_cases hql : q < o.length
    · have hx : (o.map letO)[q]? = some (letO o[q]) := by rw [List.getElem?_map, at_some hql]; rfl
      have htk : o.take (q + 1) = o.take q ++ [o[q]] := by rw [List.take_add_one, at_some hql]; rfl
      have hlc := hl o[q] (List.getElem_mem hql)
      have hmem : o[q] ∈ o := List.getElem_mem hql
      generalize o[q] = y at *
      by_cases hy : y = 111
      · have hc : o.contains 111 = true := by rw [← hy]; simpa using hmem
        rw [hc]
        have e : letO y = 14 := by rw [hy]; rfl
        rw [e] at hx
        repeat' (first | refine (ex_row q (14 : Int) rfl hx) ?_ | refine (ex_is _ hdl) ?_ | refine ex_true (by first | decide | omega | assumption | (with_reducible exact rfl)) ?_ | refine ex_false (by first | decide | omega | assumption | exact (fun h => h rfl)) ?_ | refine ex_dec (fun _ => ?_) (fun _ => ?_) | refine ex_u8 _ rfl (by omega) (by omega) ?_ | refine ex_i64 _ rfl (by omega) (by omega) ?_ | refine ex_u64 _ rfl (by omega) (by omega) ?_ | refine and_mk (by first | omega | (with_reducible rfl) | (show drawOk _ _ _ = true; kernel_rfl)) ?_ | refine and_mk ⟨_, rfl⟩ ?_ | refine ex_is _ (List.length_map _) ?_ | refine ex_is _ List.length_nil ?_ | fail "no step")
        exact TLe.rfl
      · have e : letO y ≠ 14 := by rcases hlc with h | rfl | rfl; exact absurd h hy; decide; decide
        repeat' (first | refine ex_i64 ((q + 1 : Nat) : Int) (by omega) (by omega) (by omega) ?_ | refine ex_u64 ((q + 1 : Nat) : Int) (by omega) (by omega) (by omega) ?_ | refine ex_u8 ((q + 1 : Nat) : Int) (by omega) (by omega) (by omega) ?_ | refine (ex_row q (letO y) rfl hx) ?_ | refine (ex_is _ hdl) ?_ | refine ex_true (by first | decide | omega | assumption | (with_reducible exact rfl)) ?_ | refine ex_false (by first | decide | omega | assumption | exact (fun h => h rfl)) ?_ | refine ex_dec (fun _ => ?_) (fun _ => ?_) | refine ex_u8 _ rfl (by omega) (by omega) ?_ | refine ex_i64 _ rfl (by omega) (by omega) ?_ | refine ex_u64 _ rfl (by omega) (by omega) ?_ | refine and_mk (by first | omega | (with_reducible rfl) | (show drawOk _ _ _ = true; kernel_rfl)) ?_ | refine and_mk ⟨_, rfl⟩ ?_ | refine ex_is _ (List.length_map _) ?_ | refine ex_is _ List.length_nil ?_ | fail "no step")
        exact ex_round (q + 1, _) ⟨by omega, rfl, by rw [htk]; simpa [Ne.symm hy] using hno⟩ (by show _ - _ < _ - _; omega) (SLe.of ⟨⟨rfl, rfl, trivial⟩, ⟨rfl, trivial⟩⟩)
    · obtain rfl : q = o.length := by omega
      rw [List.take_length] at hno
      rw [hno]
      repeat' (first | refine (ex_is _ hdl) ?_ | refine ex_true (by first | decide | omega | assumption | (with_reducible exact rfl)) ?_ | refine ex_false (by first | decide | omega | assumption | exact (fun h => h rfl)) ?_ | refine ex_dec (fun _ => ?_) (fun _ => ?_) | refine ex_u8 _ rfl (by omega) (by omega) ?_ | refine ex_i64 _ rfl (by omega) (by omega) ?_ | refine ex_u64 _ rfl (by omega) (by omega) ?_ | refine and_mk (by first | omega | (with_reducible rfl) | (show drawOk _ _ _ = true; kernel_rfl)) ?_ | refine and_mk ⟨_, rfl⟩ ?_ | refine ex_is _ (List.length_map _) ?_ | refine ex_is _ List.length_nil ?_ | fail "no step")
      exact TLe.rfl
end Go.Proofs.YtgfmbkbiingagaaGreatDoor
