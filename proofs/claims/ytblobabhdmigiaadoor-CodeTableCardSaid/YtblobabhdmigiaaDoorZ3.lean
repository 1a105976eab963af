/- Texts that the last one leans on: The types' table of this program, as literals. No condition. Rules for walking code over the abstract state. No condition. A row that is written no more is data wherever it is named. No condition. A walk by itself: tests are split (those that cannot be are left away), reckonings that stay within bounds, ends of drawing regions, calls met by the contracts named. No condition. Equality of numbers, strings, truth values, and of structs and arrays of such. No condition. What is known of a program's variables, put together: tables, numbers, errors. No condition. Plain law of instructions in lines: words, numbers as they are written, lines, fields; a program's text and what lines are parsed to. No condition. strconv.Itoa, Atoi, FormatUint, ParseUint, strings.Split, TrimSuffix as contracts over data; what is known of the program's variables. Conditions: at most 2^20 bytes. The program's lines of instructions: shape, Name, Takes, Alus, line, text. Condition: the listed variables. The program's reading of instructions: number, numbers, find, instr. Conditions: at most 2^20 bytes; the listed variables. The program's reading of lines: put, Parse. Conditions: at most 2^20 bytes; the listed variables. The program's Parse. Conditions: at most 2^20 bytes; the listed variables. The program's lines of instructions: line, text. Condition: the listed variables. General lemmas that this repo's proofs share: the class of worlds that extend a world, a region that  -/
import Derived.Test.YtblobabhdmigiaaDoorRows
import Derived.Laws.StructEq
import Derived.ChangeKeysEq
import Derived.Lib.SplitLaws
import Derived.Lib.AtoiAllCases
import Derived.Lib.ParseIntB
import Derived.Lib.ItoaNum
import Derived.Lib.AppendIntMem
import Derived.WalkKit
import Derived.WalkSpells
import Derived.WalkLawsBesides
import Derived.BigQuiet
import Derived.Lib.Hide
import Derived.Handy
import Derived.StillTail
import Derived.Lib.ConvBytes
import Derived.Lib.Builder
import Derived.Test.YtblobabhdmigiaaDoorZ1
import Derived.Test.YtblobabhdmigiaaDoorZ2
namespace Go.Proofs.YtblobabhdmigiaaDoor
set_option linter.unusedVariables false
set_option linter.unusedSimpArgs false

def lay : List (Nat × Lay) := [
  (1, ⟨1, 8, [.nilFunc], .other⟩),
  (2, ⟨1, 8, [.int .i64 0], .int .i64⟩),
  (3, ⟨1, 8, [.int .i64 0], .int .i64⟩),
  (4, ⟨1, 1, [.bool false], .bool⟩),
  (5, ⟨1, 1, [.int .u8 0], .int .u8⟩),
  (6, ⟨1, 1, [.int .u8 0], .int .u8⟩),
  (7, ⟨4, 24, [.int .i64 0, .int .i64 0, .bool false, .int .u8 0], .st [(0, 1, false), (1, 1, false), (2, 1, false), (3, 1, false)]⟩),
  (8, ⟨4, 24, [.int .i64 0, .int .i64 0, .bool false, .int .u8 0], .st [(0, 1, false), (1, 1, false), (2, 1, false), (3, 1, false)]⟩),
  (9, ⟨1, 16, [.string ⟨#[]⟩], .str⟩),
  (10, ⟨1, 16, [.string ⟨#[]⟩], .str⟩),
  (11, ⟨1, 16, [.string ⟨#[]⟩], .str⟩),
  (12, ⟨1, 8, [.int .u64 0], .int .u64⟩),
  (13, ⟨2, 24, [.string ⟨#[]⟩, .int .u64 0], .st [(0, 1, false), (1, 1, false)]⟩),
  (14, ⟨2, 24, [.string ⟨#[]⟩, .int .u64 0], .st [(0, 1, false), (1, 1, false)]⟩),
  (15, ⟨1, 8, [.pointer none], .other⟩),
  (16, ⟨1, 8, [.pointer none], .other⟩),
  (17, ⟨1, 8, [.pointer none], .other⟩),
  (18, ⟨1, 8, [.pointer none], .st [(0, 1, false)]⟩),
  (19, ⟨1, 8, [.pointer none], .st [(0, 1, false)]⟩),
  (20, ⟨1, 16, [.nilIface], .other⟩),
  (21, ⟨1, 4, [.int .i32 0], .int .i32⟩),
  (22, ⟨1, 24, [.slice none 0 0], .sl 3⟩),
  (23, ⟨3, 24, [.int .i64 0, .int .i64 0, .int .i64 0], .arr 3 3⟩),
  (25, ⟨1, 8, [.nilFunc], .other⟩),
  (27, ⟨1, 8, [.int .i64 0], .int .i64⟩),
  (28, ⟨1, 8, [.nilFunc], .other⟩),
  (29, ⟨1, 8, [.nilFunc], .other⟩),
  (30, ⟨1, 24, [.slice none 0 0], .sl 9⟩),
  (31, ⟨1, 8, [.nilFunc], .other⟩),
  (32, ⟨1, 8, [.int .u64 0], .int .u64⟩),
  (34, ⟨1, 8, [.nilFunc], .other⟩),
  (35, ⟨1, 8, [.nilFunc], .other⟩),
  (36, ⟨1, 8, [.nilFunc], .other⟩),
  (37, ⟨1, 24, [.slice none 0 0], .sl 23⟩),
  (38, ⟨1, 24, [.slice none 0 0], .sl 72⟩),
  (39, ⟨1, 24, [.slice none 0 0], .sl 70⟩),
  (40, ⟨1, 24, [.slice none 0 0], .sl 59⟩),
  (41, ⟨2, 48, [.slice none 0 0, .slice none 0 0], .st [(0, 1, false), (1, 1, false)]⟩),
  (42, ⟨2, 48, [.slice none 0 0, .slice none 0 0], .st [(0, 1, false), (1, 1, false)]⟩),
  (43, ⟨1, 24, [.slice none 0 0], .sl 73⟩),
  (44, ⟨2, 48, [.slice none 0 0, .slice none 0 0], .st [(0, 1, false), (1, 1, false)]⟩),
  (45, ⟨2, 48, [.slice none 0 0, .slice none 0 0], .st [(0, 1, false), (1, 1, false)]⟩),
  (47, ⟨1, 8, [.nilFunc], .other⟩),
  (48, ⟨1, 8, [.nilFunc], .other⟩),
  (49, ⟨1, 8, [.nilFunc], .other⟩),
  (50, ⟨1, 8, [.nilFunc], .other⟩),
  (51, ⟨1, 8, [.int .i64 0], .int .i64⟩),
  (53, ⟨1, 8, [.nilFunc], .other⟩),
  (55, ⟨1, 8, [.nilFunc], .other⟩),
  (56, ⟨1, 8, [.nilFunc], .other⟩),
  (57, ⟨1, 8, [.nilFunc], .other⟩),
  (58, ⟨4, 32, [.int .i64 0, .int .i64 0, .int .i64 0, .int .u64 0], .st [(0, 1, false), (1, 1, false), (2, 1, false), (3, 1, false)]⟩),
  (59, ⟨4, 32, [.int .i64 0, .int .i64 0, .int .i64 0, .int .u64 0], .st [(0, 1, false), (1, 1, false), (2, 1, false), (3, 1, false)]⟩),
  (60, ⟨1, 8, [.nilFunc], .other⟩),
  (61, ⟨4, 40, [.string ⟨#[]⟩, .int .i64 0, .int .i64 0, .int .i64 0], .st [(0, 1, false), (1, 1, false), (2, 1, false), (3, 1, false)]⟩),
  (62, ⟨4, 40, [.string ⟨#[]⟩, .int .i64 0, .int .i64 0, .int .i64 0], .st [(0, 1, false), (1, 1, false), (2, 1, false), (3, 1, false)]⟩),
  (63, ⟨1, 8, [.nilFunc], .other⟩),
  (64, ⟨1, 8, [.nilFunc], .other⟩),
  (66, ⟨1, 8, [.nilFunc], .other⟩),
  (67, ⟨1, 8, [.nilFunc], .other⟩),
  (68, ⟨1, 8, [.nilFunc], .other⟩),
  (69, ⟨3, 24, [.int .i64 0, .int .i64 0, .int .i64 0], .st [(0, 1, false), (1, 1, false), (2, 1, false)]⟩),
  (70, ⟨3, 24, [.int .i64 0, .int .i64 0, .int .i64 0], .st [(0, 1, false), (1, 1, false), (2, 1, false)]⟩),
  (71, ⟨4, 32, [.int .i64 0, .int .i64 0, .int .i64 0, .int .u64 0], .st [(0, 1, false), (1, 1, false), (2, 1, false), (3, 1, false)]⟩),
  (72, ⟨4, 32, [.int .i64 0, .int .i64 0, .int .i64 0, .int .u64 0], .st [(0, 1, false), (1, 1, false), (2, 1, false), (3, 1, false)]⟩),
  (73, ⟨4, 32, [.int .i64 0, .int .i64 0, .int .i64 0, .int .u64 0], .st [(0, 1, false), (1, 1, false), (2, 1, false), (3, 1, false)]⟩),
  (74, ⟨1, 8, [.pointer none], .other⟩),
  (75, ⟨1, 24, [.slice none 0 0], .sl 5⟩),
  (76, ⟨2, 32, [.pointer none, .slice none 0 0], .st [(0, 1, false), (1, 1, false)]⟩),
  (77, ⟨2, 32, [.pointer none, .slice none 0 0], .st [(0, 1, false), (1, 1, false)]⟩),
  (78, ⟨1, 16, [.nilIface], .other⟩),
  (79, ⟨1, 16, [.nilIface], .other⟩),
  (81, ⟨1, 8, [.nilFunc], .other⟩),
  (82, ⟨1, 8, [.nilFunc], .other⟩),
  (83, ⟨1, 8, [.nilFunc], .other⟩),
  (84, ⟨1, 8, [.nilFunc], .other⟩),
  (85, ⟨1, 8, [.nilFunc], .other⟩),
  (86, ⟨1, 8, [.nilFunc], .other⟩),
  (87, ⟨1, 8, [.nilFunc], .other⟩),
  (89, ⟨1, 8, [.nilFunc], .other⟩),
  (91, ⟨1, 8, [.nilFunc], .other⟩),
  (92, ⟨144, 1440, [.string ⟨#[]⟩, .int .i64 0, .int .i64 0, .int .i64 0, .string ⟨#[]⟩, .int .i64 0, .int .i64 0, .int .i64 0, .string ⟨#[]⟩, .int .i64 0, .int .i64 0, .int .i64 0, .string ⟨#[]⟩, .int .i64 0, .int .i64 0, .int .i64 0, .string ⟨#[]⟩, .int .i64 0, .int .i64 0, .int .i64 0, .string ⟨#[]⟩, .int .i64 0, .int .i64 0, .int .i64 0, .string ⟨#[]⟩, .int .i64 0, .int .i64 0, .int .i64 0, .string ⟨#[]⟩, .int .i64 0, .int .i64 0, .int .i64 0, .string ⟨#[]⟩, .int .i64 0, .int .i64 0, .int .i64 0, .string ⟨#[]⟩, .int .i64 0, .int .i64 0, .int .i64 0, .string ⟨#[]⟩, .int .i64 0, .int .i64 0, .int .i64 0, .string ⟨#[]⟩, .int .i64 0, .int .i64 0, .int .i64 0, .string ⟨#[]⟩, .int .i64 0, .int .i64 0, .int .i64 0, .string ⟨#[]⟩, .int .i64 0, .int .i64 0, .int .i64 0, .string ⟨#[]⟩, .int .i64 0, .int .i64 0, .int .i64 0, .string ⟨#[]⟩, .int .i64 0, .int .i64 0, .int .i64 0, .string ⟨#[]⟩, .int .i64 0, .int .i64 0, .int .i64 0, .string ⟨#[]⟩, .int .i64 0, .int .i64 0, .int .i64 0, .string ⟨#[]⟩, .int .i64 0, .int .i64 0, .int .i64 0, .string ⟨#[]⟩, .int .i64 0, .int .i64 0, .int .i64 0, .string ⟨#[]⟩, .int .i64 0, .int .i64 0, .int .i64 0, .string ⟨#[]⟩, .int .i64 0, .int .i64 0, .int .i64 0, .string ⟨#[]⟩, .int .i64 0, .int .i64 0, .int .i64 0, .string ⟨#[]⟩, .int .i64 0, .int .i64 0, .int .i64 0, .string ⟨#[]⟩, .int .i64 0, .int .i64 0, .int .i64 0, .string ⟨#[]⟩, .int .i64 0, .int .i64 0, .int .i64 0, .string ⟨#[]⟩, .int .i64 0, .int .i64 0, .int .i64 0, .string ⟨#[]⟩, .int .i64 0, .int .i64 0, .int .i64 0, .string ⟨#[]⟩, .int .i64 0, .int .i64 0, .int .i64 0, .string ⟨#[]⟩, .int .i64 0, .int .i64 0, .int .i64 0, .string ⟨#[]⟩, .int .i64 0, .int .i64 0, .int .i64 0, .string ⟨#[]⟩, .int .i64 0, .int .i64 0, .int .i64 0, .string ⟨#[]⟩, .int .i64 0, .int .i64 0, .int .i64 0, .string ⟨#[]⟩, .int .i64 0, .int .i64 0, .int .i64 0, .string ⟨#[]⟩, .int .i64 0, .int .i64 0, .int .i64 0, .string ⟨#[]⟩, .int .i64 0, .int .i64 0, .int .i64 0], .arr 36 62⟩),
  (93, ⟨1, 8, [.nilFunc], .other⟩),
  (94, ⟨1, 8, [.nilFunc], .other⟩),
  (95, ⟨1, 8, [.nilFunc], .other⟩),
  (96, ⟨1, 8, [.nilFunc], .other⟩),
  (97, ⟨1, 8, [.pointer none], .other⟩),
  (98, ⟨1, 8, [.nilFunc], .other⟩),
  (99, ⟨1, 8, [.nilFunc], .other⟩),
  (100, ⟨1, 8, [.pointer none], .other⟩),
  (102, ⟨1, 8, [.nilFunc], .other⟩),
  (104, ⟨1, 8, [.nilFunc], .other⟩),
  (106, ⟨1, 8, [.nilFunc], .other⟩),
  (107, ⟨1, 8, [.pointer none], .other⟩),
  (108, ⟨1, 8, [.nilFunc], .other⟩),
  (109, ⟨1, 8, [.nilFunc], .other⟩),
  (110, ⟨1, 8, [.nilFunc], .other⟩),
  (111, ⟨1, 8, [.nilFunc], .other⟩),
  (113, ⟨1, 8, [.nilFunc], .other⟩),
  (115, ⟨1, 8, [.nilFunc], .other⟩),
  (116, ⟨1, 8, [.nilFunc], .other⟩),
  (117, ⟨24, 24, [.int .u8 0, .int .u8 0, .int .u8 0, .int .u8 0, .int .u8 0, .int .u8 0, .int .u8 0, .int .u8 0, .int .u8 0, .int .u8 0, .int .u8 0, .int .u8 0, .int .u8 0, .int .u8 0, .int .u8 0, .int .u8 0, .int .u8 0, .int .u8 0, .int .u8 0, .int .u8 0, .int .u8 0, .int .u8 0, .int .u8 0, .int .u8 0], .arr 24 5⟩),
  (118, ⟨1, 8, [.nilFunc], .other⟩),
  (119, ⟨1, 8, [.nilFunc], .other⟩),
  (121, ⟨1, 8, [.nilFunc], .other⟩),
  (122, ⟨1, 8, [.nilFunc], .other⟩),
  (124, ⟨1, 8, [.nilFunc], .other⟩),
  (125, ⟨1, 8, [.nilFunc], .other⟩),
  (126, ⟨1, 8, [.nilFunc], .other⟩),
  (127, ⟨1, 8, [.nilFunc], .other⟩),
  (128, ⟨1, 8, [.nilFunc], .other⟩),
  (129, ⟨20, 160, [.int .u64 0, .int .u64 0, .int .u64 0, .int .u64 0, .int .u64 0, .int .u64 0, .int .u64 0, .int .u64 0, .int .u64 0, .int .u64 0, .int .u64 0, .int .u64 0, .int .u64 0, .int .u64 0, .int .u64 0, .int .u64 0, .int .u64 0, .int .u64 0, .int .u64 0, .int .u64 0], .arr 20 32⟩),
  (130, ⟨1, 4, [.int .u32 0], .int .u32⟩),
  (131, ⟨65, 65, [.int .u8 0, .int .u8 0, .int .u8 0, .int .u8 0, .int .u8 0, .int .u8 0, .int .u8 0, .int .u8 0, .int .u8 0, .int .u8 0, .int .u8 0, .int .u8 0, .int .u8 0, .int .u8 0, .int .u8 0, .int .u8 0, .int .u8 0, .int .u8 0, .int .u8 0, .int .u8 0, .int .u8 0, .int .u8 0, .int .u8 0, .int .u8 0, .int .u8 0, .int .u8 0, .int .u8 0, .int .u8 0, .int .u8 0, .int .u8 0, .int .u8 0, .int .u8 0, .int .u8 0, .int .u8 0, .int .u8 0, .int .u8 0, .int .u8 0, .int .u8 0, .int .u8 0, .int .u8 0, .int .u8 0, .int .u8 0, .int .u8 0, .int .u8 0, .int .u8 0, .int .u8 0, .int .u8 0, .int .u8 0, .int .u8 0, .int .u8 0, .int .u8 0, .int .u8 0, .int .u8 0, .int .u8 0, .int .u8 0, .int .u8 0, .int .u8 0, .int .u8 0, .int .u8 0, .int .u8 0, .int .u8 0, .int .u8 0, .int .u8 0, .int .u8 0, .int .u8 0], .arr 65 5⟩),
  (132, ⟨1, 8, [.int .u64 0], .int .u64⟩),
  (133, ⟨1, 8, [.nilFunc], .other⟩),
  (134, ⟨1, 8, [.int .i64 0], .int .i64⟩),
  (135, ⟨1, 8, [.nilFunc], .other⟩),
  (136, ⟨1, 8, [.pointer none], .other⟩),
  (137, ⟨1, 8, [.nilFunc], .other⟩),
  (138, ⟨1, 8, [.nilFunc], .other⟩),
  (139, ⟨1, 8, [.nilFunc], .other⟩),
  (140, ⟨256, 256, [.int .u8 0, .int .u8 0, .int .u8 0, .int .u8 0, .int .u8 0, .int .u8 0, .int .u8 0, .int .u8 0, .int .u8 0, .int .u8 0, .int .u8 0, .int .u8 0, .int .u8 0, .int .u8 0, .int .u8 0, .int .u8 0, .int .u8 0, .int .u8 0, .int .u8 0, .int .u8 0, .int .u8 0, .int .u8 0, .int .u8 0, .int .u8 0, .int .u8 0, .int .u8 0, .int .u8 0, .int .u8 0, .int .u8 0, .int .u8 0, .int .u8 0, .int .u8 0, .int .u8 0, .int .u8 0, .int .u8 0, .int .u8 0, .int .u8 0, .int .u8 0, .int .u8 0, .int .u8 0, .int .u8 0, .int .u8 0, .int .u8 0, .int .u8 0, .int .u8 0, .int .u8 0, .int .u8 0, .int .u8 0, .int .u8 0, .int .u8 0, .int .u8 0, .int .u8 0, .int .u8 0, .int .u8 0, .int .u8 0, .int .u8 0, .int .u8 0, .int .u8 0, .int .u8 0, .int .u8 0, .int .u8 0, .int .u8 0, .int .u8 0, .int .u8 0, .int .u8 0, .int .u8 0, .int .u8 0, .int .u8 0, .int .u8 0, .int .u8 0, .int .u8 0, .int .u8 0, .int .u8 0, .int .u8 0, .int .u8 0, .int .u8 0, .int .u8 0, .int .u8 0, .int .u8 0, .int .u8 0, .int .u8 0, .int .u8 0, .int .u8 0, .int .u8 0, .int .u8 0, .int .u8 0, .int .u8 0, .int .u8 0, .int .u8 0, .int .u8 0, .int .u8 0, .int .u8 0, .int .u8 0, .int .u8 0, .int .u8 0, .int .u8 0, .int .u8 0, .int .u8 0, .int .u8 0, .int .u8 0, .int .u8 0, .int .u8 0, .int .u8 0, .int .u8 0, .int .u8 0, .int .u8 0, .int .u8 0, .int .u8 0, .int .u8 0, .int .u8 0, .int .u8 0, .int .u8 0, .int .u8 0, .int .u8 0, .int .u8 0, .int .u8 0, .int .u8 0, .int .u8 0, .int .u8 0, .int .u8 0, .int .u8 0, .int .u8 0, .int .u8 0, .int .u8 0, .int .u8 0, .int .u8 0, .int .u8 0, .int .u8 0, .int .u8 0, .int .u8 0, .int .u8 0, .int .u8 0, .int .u8 0, .int .u8 0, .int .u8 0, .int .u8 0, .int .u8 0, .int .u8 0, .int .u8 0, .int .u8 0, .int .u8 0, .int .u8 0, .int .u8 0, .int .u8 0, .int .u8 0, .int .u8 0, .int .u8 0, .int .u8 0, .int .u8 0, .int .u8 0, .int .u8 0, .int .u8 0, .int .u8 0, .int .u8 0, .int .u8 0, .int .u8 0, .int .u8 0, .int .u8 0, .int .u8 0, .int .u8 0, .int .u8 0, .int .u8 0, .int .u8 0, .int .u8 0, .int .u8 0, .int .u8 0, .int .u8 0, .int .u8 0, .int .u8 0, .int .u8 0, .int .u8 0, .int .u8 0, .int .u8 0, .int .u8 0, .int .u8 0, .int .u8 0, .int .u8 0, .int .u8 0, .int .u8 0, .int .u8 0, .int .u8 0, .int .u8 0, .int .u8 0, .int .u8 0, .int .u8 0, .int .u8 0, .int .u8 0, .int .u8 0, .int .u8 0, .int .u8 0, .int .u8 0, .int .u8 0, .int .u8 0, .int .u8 0, .int .u8 0, .int .u8 0, .int .u8 0, .int .u8 0, .int .u8 0, .int .u8 0, .int .u8 0, .int .u8 0, .int .u8 0, .int .u8 0, .int .u8 0, .int .u8 0, .int .u8 0, .int .u8 0, .int .u8 0, .int .u8 0, .int .u8 0, .int .u8 0, .int .u8 0, .int .u8 0, .int .u8 0, .int .u8 0, .int .u8 0, .int .u8 0, .int .u8 0, .int .u8 0, .int .u8 0, .int .u8 0, .int .u8 0, .int .u8 0, .int .u8 0, .int .u8 0, .int .u8 0, .int .u8 0, .int .u8 0, .int .u8 0, .int .u8 0, .int .u8 0, .int .u8 0, .int .u8 0, .int .u8 0, .int .u8 0, .int .u8 0, .int .u8 0, .int .u8 0, .int .u8 0, .int .u8 0, .int .u8 0, .int .u8 0, .int .u8 0, .int .u8 0, .int .u8 0, .int .u8 0, .int .u8 0, .int .u8 0, .int .u8 0, .int .u8 0, .int .u8 0, .int .u8 0, .int .u8 0, .int .u8 0, .int .u8 0], .arr 256 5⟩),
  (141, ⟨2, 2, [.int .u8 0, .int .u8 0], .st [(0, 1, false), (1, 1, false)]⟩),
  (142, ⟨2, 2, [.int .u8 0, .int .u8 0], .st [(0, 1, false), (1, 1, false)]⟩),
  (143, ⟨32, 32, [.int .u8 0, .int .u8 0, .int .u8 0, .int .u8 0, .int .u8 0, .int .u8 0, .int .u8 0, .int .u8 0, .int .u8 0, .int .u8 0, .int .u8 0, .int .u8 0, .int .u8 0, .int .u8 0, .int .u8 0, .int .u8 0, .int .u8 0, .int .u8 0, .int .u8 0, .int .u8 0, .int .u8 0, .int .u8 0, .int .u8 0, .int .u8 0, .int .u8 0, .int .u8 0, .int .u8 0, .int .u8 0, .int .u8 0, .int .u8 0, .int .u8 0, .int .u8 0], .arr 16 142⟩),
  (145, ⟨1, 8, [.nilFunc], .other⟩),
  (146, ⟨1, 8, [.nilFunc], .other⟩),
  (147, ⟨3, 48, [.string ⟨#[]⟩, .string ⟨#[]⟩, .nilIface], .st [(0, 1, false), (1, 1, false), (2, 1, false)]⟩),
  (148, ⟨3, 48, [.string ⟨#[]⟩, .string ⟨#[]⟩, .nilIface], .st [(0, 1, false), (1, 1, false), (2, 1, false)]⟩),
  (149, ⟨1, 8, [.nilFunc], .other⟩),
  (151, ⟨1, 8, [.nilFunc], .other⟩),
  (152, ⟨32, 32, [.int .u8 0, .int .u8 0, .int .u8 0, .int .u8 0, .int .u8 0, .int .u8 0, .int .u8 0, .int .u8 0, .int .u8 0, .int .u8 0, .int .u8 0, .int .u8 0, .int .u8 0, .int .u8 0, .int .u8 0, .int .u8 0, .int .u8 0, .int .u8 0, .int .u8 0, .int .u8 0, .int .u8 0, .int .u8 0, .int .u8 0, .int .u8 0, .int .u8 0, .int .u8 0, .int .u8 0, .int .u8 0, .int .u8 0, .int .u8 0, .int .u8 0, .int .u8 0], .arr 32 5⟩),
  (153, ⟨64, 64, [.int .u8 0, .int .u8 0, .int .u8 0, .int .u8 0, .int .u8 0, .int .u8 0, .int .u8 0, .int .u8 0, .int .u8 0, .int .u8 0, .int .u8 0, .int .u8 0, .int .u8 0, .int .u8 0, .int .u8 0, .int .u8 0, .int .u8 0, .int .u8 0, .int .u8 0, .int .u8 0, .int .u8 0, .int .u8 0, .int .u8 0, .int .u8 0, .int .u8 0, .int .u8 0, .int .u8 0, .int .u8 0, .int .u8 0, .int .u8 0, .int .u8 0, .int .u8 0, .int .u8 0, .int .u8 0, .int .u8 0, .int .u8 0, .int .u8 0, .int .u8 0, .int .u8 0, .int .u8 0, .int .u8 0, .int .u8 0, .int .u8 0, .int .u8 0, .int .u8 0, .int .u8 0, .int .u8 0, .int .u8 0, .int .u8 0, .int .u8 0, .int .u8 0, .int .u8 0, .int .u8 0, .int .u8 0, .int .u8 0, .int .u8 0, .int .u8 0, .int .u8 0, .int .u8 0, .int .u8 0, .int .u8 0, .int .u8 0, .int .u8 0, .int .u8 0], .arr 64 5⟩),
  (154, ⟨1, 8, [.pointer none], .other⟩),
  (155, ⟨1, 16, [.string ⟨#[]⟩], .st [(0, 1, false)]⟩),
  (156, ⟨1, 16, [.string ⟨#[]⟩], .st [(0, 1, false)]⟩),
  (157, ⟨4, 40, [.pointer none, .pointer none, .pointer none, .string ⟨#[]⟩], .st [(0, 1, false), (1, 1, false), (2, 1, false), (3, 1, false)]⟩),
  (158, ⟨4, 40, [.pointer none, .pointer none, .pointer none, .string ⟨#[]⟩], .st [(0, 1, false), (1, 1, false), (2, 1, false), (3, 1, false)]⟩),
  (159, ⟨0, 0, [], .arr 0 16⟩),
  (160, ⟨0, 0, [], .st [(0, 0, true)]⟩),
  (161, ⟨0, 0, [], .st [(0, 0, true)]⟩),
  (162, ⟨1, 8, [.nilFunc], .other⟩),
  (163, ⟨1, 1, [.int .u8 0], .int .u8⟩),
  (164, ⟨1, 1, [.int .u8 0], .int .u8⟩),
  (165, ⟨1, 8, [.nilFunc], .other⟩),
  (166, ⟨1, 4, [.int .i32 0], .int .i32⟩),
  (167, ⟨1, 4, [.int .i32 0], .int .i32⟩),
  (168, ⟨11, 48, [.int .u64 0, .int .u64 0, .int .u32 0, .int .u8 0, .int .u8 0, .int .u8 0, .int .u8 0, .nilFunc, .pointer none, .int .i32 0, .int .i32 0], .st [(0, 1, false), (1, 1, false), (2, 1, false), (3, 1, false), (4, 1, false), (5, 1, false), (6, 1, false), (7, 1, false), (8, 1, false), (9, 1, false), (10, 1, false)]⟩),
  (169, ⟨11, 48, [.int .u64 0, .int .u64 0, .int .u32 0, .int .u8 0, .int .u8 0, .int .u8 0, .int .u8 0, .nilFunc, .pointer none, .int .i32 0, .int .i32 0], .st [(0, 1, false), (1, 1, false), (2, 1, false), (3, 1, false), (4, 1, false), (5, 1, false), (6, 1, false), (7, 1, false), (8, 1, false), (9, 1, false), (10, 1, false)]⟩)]
set_option maxRecDepth 100000 in
theorem lay_all : lay.map (fun p => layOf Tryd.prog p.1) = lay.map (fun p => some p.2) := by kernel_rfl
def layF (t : Nat) : Option Lay := findL lay t
theorem layF_ok : LOk Tryd.prog layF := fun t l h => by
  have := List.map_inj_left.1 lay_all (t, l) (findL_mem h)
  exact this
theorem mixed : Tryd.prog.follows .mixedOrders = true := by kernel_rfl
end Go.Proofs.YtblobabhdmigiaaDoor

namespace Go.Proofs.YtblobabhdmigiaaDoor
set_option linter.unusedVariables false
set_option linter.unusedSimpArgs false
open Go.RowKit

abbrev di (n : Int) : D := .v (.int .i64 n)
abbrev du (n : Int) : D := .v (.int .u64 n)
abbrev db (b : Bool) : D := .v (.bool b)
abbrev ds (s : ByteArray) : D := .v (.string s)
abbrev dnil : D := .v (.slice none 0 0)
abbrev Ti (n : Int) : TV := .o (.c (.d (.v (.int .i64 n))))
abbrev Tu (n : Int) : TV := .o (.c (.d (.v (.int .u64 n))))
abbrev Tb (b : Bool) : TV := .o (.c (.d (.v (.bool b))))
abbrev c1 (x : D) : T1 := .c (.d x)
abbrev gD (l : List D) : T1 := .g (l.map .d)
/-- Nothing is known of the program's variables. -/
def Γ0 : Glob := ⟨fun _ _ => True, fun _ _ _ => trivial, [], fun _ => none, fun _ h => by cases h⟩

section
variable {p q : Prop} {K : Bool → Prop}
theorem ex_dec [Decidable p] (ht : p → K true) (hf : ¬ p → K false) : ∃ b, decide p = b ∧ K b := by
  by_cases h : p
  · exact ⟨true, decide_eq_true h, ht h⟩
  · exact ⟨false, decide_eq_false h, hf h⟩
theorem ex_true [Decidable p] (h : p) (hk : K true) : ∃ b, decide p = b ∧ K b := ⟨true, decide_eq_true h, hk⟩
theorem ex_false [Decidable p] (h : ¬ p) (hk : K false) : ∃ b, decide p = b ∧ K b := ⟨false, decide_eq_false h, hk⟩
theorem ex_eq {α : Type} {e : α} {K : α → Prop} (h : K e) : ∃ z, e = z ∧ K z := ⟨e, rfl, h⟩
theorem ex_is {α : Type} {e : α} (z : α) {K : α → Prop} (he : e = z) (h : K z) : ∃ z, e = z ∧ K z := ⟨z, he, h⟩
end
theorem wrap_i64' {n : Int} (h1 : -9223372036854775808 ≤ n) (h2 : n ≤ 9223372036854775807) : IntKind.i64.wrap n = n := by rw [IntKind.wrap_i64]; omega
theorem wrap_un {k : IntKind} (hk : k.signed = false) {n : Int} (h1 : 0 ≤ n) (h2 : n < 2 ^ k.bits) : k.wrap n = n := by
  unfold IntKind.wrap
  simp only [hk, Bool.false_and, Bool.false_eq_true, if_false]
  exact Int.emod_eq_of_lt h1 h2
theorem ex_i64 {e : Int} (z : Int) {K : Int → Prop} (he : e = z) (h1 : -9223372036854775808 ≤ z) (h2 : z ≤ 9223372036854775807) (h : K z) : ∃ z, IntKind.i64.wrap e = z ∧ K z := ⟨z, by rw [he]; exact wrap_i64' h1 h2, h⟩
theorem ex_u64 {e : Int} (z : Int) {K : Int → Prop} (he : e = z) (h1 : 0 ≤ z) (h2 : z < 18446744073709551616) (h : K z) : ∃ z, IntKind.u64.wrap e = z ∧ K z := ⟨z, by rw [he]; exact wrap_un (by rfl) h1 h2, h⟩
theorem ex_u8 {e : Int} (z : Int) {K : Int → Prop} (he : e = z) (h1 : 0 ≤ z) (h2 : z < 256) (h : K z) : ∃ z, IntKind.u8.wrap e = z ∧ K z := ⟨z, by rw [he]; exact wrap_un (by rfl) h1 h2, h⟩
/-- An index into rows that are images of a list. -/
theorem ex_row {α : Type} {f : α → List D} {l : List α} {n : Int} (i : Nat) (x : α) (hn : n = i) (hx : l[i]? = some x) {K : List D → Prop} (h : K (f x)) : ∃ r, 0 ≤ n ∧ (l.map f)[n.toNat]? = some r ∧ K r := by
  subst hn
  exact ⟨f x, by omega, by simp [hx], h⟩
/-- An append. -/
theorem ex_app {α : Type} {r1 r2 : List α} {b : Nat} (n m c : Nat) (h1 : r1.length = n) (h2 : r2.length = m) (hc : Nat.ble b c = true) (hb : (n + m) * c ≤ 140737488355328) {K : Prop} (h : K) : (r1.length + r2.length) * b ≤ 140737488355328 ∧ K := ⟨by
  rw [h1, h2]
  exact Nat.le_trans (Nat.mul_le_mul_left _ (Nat.le_of_ble_eq_true hc)) hb, h⟩
theorem ex_at {α : Type} {f : α → List D} {l : List α} (i : Nat) (x : α) (hx : l[i]? = some x) {K : List D → Prop} {a : Nat} (h : K (f x)) : a = a ∧ ∃ r, (l.map f)[i]? = some r ∧ K r := ⟨rfl, f x, by simp [hx], h⟩
theorem ex_chr {s : ByteArray} {n : Int} (i : Nat) (b : UInt8) (hn : n = i) (hb : s.data.toList[i]? = some b) {K : UInt8 → Prop} (h : K b) : ∃ b, 0 ≤ n ∧ s.data.toList[n.toNat]? = some b ∧ K b := by
  subst hn
  exact ⟨b, by omega, by simpa using hb, h⟩
theorem at_some {α : Type} {l : List α} {i : Nat} (h : i < l.length) : l[i]? = some l[i] := List.getElem?_eq_getElem h
section
variable {P : Program} {Γ : Glob}
/-- A call of a function of data. -/
theorem ex_call {f : FuncId} {xs : List T1} {r : TV} (h : CallsA P Γ f xs r) {K : TV → Prop} (hk : K r) : ∃ r, CallsA P Γ f xs r ∧ K r := ⟨r, h, hk⟩
theorem ex_callM {f : FuncId} {m : List (Nat × Blk)} {nx : Nat} {xs : List T1} {r : TV} {upd : List (Nat × Blk)} {new : List Blk} (h : CallsM P Γ f m nx xs r upd new) {K : TV → List (Nat × Blk) → List Blk → Prop} (hk : K r upd new) : ∃ r upd new, CallsM P Γ f m nx xs r upd new ∧ K r upd new := ⟨r, upd, new, h, hk⟩
end
/-- A loop. -/
theorem ex_loop {X : Type} (f : X → St) (μ : X → Nat) (p : X → Prop) (x0 : X) {nx0 : Nat} {st : St} {V : (I : LoopI) → I.X → Prop} (h0 : p x0) (h1 : SLe nx0 (f x0) st) (h2 : ∀ x, p x → V ⟨X, f, μ, p⟩ x) :
    ∃ (I : LoopI) (x0 : I.X), I.p x0 ∧ SLe nx0 (I.f x0) st ∧ ∀ x, I.p x → V I x := ⟨⟨X, f, μ, p⟩, x0, h0, h1, h2⟩
/-- Where ways come together. -/
theorem ex_join {X : Type} (f : X → St) (p : X → Prop) {A : JoinI → Prop} {B : (I : JoinI) → I.X → Prop} (h1 : A ⟨X, f, p⟩) (h2 : ∀ x, p x → B ⟨X, f, p⟩ x) : ∃ I : JoinI, A I ∧ ∀ x, I.p x → B I x := ⟨⟨X, f, p⟩, h1, h2⟩
theorem ex_meet {X : Type} {f : X → St} {p : X → Prop} {nx0 : Nat} {st : St} (x : X) (h0 : p x) (h2 : SLe nx0 (f x) st) : ∃ x, p x ∧ SLe nx0 (f x) st := ⟨x, h0, h2⟩
theorem ex_round {X : Type} {f : X → St} {μ : X → Nat} {p : X → Prop} {nx0 : Nat} {st : St} {x : X} (x' : X) (h0 : p x') (h1 : μ x' < μ x) (h2 : SLe nx0 (f x') st) : ∃ x', p x' ∧ μ x' < μ x ∧ SLe nx0 (f x') st := ⟨x', h0, h1, h2⟩
theorem le_nil {α : Type} {m : List (Nat × α)} : leL [] m := trivial
theorem le_cons {α : Type} {k : Nat} {v : α} {l m : List (Nat × α)} (h : findL m k = some v) (t : leL l m) : leL ((k, v) :: l) m := ⟨h, t⟩
theorem le_val {α : Type} {k : Nat} {v v' : α} {l m : List (Nat × α)} (h : findL m k = some v') (e : v' = v) (t : leL l m) : leL ((k, v) :: l) m := ⟨e ▸ h, t⟩
/-- A nil slice reads as a slice without rows. -/
theorem CLe_nil {ι : Nat → Value} {S : Nat → Prop} {w : World} {s : Nat} {v : Value} (h : VC ι S w (.d (.v (.slice none 0 0))) v) : VC ι S w (.d (.sl s [])) v := by
  have h' : Imm S w _ v := h
  cases h'
  exact Imm.nil
theorem TLe.nil {s : Nat} : TLe (.o (.c (.d (.v (.slice none 0 0))))) (.o (.c (.d (.sl s [])))) := fun ι _ _ _ h => CLe_nil (ι := ι) h
/-- A contract met with a flat result. -/
theorem flat_end {S : Nat → Prop} {w w' : World} {r : TV} {v : Value} (hs : ∀ b, S b → b < w.heap.size) (hb : Below w.heap.size w w') (hv : V ι0 S w' r v) : ∃ x S', Ending.returned v = .returned x ∧ Below w.heap.size w w' ∧ (∀ b, S b → S' b) ∧ (∀ b, S' b → S b ∨ w.heap.size ≤ b) ∧ (∀ b, S' b → b < w'.heap.size) ∧ V ι0 S' w' r x :=
  ⟨v, S, rfl, hb, fun _ h => h, fun _ h => .inl h, fun b h => Nat.lt_of_lt_of_le (hs b h) hb.size, hv⟩
/-- A contract over a greater memory. -/
theorem CallsM.more {P : Program} {Γ : Glob} {f : FuncId} {m m' : List (Nat × Blk)} {nx : Nat} {xs : List T1} {r : TV} {upd : List (Nat × Blk)} {new : List Blk} (h : CallsM P Γ f m nx xs r upd new) (hm : ∀ p ∈ m, p ∈ m') : CallsM P Γ f m' nx xs r upd new :=
  ⟨h.1, fun ι S w vs hs hG hb hd hv => (h.2 ι S w vs hs hG (fun p hp => hb p (hm p hp)) (fun p hp q hq => hd p (hm p hp) q (hm q hq)) hv).mono fun e w' hX => by
    have conv : ∀ (tv : TV) (x : Value) (ι' : Nat → Value) (S' : Nat → Prop) (w' : World), After ι S w nx ⟨tv, m.map (·.1), upd, new⟩ x ι' S' w' → After ι S w nx ⟨tv, m'.map (·.1), upd, new⟩ x ι' S' w' := fun tv x ι' S' w' A =>
      ⟨A.val, A.keep, A.smono, A.sgrow, A.slt, A.os, A.tape, A.output, A.size, A.heap, A.updok, A.newok, A.newblk, A.newdst⟩
    rcases hX with ⟨x, ι', S', he, A⟩ | ⟨v, ι', S', hr, he, A⟩
    · exact .inl ⟨x, ι', S', he, conv _ _ _ _ _ A⟩
    · exact .inr ⟨v, ι', S', hr, he, conv _ _ _ _ _ A⟩⟩
/-- What a function of nothing known gives, whatever is known. -/
theorem CallsA.of0 {P : Program} {Γ : Glob} {f : FuncId} {xs : List T1} {r : TV} (h : CallsA P Γ0 f xs r) : CallsA P Γ f xs r := ⟨h.1, fun S w vs hS _ hv => h.2 S w vs hS trivial hv⟩
theorem CallsM.of0 {P : Program} {Γ : Glob} {f : FuncId} {m : List (Nat × Blk)} {nx : Nat} {xs : List T1} {r : TV} {upd : List (Nat × Blk)} {new : List Blk} (h : CallsM P Γ0 f m nx xs r upd new) : CallsM P Γ f m nx xs r upd new := ⟨h.1, fun ι S w vs hs _ hb hd hv => h.2 ι S w vs hs trivial hb hd hv⟩
end Go.Proofs.YtblobabhdmigiaaDoor

namespace Go.Proofs.YtblobabhdmigiaaDoor
set_option linter.unusedVariables false
set_option linter.unusedSimpArgs false
open Go.RowKit

def stC (k : Nat) (d : D) : CV → CV
  | .row j => match Nat.beq j k with
    | true => .d d
    | false => .row j
  | x => x
def stT (k : Nat) (d : D) : T1 → T1
  | .c x => .c (stC k d x)
  | .g l => .g (l.map (stC k d))
  | .f h a l => .f h a (l.map (stC k d))
def stV (k : Nat) (d : D) : TV → TV
  | .o x => .o (stT k d x)
  | .tup l => .tup (l.map (stT k d))
  | x => x
def stB (k : Nat) (d : D) : Blk → Blk
  | .obj l t => .obj (l.map (stC k d)) t
  | x => x
def rpC (k : Nat) : CV → Bool
  | .rptr j _ _ _ => Nat.beq j k
  | .mp j => Nat.beq j k
  | .rsl j _ _ _ => Nat.beq j k
  | .ptr j _ => Nat.beq j k
  | _ => false
def rpT (k : Nat) : T1 → Bool
  | .c x => rpC k x
  | .g l => l.any (rpC k)
  | .f _ _ l => l.any (rpC k)
def rpV (k : Nat) : TV → Bool
  | .o x => rpT k x
  | .tup l => l.any (rpT k)
  | _ => false
def rpB (k : Nat) : Blk → Bool
  | .obj l _ => l.any (rpC k)
  | _ => false
/-- The row k told as data everywhere; pointers into it are not told any more. -/
def stX (k : Nat) (d : D) (_ : Nat) (x : TV) : TV := match rpV k x with
  | true => .no
  | false => stV k d x
def stM (k : Nat) (d : D) (j : Nat) (x : Blk) : Blk := match Nat.beq j k || rpB k x with
  | true => .dead
  | false => stB k d x
def stillSt (k : Nat) (d : D) (s : St) : St := ⟨s.tm.map fun p => (p.1, stX k d p.1 p.2), s.mem.map fun p => (p.1, stM k d p.1 p.2), s.nx⟩
theorem findL_map {α β : Type} (F : Nat → α → β) : ∀ (l : List (Nat × α)) (t : Nat), findL (l.map fun p => (p.1, F p.1 p.2)) t = (findL l t).map (F t)
  | [], t => rfl
  | (j, v) :: l, t => by
    simp only [List.map_cons, findL]
    split
    · rename_i e; subst e; rfl
    · exact findL_map F l t
section
variable {ι : Nat → Value} {S S' : Nat → Prop} {w : World} {k : Nat} {d : D}
theorem stC_ok (hS : ∀ b, S b → S' b) (hd : Imm S' w d (ι k)) {x : CV} {u : Value} (h : VC ι S w x u) : VC ι S' w (stC k d x) u := by
  cases x with
  | row j =>
    simp only [stC]
    split
    · rename_i hb
      obtain rfl := Nat.eq_of_beq_eq_true hb
      rw [h.1]
      exact hd
    · exact VC.mono (x := .row j) (fun _ _ => rfl) hS (fun _ _ => rfl) h
  | d x => exact VC.mono (x := .d x) (fun _ _ => rfl) hS (fun _ _ => rfl) h
  | ptr j o => exact VC.mono (x := .ptr j o) (fun _ _ => rfl) hS (fun _ _ => rfl) h
  | eptr cs => exact VC.mono (x := .eptr cs) (fun _ _ => rfl) hS (fun _ _ => rfl) h
  | rptr a b c e => exact VC.mono (x := .rptr a b c e) (fun _ _ => rfl) hS (fun _ _ => rfl) h
  | mp j => exact VC.mono (x := .mp j) (fun _ _ => rfl) hS (fun _ _ => rfl) h
  | rsl a b c e => exact VC.mono (x := .rsl a b c e) (fun _ _ => rfl) hS (fun _ _ => rfl) h
theorem stT_ok (hS : ∀ b, S b → S' b) (hd : Imm S' w d (ι k)) {x : T1} {u : Value} (h : V1 ι S w x u) : V1 ι S' w (stT k d x) u := by
  cases x with
  | c x => exact stC_ok hS hd h
  | g l =>
    obtain ⟨us, h1, h2⟩ := h
    exact ⟨us, h1, h2.mono (fun a b hab => stC_ok hS hd hab) |> All2.map_left⟩
  | f g a l =>
    obtain ⟨us, h1, h2⟩ := h
    exact ⟨us, h1, h2.mono (fun a b hab => stC_ok hS hd hab) |> All2.map_left⟩
theorem stV_ok (hS : ∀ b, S b → S' b) (hd : Imm S' w d (ι k)) {x : TV} {u : Value} (h : V ι S w x u) : V ι S' w (stV k d x) u := by
  cases x with
  | no => trivial
  | und => exact h
  | o x => exact stT_ok hS hd h
  | tup l =>
    obtain ⟨us, h1, h2⟩ := h
    exact ⟨us, h1, h2.mono (fun a b hab => stT_ok hS hd hab) |> All2.map_left⟩
  | pan v => exact h
end
theorem SLe.still {nx0 : Nat} {s : St} (k size : Nat) (e : TypeId) (rows : List (List D)) (hk : findL s.mem k = some (.row size e rows)) : SLe nx0 (stillSt k (.sl size rows) s) s := fun E a w he ⟨ι, S, I⟩ => by
  have hb0 := I.blk k _ hk
  have hlt := row_lt hb0
  have hS : ∀ b, S b → giveUp ι S [k] b := fun b hb => .inl hb
  have hd : Imm (giveUp ι S [k]) w (.sl size rows) (ι k) := row_imm hb0 hS (fun g hg => .inr ⟨k, by simp, hg⟩)
  have hmem : ∀ n b, findL (stillSt k (.sl size rows) s).mem n = some b → b.live = true → n ≠ k ∧ ∃ b0, findL s.mem n = some b0 ∧ b0.live = true ∧ b = stB k (.sl size rows) b0 := fun n b hb hl => by
    have hb : findL (s.mem.map fun p => (p.1, stM k (.sl size rows) p.1 p.2)) n = some b := hb
    rw [findL_map (stM k (.sl size rows))] at hb
    obtain ⟨b0, h1, h2⟩ := Option.map_eq_some_iff.1 hb
    unfold stM at h2
    split at h2
    · subst h2; cases hl
    · rename_i hf
      subst h2
      refine ⟨fun h => ?_, b0, h1, ?_, rfl⟩
      · rw [Bool.or_eq_false_iff] at hf
        exact absurd h (Nat.ne_of_beq_eq_false hf.1)
      · cases b0 <;> first | rfl | exact hl
  have hdead : ∀ n b, findL (stillSt k (.sl size rows) s).mem n = some b → b.live = false → b = .dead := fun n b _ hl => by cases b <;> first | rfl | cases hl
  have hS' : ∀ n b, findL s.mem n = some b → b.live = true → n ≠ k → ∀ g, blkOf (ι n) = some g → ¬ giveUp ι S [k] g := fun n b hb hl hn g hg hs => by
    rcases hs with hs | ⟨j, hj, hs⟩
    · have h := I.blk n b hb
      exact (h.sep hl hg).2 hs
    · obtain rfl : j = k := by simpa using hj
      exact hn (I.dst n j b _ g hb hk hl rfl hg hs)
  refine ⟨ι, giveUp ι S [k], I.os, I.tape, I.output, I.size, I.old, fun b hb => ?_, fun b hb => .inl (I.s0 b hb), fun b hb => ?_, fun t tv ht => ?_, fun n b hb => ?_, fun n b hb hl g hg => ?_, fun n n' b b' g hb hb' hl hl' hg hg' => ?_, I.dn, I.sz, E.Γ.mono (fun _ _ => rfl) hS I.gl, I.ik⟩
  · rcases hb with hb | ⟨j, hj, hb⟩
    · exact I.slt b hb
    · obtain rfl : j = k := by simpa using hj
      exact (hlt b hb).1
  · rcases hb with hb | ⟨j, hj, hb⟩
    · exact I.sg b hb
    · obtain rfl : j = k := by simpa using hj
      rcases I.mutb j _ hk rfl b hb with h | h
      · exact .inr (.inr h)
      · exact .inr (.inl h)
  · have ht : findL (s.tm.map fun p => (p.1, stX k (.sl size rows) p.1 p.2)) t = some tv := ht
    rw [findL_map (stX k (.sl size rows))] at ht
    obtain ⟨tv0, h1, h2⟩ := Option.map_eq_some_iff.1 ht
    unfold stX at h2
    split at h2
    · subst h2; trivial
    · subst h2
      exact stV_ok hS hd (I.tms t tv0 h1)
  · cases hl : b.live with
    | false => rw [hdead n b hb hl]; trivial
    | true =>
      obtain ⟨hn, b0, h1, h2, rfl⟩ := hmem n b hb hl
      have h := I.blk n b0 h1
      cases b0 with
      | dead => cases h2
      | obj cells tg =>
        obtain ⟨b2, arr, ty, e1, e2, e3, e4⟩ := h
        exact ⟨b2, arr, ty, e1, e2, All2.map_left (e3.mono fun a b hab => stC_ok hS hd hab), hS' n _ h1 rfl hn b2 (by rw [e1]; rfl)⟩
      | row size' e' rows' =>
        obtain ⟨cs, e1, e2, e3, e4⟩ := h
        exact ⟨cs, e1, e2.mono fun a b hab => Imm.mono (fun _ _ => rfl) hS hab, e3, fun g hg => hS' n _ h1 rfl hn g hg⟩
      | map es =>
        obtain ⟨b2, arr, clock, e1, e2, e3, e4⟩ := h
        exact ⟨b2, arr, clock, e1, e2, e3, hS' n _ h1 rfl hn b2 (by rw [e1]; rfl)⟩
  · obtain ⟨hn, b0, h1, h2, rfl⟩ := hmem n b hb hl
    exact I.mutb n b0 h1 h2 g hg
  · obtain ⟨hn, b0, h1, h2, rfl⟩ := hmem n b hb hl
    obtain ⟨hn', b0', h1', h2', rfl⟩ := hmem n' b' hb' hl'
    exact I.dst n n' b0 b0' g h1 h1' h2 h2' hg hg'
end Go.Proofs.YtblobabhdmigiaaDoor

namespace Go.Proofs.YtblobabhdmigiaaDoor
set_option linter.unusedVariables false
set_option linter.unusedSimpArgs false
open Go.RowKit
set_option maxRecDepth 100000
theorem and_mk {a b : Prop} (h : a) (k : b) : a ∧ b := ⟨h, k⟩
end Go.Proofs.YtblobabhdmigiaaDoor

namespace Go.Proofs.YtblobabhdmigiaaDoor
set_option linter.unusedVariables false
set_option linter.unusedSimpArgs false
open Go.RowKit
set_option maxRecDepth 100000
section
variable {P : Program}
def EqT (P : Program) (d : Nat) (t : TypeId) (x y : Value) (c : Bool) : Prop := ∀ w, (Op.equalIn d t x y).run P w = .ok c w
def EqFs (P : Program) (d : Nat) (xs ys : List Value) (fs : List Field) (c : Bool) : Prop := ∀ w, (Op.eqFields d xs.toArray ys.toArray fs).run P w = .ok c w
def PartI (P : Program) (t : TypeId) (xs : List Value) (off : Nat) (x : Value) : Prop := ∀ w, (part t xs.toArray off).run P w = .ok x w
theorem EqT.int {d : Nat} {t : TypeId} {k k' : IntKind} {a b : Int} (h : P.underlying t = some (.int k')) : EqT P (d + 1) t (.int k a) (.int k b) (decide (a = b)) := fun w => by
  rw [run_equalIn_int w d t k k' a b h]
  rfl
theorem EqT.str {d : Nat} {t : TypeId} {a b : ByteArray} (h : P.underlying t = some .string) : EqT P (d + 1) t (.string a) (.string b) (decide (a = b)) := fun w => by
  rw [run_equalIn_string w d t a b h, bytes_eq]
theorem EqT.bool {d : Nat} {t : TypeId} {a b : Bool} (h : P.underlying t = some .bool) : EqT P (d + 1) t (.bool a) (.bool b) (decide (a = b)) := fun w => by
  rw [run_equalIn_bool' w d t a b h]
  cases a <;> cases b <;> rfl
theorem EqT.st {d : Nat} {t : TypeId} {fs : Array Field} {xs ys : List Value} {c : Bool} (hu : P.underlying t = some (.struct fs)) (hp : P.stoodInHeld t = false) (h : EqFs P d xs ys fs.toList c) : EqT P (d + 1) t (.agg xs.toArray) (.agg ys.toArray) c := fun w => by
  have hf : P.fieldsOf t = fs := by unfold Program.fieldsOf; rw [hu]
  rw [run_equalIn_struct w d t _ _ (by rw [hf]; exact hu) hp, hf]
  exact h w
/-- A struct's fields: is it named? its type, its place. -/
def fieldsK (P : Program) (t : TypeId) : List (Bool × Nat × Nat) := (P.fieldsOf t).toList.map fun f => (f.name != "_", f.type, f.offset)
def EqKs (P : Program) (d : Nat) (xs ys : List Value) (ks : List (Bool × Nat × Nat)) (c : Bool) : Prop := ∀ fs : List Field, fs.map (fun f => (f.name != "_", f.type, f.offset)) = ks → EqFs P d xs ys fs c
theorem EqT.stk {d : Nat} {t : TypeId} {xs ys : List Value} {c : Bool} (ks : List (Bool × Nat × Nat)) (hk : fieldsK P t = ks) (hs : (match P.underlying t with | some (.struct _) => true | _ => false) = true) (hp : P.stoodInHeld t = false) (h : EqKs P d xs ys ks c) : EqT P (d + 1) t (.agg xs.toArray) (.agg ys.toArray) c := by
  split at hs
  · rename_i fs hu
    refine EqT.st hu hp (h _ ?_)
    have hf : P.fieldsOf t = fs := by unfold Program.fieldsOf; rw [hu]
    rw [← hk, ← hf]; rfl
  · cases hs
theorem EqKs.nil {d : Nat} {xs ys : List Value} : EqKs P d xs ys [] true := fun fs h => by
  rw [List.map_eq_nil_iff] at h
  subst h
  exact fun w => rfl
theorem EqFs.cons {d : Nat} {xs ys : List Value} {f : Field} {fs : List Field} {x y : Value} {b c : Bool} (hn : (f.name != "_") = true) (hx : PartI P f.type xs f.offset x) (hy : PartI P f.type ys f.offset y) (h1 : EqT P d f.type x y b) (h2 : EqFs P d xs ys fs c) : EqFs P d xs ys (f :: fs) (b && c) := fun w => by
  have hn' : f.name ≠ "_" := by simpa using hn
  rw [Op.eqFields, if_pos hn']
  simp only [Sem.run_bind]
  rw [hx w, Result.andThen_ok, hy w, Result.andThen_ok, h1 w, Result.andThen_ok]
  cases b
  · simp
  · simp only [Bool.not_true, Bool.false_eq_true, if_false, Bool.true_and]
    exact h2 w
theorem EqKs.cons {d t off : Nat} {xs ys : List Value} {ks : List (Bool × Nat × Nat)} {x y : Value} {b c : Bool} (hx : PartI P t xs off x) (hy : PartI P t ys off y) (h1 : EqT P d t x y b) (h2 : EqKs P d xs ys ks c) : EqKs P d xs ys ((true, t, off) :: ks) (b && c) := fun fs h => by
  rcases fs with _ | ⟨f, fs⟩
  · cases h
  · rw [List.map_cons] at h
    injection h with e h
    injection e with e1 e
    injection e with e2 e3
    subst e2
    subst e3
    exact EqFs.cons e1 hx hy h1 (h2 fs h)
def isAggB (P : Program) (t : TypeId) : Bool := match P.underlying t with
  | some (.struct _) | some (.array _ _) => true
  | _ => false
theorem PartI.one {t : TypeId} {xs : List Value} {off : Nat} {x : Value} {dsc : TypeDesc} (hu : P.underlying t = some dsc) (ha : isAggB P t = false) (hx : xs[off]? = some x) : PartI P t xs off x := fun w => by
  unfold isAggB at ha
  rw [hu] at ha
  unfold part isAgg
  simp only [Sem.run_bind, run_underlying hu, Result.andThen_ok]
  cases dsc <;> first | (cases ha; done) | (simp [hx]; done)
theorem PartI.agg {t : TypeId} {xs : List Value} {off n : Nat} {ys : List Value} {dsc : TypeDesc} {i : TypeInfo} (hu : P.underlying t = some dsc) (ha : isAggB P t = true) (hi : P.info? t = some i) (hn : i.size = n) (hx : (xs.drop off).take n = ys) : PartI P t xs off (.agg ys.toArray) := fun w => by
  unfold isAggB at ha
  rw [hu] at ha
  have h1 : ∀ w, (isAgg t).run P w = .ok true w := fun w => by
    unfold isAgg
    simp only [Sem.run_bind, run_underlying hu, Result.andThen_ok]
    cases dsc <;> first | (cases ha; done) | rfl
  have h2 : ∀ w, (sizeOf t).run P w = .ok n w := fun w => by
    unfold sizeOf
    simp [typeInfo, hi, hn]
  unfold part
  simp only [Sem.run_bind, h1, h2, Result.andThen_ok, if_true]
  rw [← hx]
  simp [List.extract_eq_take_drop]
def leafI (xs ys : List Value) : Option Bool := match xs, ys with
  | [.int k a], [.int k' b] => if k = k' then some (decide (a = b)) else none
  | _, _ => none
def leafS (xs ys : List Value) : Option Bool := match xs, ys with
  | [.string a], [.string b] => some (decide (a = b))
  | _, _ => none
def leafB (xs ys : List Value) : Option Bool := match xs, ys with
  | [.bool a], [.bool b] => some (decide (a = b))
  | _, _ => none
theorem leafI_ok {xs ys : List Value} {c : Bool} (h : leafI xs ys = some c) : ∃ k a b, xs = [.int k a] ∧ ys = [.int k b] ∧ c = decide (a = b) := by
  unfold leafI at h
  split at h
  · split at h
    · rename_i e; subst e; injection h with h; exact ⟨_, _, _, rfl, rfl, h.symm⟩
    · cases h
  · cases h
theorem leafS_ok {xs ys : List Value} {c : Bool} (h : leafS xs ys = some c) : ∃ a b, xs = [.string a] ∧ ys = [.string b] ∧ c = decide (a = b) := by
  unfold leafS at h
  split at h
  · injection h with h; exact ⟨_, _, rfl, rfl, h.symm⟩
  · cases h
theorem leafB_ok {xs ys : List Value} {c : Bool} (h : leafB xs ys = some c) : ∃ a b, xs = [.bool a] ∧ ys = [.bool b] ∧ c = decide (a = b) := by
  unfold leafB at h
  split at h
  · injection h with h; exact ⟨_, _, rfl, rfl, h.symm⟩
  · cases h
/-- Are two values of a type equal, cell by cell? -/
def eqV (P : Program) : Nat → TypeId → List Value → List Value → Option Bool
  | 0, _, _, _ => none
  | d + 1, t, xs, ys => match P.underlying t with
    | some (.int _) => leafI xs ys
    | some .string => leafS xs ys
    | some .bool => leafB xs ys
    | some (.struct fs) => match P.stoodInHeld t, P.info? t with
      | false, some _ => fs.toList.foldr (fun f r => match f.name != "_", eqV P d f.type ((xs.drop f.offset).take (P.cellsOf f.type)) ((ys.drop f.offset).take (P.cellsOf f.type)), r with
        | true, some b, some c => some (b && c)
        | _, _, _ => none) (some true)
      | _, _ => none
    | some (.array n e) => match P.info? e, P.info? t with
      | some _, some _ => (List.range n).foldr (fun i r => match eqV P d e ((xs.drop (i * P.cellsOf e)).take (P.cellsOf e)) ((ys.drop (i * P.cellsOf e)).take (P.cellsOf e)), r with
        | some b, some c => some (b && c)
        | _, _ => none) (some true)
      | _, _ => none
    | _ => none
/-- The value of a type that is made of cells. -/
def packV (P : Program) (t : TypeId) (xs : List Value) : Value := match isAggB P t with
  | true => .agg xs.toArray
  | false => xs.headD undef
theorem part_pack {t : TypeId} {xs : List Value} {off : Nat} {dsc : TypeDesc} {i : TypeInfo} (hu : P.underlying t = some dsc) (hi : P.info? t = some i) (h1 : isAggB P t = true ∨ ((xs.drop off).take (P.cellsOf t)) ≠ []) : PartI P t xs off (packV P t ((xs.drop off).take (P.cellsOf t))) := by
  have hc : P.cellsOf t = i.size := by unfold Program.cellsOf; rw [hi]; rfl
  unfold packV
  cases ha : isAggB P t with
  | true => exact PartI.agg hu ha hi rfl (by rw [hc])
  | false =>
    refine PartI.one hu ha ?_
    rcases h1 with h1 | h1
    · rw [ha] at h1; cases h1
    · cases hd : xs.drop off with
      | nil => rw [hd] at h1; simp at h1
      | cons x l =>
        cases hn : P.cellsOf t with
        | zero => rw [hn] at h1; simp at h1
        | succ n =>
          have := congrArg (·[0]?) hd
          simpa using this
theorem eqV_some {d : Nat} {t : TypeId} {xs ys : List Value} {c : Bool} (h : eqV P d t xs ys = some c) : (∃ dsc i, P.underlying t = some dsc ∧ P.info? t = some i) ∧ (isAggB P t = true ∨ xs ≠ [] ∧ ys ≠ []) := by
  cases d with
  | zero => cases h
  | succ d =>
    have hinf : ∀ dsc, P.underlying t = some dsc → ∃ i, P.info? t = some i := fun dsc hu => info_of_underlying hu
    rw [eqV] at h
    split at h
    · rename_i hu
      obtain ⟨i, hi⟩ := hinf _ hu
      refine ⟨⟨_, i, hu, hi⟩, .inr ?_⟩
      obtain ⟨_, _, _, rfl, rfl, -⟩ := leafI_ok h
      simp
    · rename_i hu
      obtain ⟨i, hi⟩ := hinf _ hu
      refine ⟨⟨_, i, hu, hi⟩, .inr ?_⟩
      obtain ⟨_, _, rfl, rfl, -⟩ := leafS_ok h
      simp
    · rename_i hu
      obtain ⟨i, hi⟩ := hinf _ hu
      refine ⟨⟨_, i, hu, hi⟩, .inr ?_⟩
      obtain ⟨_, _, rfl, rfl, -⟩ := leafB_ok h
      simp
    · rename_i hu
      obtain ⟨i, hi⟩ := hinf _ hu
      exact ⟨⟨_, i, hu, hi⟩, .inl (by unfold isAggB; rw [hu])⟩
    · rename_i hu
      obtain ⟨i, hi⟩ := hinf _ hu
      exact ⟨⟨_, i, hu, hi⟩, .inl (by unfold isAggB; rw [hu])⟩
    · cases h
theorem eqV_ok : ∀ (d : Nat) (t : TypeId) (xs ys : List Value) (c : Bool), eqV P d t xs ys = some c → ∀ dd, d ≤ dd → EqT P dd t (packV P t xs) (packV P t ys) c
  | 0, _, _, _, _, h, _, _ => by cases h
  | d + 1, t, xs, ys, c, h, dd, hdd => by
    obtain ⟨dd, rfl⟩ : ∃ k, dd = k + 1 := ⟨dd - 1, by omega⟩
    have hd : d ≤ dd := by omega
    have step : ∀ (t : TypeId) (off : Nat) (c : Bool), eqV P d t ((xs.drop off).take (P.cellsOf t)) ((ys.drop off).take (P.cellsOf t)) = some c →
        ∃ x y, PartI P t xs off x ∧ PartI P t ys off y ∧ EqT P dd t x y c := fun t off c h => by
      obtain ⟨⟨dsc, i, hu, hi⟩, h2⟩ := eqV_some h
      exact ⟨_, _, part_pack hu hi (h2.imp id (·.1)), part_pack hu hi (h2.imp id (·.2)), eqV_ok d t _ _ c h dd hd⟩
    rw [eqV] at h
    split at h
    · rename_i k hu
      have ha : isAggB P t = false := by unfold isAggB; rw [hu]
      obtain ⟨_, _, _, rfl, rfl, rfl⟩ := leafI_ok h
      unfold packV; rw [ha]
      exact EqT.int hu
    · rename_i hu
      have ha : isAggB P t = false := by unfold isAggB; rw [hu]
      obtain ⟨_, _, rfl, rfl, rfl⟩ := leafS_ok h
      unfold packV; rw [ha]
      exact EqT.str hu
    · rename_i hu
      have ha : isAggB P t = false := by unfold isAggB; rw [hu]
      obtain ⟨_, _, rfl, rfl, rfl⟩ := leafB_ok h
      unfold packV; rw [ha]
      exact EqT.bool hu
    · rename_i fs hu
      have ha : isAggB P t = true := by unfold isAggB; rw [hu]
      unfold packV; rw [ha]
      split at h
      · rename_i hp hi
        refine EqT.st hu hp ?_
        generalize fs.toList = l at h
        induction l generalizing c with
        | nil => injection h with h; subst h; exact fun w => rfl
        | cons f l ih =>
          rw [List.foldr_cons] at h
          split at h
          · rename_i b c' hn hb hc
            injection h with h; subst h
            obtain ⟨x, y, h1, h2, h3⟩ := step f.type f.offset b hb
            exact EqFs.cons hn h1 h2 h3 (ih c' hc)
          · cases h
      · cases h
    · rename_i n e hu
      have ha : isAggB P t = true := by unfold isAggB; rw [hu]
      unfold packV; rw [ha]
      split at h
      · rename_i i i' hi hi'
        intro w
        rw [run_equalIn_array w dd xs.toArray ys.toArray hu hi]
        revert w
        generalize List.range n = l at h
        induction l generalizing c with
        | nil => injection h with h; subst h; exact fun w => rfl
        | cons j l ih =>
          intro w
          rw [List.foldr_cons] at h
          split at h
          · rename_i b c' hb hc
            injection h with h; subst h
            obtain ⟨x, y, h1, h2, h3⟩ := step e (j * P.cellsOf e) b hb
            rw [Op.eqItems]
            simp only [Sem.run_bind]
            rw [h1 w, Result.andThen_ok, h2 w, Result.andThen_ok, h3 w, Result.andThen_ok]
            have := ih c' hc w
            cases b
            · simp
            · simpa using this
          · cases h
      · cases h
    · cases h
theorem eqV_self : ∀ (d : Nat) (t : TypeId) (xs : List Value) (c : Bool), eqV P d t xs xs = some c → c = true
  | 0, _, _, _, h => by cases h
  | d + 1, t, xs, c, h => by
    rw [eqV] at h
    split at h
    · obtain ⟨k, a, b, e1, e2, e3⟩ := leafI_ok h
      rw [e1] at e2
      cases e2
      rw [e3]; simp
    · obtain ⟨a, b, e1, e2, e3⟩ := leafS_ok h
      rw [e1] at e2
      cases e2
      rw [e3]; simp
    · obtain ⟨a, b, e1, e2, e3⟩ := leafB_ok h
      rw [e1] at e2
      cases e2
      rw [e3]; simp
    · split at h
      · rename_i fs _ _ _ _ _ _
        generalize fs.toList = l at h
        induction l generalizing c with
        | nil => injection h with h; exact h.symm
        | cons f l ih =>
          rw [List.foldr_cons] at h
          split at h
          · rename_i b c' hn hb hc
            injection h with h
            rw [← h, eqV_self d _ _ _ hb, ih c' hc]; rfl
          · cases h
      · cases h
    · split at h
      · rename_i n e _ _ _ _ _ _ _
        generalize List.range n = l at h
        induction l generalizing c with
        | nil => injection h with h; exact h.symm
        | cons f l ih =>
          rw [List.foldr_cons] at h
          split at h
          · rename_i b c' hb hc
            injection h with h
            rw [← h, eqV_self d _ _ _ hb, ih c' hc]; rfl
          · cases h
      · cases h
    · cases h
/-- The equality of two structs or arrays, as the walk asks for it. -/
theorem eq_two {t : TypeId} {xs ys : List Value} {c : Bool} (h : eqV P 20 t xs ys = some c) (ha : isAggB P t = true) : ∀ w, (Op.equal t (.agg xs.toArray) (.agg ys.toArray)).run P w = .ok c w := fun w => by
  have := eqV_ok 20 t xs ys c h 10000 (by omega) w
  unfold packV at this
  rw [ha] at this
  exact this
theorem eq_same {t : TypeId} {xs : List Value} (h : (eqV P 20 t xs xs).isSome = true) (ha : isAggB P t = true) : ∀ w, (Op.equal t (.agg xs.toArray) (.agg xs.toArray)).run P w = .ok true w := by
  obtain ⟨c, hc⟩ := Option.isSome_iff_exists.1 h
  have := eqV_self 20 t xs c hc
  subst this
  exact eq_two hc ha
end
theorem ex_agg {g : Prop} {Q K : Bool → Prop} (hg : g) (c : Bool) (he : Q c) (h : K c) : g ∧ ∃ c, Q c ∧ K c := ⟨hg, c, he, h⟩
end Go.Proofs.YtblobabhdmigiaaDoor

namespace Go.Proofs.YtblobabhdmigiaaDoor
set_option linter.unusedVariables false
set_option linter.unusedSimpArgs false
open Go.RowKit

/-- A variable's cells hold these values. -/
def TabAt (w : World) (g : Nat) (vs : List Value) : Prop := ∀ j v, vs[j]? = some v → w.cell? ⟨g, j, none⟩ = some v
/-- Besides: a variable holds a table, and nobody writes it. -/
def Glob.tab (Γ : Glob) (g : Nat) (vs : List Value) (h1 : vs.all Value.oneCell' = true) : Glob :=
  ⟨fun S w => Γ.G S w ∧ TabAt w g vs ∧ S g, fun hw hS ⟨h, h2, h3⟩ => ⟨Γ.mono hw hS h, fun j v hj => by rw [cell_same (hw _ h3)]; exact h2 j v hj, hS _ h3⟩, Γ.kr,
  fun k => match Nat.beq k g with
    | true => some (vs.map .v)
    | false => Γ.gl k,
  fun {S w k cs} hG hg => by
    obtain ⟨hG, h2, h3⟩ := hG
    split at hg
    · rename_i hb
      obtain rfl := Nat.eq_of_beq_eq_true hb
      cases hg
      refine ⟨fun j => vs.getD j undef, fun _ => h3, fun j d hj => ?_⟩
      rw [List.getElem?_map] at hj
      obtain ⟨v, h4, rfl⟩ := Option.map_eq_some_iff.1 hj
      have : vs.getD j undef = v := by rw [List.getD, h4]; rfl
      dsimp only
      rw [this]
      exact ⟨h2 j v h4, Imm.v (List.all_eq_true.1 h1 v (List.mem_of_getElem? h4))⟩
    · exact Γ.gok hG hg⟩
/-- Besides: a variable holds some int. -/
def Glob.num (Γ : Glob) (g : Nat) : Glob :=
  ⟨fun S w => Γ.G S w ∧ (∃ m, w.cell? ⟨g, 0, none⟩ = some (.int .i64 m)) ∧ S g, fun hw hS ⟨h, ⟨m, h2⟩, h3⟩ => ⟨Γ.mono hw hS h, ⟨m, by rw [cell_same (hw _ h3)]; exact h2⟩, hS _ h3⟩, Γ.kr, Γ.gl, fun ⟨hG, _⟩ hg => Γ.gok hG hg⟩
theorem CallsA.tab {P : Program} {Γ : Glob} {g : Nat} {vs : List Value} {h1 : vs.all Value.oneCell' = true} {f : FuncId} {xs : List T1} {r : TV} (h : CallsA P Γ f xs r) : CallsA P (Γ.tab g vs h1) f xs r := ⟨h.1, fun S w vs hS hG hv => h.2 S w vs hS hG.1 hv⟩
theorem CallsA.num {P : Program} {Γ : Glob} {g : Nat} {f : FuncId} {xs : List T1} {r : TV} (h : CallsA P Γ f xs r) : CallsA P (Γ.num g) f xs r := ⟨h.1, fun S w vs hS hG hv => h.2 S w vs hS hG.1 hv⟩
end Go.Proofs.YtblobabhdmigiaaDoor

namespace Go.Proofs.YtblobabhdmigiaaDoor
set_option linter.unusedVariables false
set_option linter.unusedSimpArgs false

def opsL : List (List UInt8 × Nat × Nat × Nat) := [([112, 117, 115, 104], 1, 0, 1), ([108, 111, 97, 100], 1, 0, 1), ([115, 116, 111, 114, 101], 1, 1, 0), ([100, 114, 111, 112], 0, 1, 0), ([97, 108, 117], 1, 2, 1), ([110, 111, 116], 0, 1, 1), ([105, 110, 116], 2, 0, 1), ([119, 111, 114, 100], 2, 0, 1), ([112, 97, 114, 116], 2, 1, 1), ([98, 121, 116, 101, 115], 0, 1, 0), ([122, 101, 114, 111], 0, 1, 0), ([115, 107, 105, 112], 0, 1, 0), ([116, 97, 105, 108], 0, 0, 0), ([110, 111, 110, 101], 0, 0, 0), ([111, 112, 101, 110], 1, 0, 0), ([99, 108, 111, 115, 101], 0, 0, 0), ([101, 110, 116, 101, 114], 0, 1, 0), ([108, 101, 97, 118, 101], 0, 0, 0), ([115, 101, 101, 107], 0, 1, 0), ([98, 97, 99, 107], 0, 0, 0), ([106, 117, 109, 112], 1, 0, 0), ([106, 117, 109, 112, 122], 1, 1, 0), ([109, 111, 114, 101], 1, 0, 0), ([104, 101, 114, 101], 1, 0, 0), ([109, 111, 118, 101, 100], 1, 0, 0), ([99, 111, 117, 110, 116], 2, 0, 0), ([105, 110, 99, 114], 1, 0, 0), ([108, 105, 109, 105, 116], 0, 1, 1), ([99, 97, 108, 108], 1, 0, 0), ([114, 101, 116], 0, 0, 0), ([116, 101, 115, 116], 2, 1, 0), ([102, 97, 105, 108], 1, 0, 0), ([99, 114, 99], 2, 0, 1), ([97, 100, 108, 101, 114], 2, 0, 1), ([115, 105, 122, 101], 2, 0, 1), ([101, 110, 100], 0, 0, 0)]
abbrev OpR := List UInt8 × Nat × Nat × Nat
def noneR : OpR := ([], 0, 0, 0)
/-- An Op's word; what it has, takes and puts. -/
def opF (o : Int) : OpR := if 0 ≤ o ∧ o < 36 then opsL.getD o.toNat noneR else noneR
structure IN where
  o : Int
  a : Int
  b : Int
  n : Nat
structure FN where
  e : Int
  s : Int
  p : Int
def arg (z : Int) : List UInt8 := 32 :: Lib.itoa z
/-- An instruction's line, without a line feed. -/
def lineF (x : IN) : List UInt8 :=
  match (opF x.o).1 with
  | [] => [63]
  | w => if x.o = 0 then w ++ 32 :: Lib.decDigits x.n else w ++ ([x.a, x.b].take (opF x.o).2.1).flatMap arg
def funcS : List UInt8 := [102, 117, 110, 99]
def fnF (f : FN) : List UInt8 := funcS ++ [f.e, f.s, f.p].flatMap arg
def textF (fs : List FN) (l : List IN) : List UInt8 := fs.flatMap (fun f => fnF f ++ [10]) ++ l.flatMap (fun x => lineF x ++ [10])

/-! ### Numbers -/
def natF (s : List UInt8) : Option Nat := match Lib.parseUintB 64 s with
  | .ok n => if Lib.decDigits n = s then some n else none
  | _ => none
def intF (s : List UInt8) : Option Int := match Lib.atoiAll s with
  | .ok n => if Lib.itoa n = s then some n else none
  | _ => none
theorem decU8 (d : Nat) (h : d < 10) : (UInt8.ofNat (48 + d)).toNat = 48 + d := by rw [UInt8.toNat_ofNat']; show (48 + d) % 256 = _; omega
theorem dec_ne (n : Nat) : Lib.decDigits n ≠ [] := by
  rw [Lib.decDigits]
  split <;> simp
theorem parseM_dec (n : Nat) : n < 18446744073709551616 → ∀ r : List UInt8, Lib.parseUintM 18446744073709551615 0 (Lib.decDigits n ++ r) = Lib.parseUintM 18446744073709551615 n r := by
  induction n using Nat.strongRecOn with
  | ind n ih =>
    intro hn r
    rw [Lib.decDigits]
    split
    · rename_i h
      rw [List.singleton_append, Lib.parseUintM, decU8 n h, if_pos ⟨by omega, by omega⟩, if_neg (by omega), if_neg (by omega)]
      congr 1; omega
    · rename_i h
      rw [List.append_assoc, ih (n / 10) (by omega) (by omega), List.singleton_append, Lib.parseUintM, decU8 _ (by omega), if_pos ⟨by omega, by omega⟩, if_neg (by omega), if_neg (by omega)]
      congr 1; omega
theorem parse10_dec (n : Nat) : n < 18446744073709551616 → ∀ r : List UInt8, Lib.parseUint10 0 (Lib.decDigits n ++ r) = Lib.parseUint10 n r := by
  induction n using Nat.strongRecOn with
  | ind n ih =>
    intro hn r
    rw [Lib.decDigits]
    split
    · rename_i h
      rw [List.singleton_append, Lib.parseUint10, decU8 n h, if_pos ⟨by omega, by omega⟩, if_neg (by omega), if_neg (by omega)]
      congr 1; omega
    · rename_i h
      rw [List.append_assoc, ih (n / 10) (by omega) (by omega), List.singleton_append, Lib.parseUint10, decU8 _ (by omega), if_pos ⟨by omega, by omega⟩, if_neg (by omega), if_neg (by omega)]
      congr 1; omega
theorem natF_iff {s : List UInt8} {n : Nat} : natF s = some n ↔ n < 18446744073709551616 ∧ Lib.decDigits n = s := by
  have key : ∀ n, n < 18446744073709551616 → Lib.parseUintB 64 (Lib.decDigits n) = .ok n := fun n hn => by
    have h1 := parseM_dec n hn []
    rw [List.append_nil, Lib.parseUintM] at h1
    unfold Lib.parseUintB
    rw [if_neg (dec_ne n)]
    exact h1
  have hlt : ∀ (l : List UInt8) (acc u : Nat), acc < 18446744073709551616 → Lib.parseUintM 18446744073709551615 acc l = .ok u → u < 18446744073709551616 := by
    intro l
    induction l with
    | nil => intro acc u h e; simp only [Lib.parseUintM] at e; injection e with e; omega
    | cons c r ih =>
      intro acc u h e
      rw [Lib.parseUintM] at e
      split at e
      · split at e
        · cases e
        · split at e
          · cases e
          · exact ih _ _ (by omega) e
      · cases e
  constructor
  · intro h
    unfold natF at h
    split at h
    · rename_i m hm
      split at h
      · rename_i hd
        injection h with h
        subst h
        refine ⟨?_, hd⟩
        unfold Lib.parseUintB at hm
        split at hm
        · cases hm
        · exact hlt _ _ _ (by omega) hm
      · cases h
    · cases h
  · rintro ⟨h1, rfl⟩
    unfold natF
    rw [key n h1]
    dsimp only
    rw [if_pos rfl]
theorem dec_head (n : Nat) : ∃ c r, Lib.decDigits n = c :: r ∧ 48 ≤ c.toNat ∧ c.toNat ≤ 57 := by
  induction n using Nat.strongRecOn with
  | ind n ih =>
    rw [Lib.decDigits]
    split
    · rename_i h
      exact ⟨_, [], rfl, by rw [decU8 n h]; omega, by rw [decU8 n h]; omega⟩
    · rename_i h
      obtain ⟨c, r, e, h1, h2⟩ := ih (n / 10) (by omega)
      rw [e]
      exact ⟨c, _, rfl, h1, h2⟩
theorem mag_dec (n : Nat) (hn : n < 18446744073709551616) : Lib.parseMag (Lib.decDigits n) = .ok n := by
  have h1 := parse10_dec n hn []
  rw [List.append_nil, Lib.parseUint10] at h1
  unfold Lib.parseMag
  rw [if_neg (dec_ne n), h1]
theorem atoi_itoa (z : Int) (h1 : -9223372036854775808 ≤ z) (h2 : z ≤ 9223372036854775807) : Lib.atoiAll (Lib.itoa z) = .ok z := by
  unfold Lib.itoa
  split
  · rename_i h
    rw [Lib.atoiAll_minus, mag_dec _ (by omega), Lib.signed, if_neg (by omega)]
    congr 1; omega
  · rename_i h
    obtain ⟨c, r, e, h3, h4⟩ := dec_head z.toNat
    have := mag_dec z.toNat (by omega)
    rw [e] at this ⊢
    rw [Lib.atoiAll_plain c r (by omega) (by omega), this, Lib.signless, if_neg (by omega)]
    congr 1; omega
theorem intF_iff {s : List UInt8} {z : Int} : intF s = some z ↔ (-9223372036854775808 ≤ z ∧ z ≤ 9223372036854775807) ∧ Lib.itoa z = s := by
  constructor
  · intro h
    unfold intF at h
    split at h
    · rename_i m hm
      split at h
      · rename_i hd
        injection h with h
        subst h
        exact ⟨Lib.atoiAll_bounds hm, hd⟩
      · cases h
    · cases h
  · rintro ⟨⟨h1, h2⟩, rfl⟩
    unfold intF
    rw [atoi_itoa z h1 h2]
    dsimp only
    rw [if_pos rfl]
/-- Digits, read one by one. -/
def digR (acc : Nat) : List UInt8 → Option Nat
  | [] => some acc
  | c :: r => if 48 ≤ c.toNat ∧ c.toNat ≤ 57 then if (18446744073709551615 - (c.toNat - 48)) / 10 < acc then none else digR (10 * acc + (c.toNat - 48)) r else none
theorem digR_dec (n : Nat) : n < 18446744073709551616 → ∀ r : List UInt8, digR 0 (Lib.decDigits n ++ r) = digR n r := by
  induction n using Nat.strongRecOn with
  | ind n ih =>
    intro hn r
    rw [Lib.decDigits]
    split
    · rename_i h
      rw [List.singleton_append, digR, decU8 n h, if_pos ⟨by omega, by omega⟩, if_neg (by omega)]
      congr 1; omega
    · rename_i h
      rw [List.append_assoc, ih (n / 10) (by omega) (by omega), List.singleton_append, digR, decU8 _ (by omega), if_pos ⟨by omega, by omega⟩, if_neg (by omega)]
      congr 1; omega
theorem dec_snoc {c : UInt8} {a : Nat} (h : 48 ≤ c.toNat ∧ c.toNat ≤ 57) (ha : 0 < a) : Lib.decDigits (10 * a + (c.toNat - 48)) = Lib.decDigits a ++ [c] := by
  rw [Lib.decDigits, dif_neg (by omega)]
  rw [show (10 * a + (c.toNat - 48)) / 10 = a by omega, show (10 * a + (c.toNat - 48)) % 10 = c.toNat - 48 by omega]
  congr 2
  apply UInt8.toNat_inj.1
  rw [decU8 _ (by omega)]
  omega
theorem digR_ok : ∀ (l : List UInt8) (a n : Nat), 0 < a → a < 18446744073709551616 → digR a l = some n → n < 18446744073709551616 ∧ Lib.decDigits n = Lib.decDigits a ++ l
  | [], a, n, _, h1, h => by
    rw [digR] at h
    injection h with h
    subst h
    exact ⟨h1, by rw [List.append_nil]⟩
  | c :: r, a, n, h0, h1, h => by
    rw [digR] at h
    split at h
    · rename_i hc
      split at h
      · cases h
      · rename_i hn
        obtain ⟨e1, e2⟩ := digR_ok r _ n (by omega) (by omega) h
        rw [dec_snoc hc h0] at e2
        exact ⟨e1, by rw [e2, List.append_assoc]; rfl⟩
    · cases h
/-- A number of digits, as it is written. -/
def decR (d : List UInt8) (neg : Bool) : Option Nat :=
  match d with
  | [] => none
  | c :: r => if c = 48 ∧ (r ≠ [] ∨ neg = true) then none else digR 0 (c :: r)
theorem dec_zero1 {n : Nat} {r : List UInt8} (h : Lib.decDigits n = 48 :: r) : n = 0 ∧ r = [] := by
  have h0 : Lib.decDigits 0 = [48] := by rw [Lib.decDigits]; rfl
  induction n using Nat.strongRecOn generalizing r with
  | ind n ih =>
    rw [Lib.decDigits] at h
    split at h
    · rename_i hn
      injection h with h1 h2
      have := decU8 n hn
      rw [h1] at this
      have : n = 0 := by have h48 : (48 : UInt8).toNat = 48 := rfl; omega
      exact ⟨this, h2.symm⟩
    · rename_i hn
      obtain ⟨c, r2, e, -, -⟩ := dec_head (n / 10)
      rw [e] at h
      injection h with h1 h2
      subst h1
      have := (ih (n / 10) (by omega) e).1
      omega
theorem decR_iff {d : List UInt8} {neg : Bool} {n : Nat} : decR d neg = some n ↔ n < 18446744073709551616 ∧ Lib.decDigits n = d ∧ ¬ (neg = true ∧ n = 0) := by
  have h0 : Lib.decDigits 0 = [48] := by rw [Lib.decDigits]; rfl
  constructor
  · intro h
    rcases d with _ | ⟨c, r⟩
    · cases h
    · rw [decR] at h
      split at h
      · cases h
      · rename_i hz
        rw [digR] at h
        split at h
        · rename_i hc
          rw [if_neg (by omega)] at h
          have hone : ∀ k, 10 * 0 + (c.toNat - 48) = k → Lib.decDigits k = [c] := fun k hk => by
            rw [Lib.decDigits, dif_pos (by omega)]
            congr 1
            apply UInt8.toNat_inj.1
            rw [decU8 _ (by omega)]
            omega
          by_cases h48 : c = 48
          · subst h48
            rcases r with _ | ⟨x, y⟩
            · rw [digR] at h
              injection h with h
              subst h
              exact ⟨by decide, h0, fun hh => hz ⟨rfl, .inr hh.1⟩⟩
            · exact absurd ⟨rfl, .inl (by simp)⟩ hz
          · have hpos : 0 < 10 * 0 + (c.toNat - 48) := by
              have : c.toNat ≠ 48 := fun e => h48 (UInt8.toNat_inj.1 e)
              omega
            obtain ⟨e1, e2⟩ := digR_ok r _ n hpos (by omega) h
            rw [hone _ rfl] at e2
            refine ⟨e1, e2, fun hh => ?_⟩
            rw [hh.2, h0] at e2
            injection e2 with e2 _
            exact h48 e2.symm
        · cases h
  · rintro ⟨h1, h2, h3⟩
    obtain ⟨c, r, e, h4, h5⟩ := dec_head n
    have hd := digR_dec n h1 []
    rw [List.append_nil, digR, h2] at hd
    rw [h2] at e
    rw [e] at hd h2 ⊢
    rw [decR, if_neg, hd]
    rintro ⟨rfl, h6⟩
    obtain ⟨h7, h8⟩ := dec_zero1 h2
    rcases h6 with h6 | h6
    · exact h6 h8
    · exact h3 ⟨h6, h7⟩
/-- What the document's 'number' reads: sign and digits. -/
def signR (s : List UInt8) : Bool × List UInt8 := match s with
  | 45 :: r => (true, r)
  | s => (false, s)
def wholeR (s : List UInt8) : Option Int :=
  match decR (signR s).2 (signR s).1 with
  | none => none
  | some n => if (signR s).1 = false ∧ 9223372036854775807 < n ∨ (signR s).1 = true ∧ 9223372036854775808 < n then none else some (if (signR s).1 then -(n : Int) else n)
theorem signR_minus (r : List UInt8) : signR (45 :: r) = (true, r) := rfl
theorem signR_other {s : List UInt8} (h : ∀ r, s ≠ 45 :: r) : signR s = (false, s) := by
  unfold signR
  split
  · exact absurd rfl (h _)
  · rfl
theorem wholeR_iff {s : List UInt8} {z : Int} : wholeR s = some z ↔ (-9223372036854775808 ≤ z ∧ z ≤ 9223372036854775807) ∧ Lib.itoa z = s := by
  by_cases hm : ∃ r, s = 45 :: r
  · obtain ⟨r, rfl⟩ := hm
    unfold wholeR
    rw [signR_minus]
    dsimp only
    constructor
    · intro h
      split at h
      · cases h
      · rename_i n hn
        obtain ⟨h1, h2, h3⟩ := decR_iff.1 hn
        split at h
        · cases h
        · rename_i hb
          injection h with h
          rw [if_pos rfl] at h
          have hb' : ¬ 9223372036854775808 < n := fun hh => hb (.inr ⟨rfl, hh⟩)
          have hn0 : n ≠ 0 := fun hh => h3 ⟨rfl, hh⟩
          subst h
          refine ⟨⟨by omega, by omega⟩, ?_⟩
          unfold Lib.itoa
          rw [if_pos (by omega), show (-(n : Int)).natAbs = n by omega, h2]
    · rintro ⟨⟨h1, h2⟩, h3⟩
      unfold Lib.itoa at h3
      split at h3
      · rename_i hz
        injection h3 with _ h3
        have hd : decR r true = some z.natAbs := decR_iff.2 ⟨by omega, h3, by omega⟩
        rw [hd]
        dsimp only
        rw [if_neg (by rintro (⟨h, -⟩ | ⟨-, h⟩); cases h; omega), if_pos rfl]
        congr 1; omega
      · obtain ⟨c, r2, e, h4, h5⟩ := dec_head z.toNat
        rw [e] at h3
        injection h3 with h3 _
        subst h3
        exact absurd h4 (by decide)
  · have hs := signR_other (s := s) (fun r e => hm ⟨r, e⟩)
    unfold wholeR
    rw [hs]
    dsimp only
    constructor
    · intro h
      split at h
      · cases h
      · rename_i n hn
        obtain ⟨h1, h2, h3⟩ := decR_iff.1 hn
        split at h
        · cases h
        · rename_i hb
          injection h with h
          rw [if_neg (by decide)] at h
          have hb' : ¬ 9223372036854775807 < n := fun hh => hb (.inl ⟨rfl, hh⟩)
          subst h
          refine ⟨⟨by omega, by omega⟩, ?_⟩
          unfold Lib.itoa
          rw [if_neg (by omega), show ((n : Int)).toNat = n by omega, h2]
    · rintro ⟨⟨h1, h2⟩, h3⟩
      unfold Lib.itoa at h3
      split at h3
      · exact absurd ⟨_, h3.symm⟩ hm
      · have hd : decR s false = some z.toNat := decR_iff.2 ⟨by omega, h3, by rintro ⟨h, -⟩; cases h⟩
        rw [hd]
        dsimp only
        rw [if_neg (by rintro (⟨-, h⟩ | ⟨h, -⟩); omega; cases h), if_neg (by decide)]
        congr 1; omega
theorem whole_eq (s : List UInt8) : wholeR s = intF s := by
  cases h : intF s with
  | some z => exact wholeR_iff.2 (intF_iff.1 h)
  | none =>
    cases h2 : wholeR s with
    | none => rfl
    | some z => rw [intF_iff.2 (wholeR_iff.1 h2)] at h; cases h
theorem nat_eq (s : List UInt8) : natF s = match signR s with
    | (true, _) => none
    | (false, d) => decR d false := by
  by_cases hm : ∃ r, s = 45 :: r
  · obtain ⟨r, rfl⟩ := hm
    rw [signR_minus]
    dsimp only
    cases h : natF (45 :: r) with
    | none => rfl
    | some n =>
      obtain ⟨-, h2⟩ := natF_iff.1 h
      obtain ⟨c, r2, e, h4, h5⟩ := dec_head n
      rw [e] at h2
      injection h2 with h2 _
      subst h2
      exact absurd h4 (by decide)
  · rw [signR_other (s := s) (fun r e => hm ⟨r, e⟩)]
    dsimp only
    cases h : natF s with
    | some n => exact (decR_iff.2 ⟨(natF_iff.1 h).1, (natF_iff.1 h).2, by rintro ⟨h, -⟩; cases h⟩).symm
    | none =>
      cases h2 : decR s false with
      | none => rfl
      | some n =>
        obtain ⟨h3, h4, -⟩ := decR_iff.1 h2
        rw [natF_iff.2 ⟨h3, h4⟩] at h; cases h

/-! ### Pieces -/
def onHead (p : List UInt8) : List (List UInt8) → List (List UInt8)
  | h :: t => (p ++ h) :: t
  | [] => [p]
/-- A text cut at a byte. -/
def cutL (c : UInt8) : List UInt8 → List (List UInt8)
  | [] => [[]]
  | a :: r => if a = c then [] :: cutL c r else onHead [a] (cutL c r)
theorem cutL_ne (c : UInt8) : ∀ s, cutL c s ≠ []
  | [] => by simp [cutL]
  | a :: r => by
    rw [cutL]
    split
    · simp
    · cases h : cutL c r <;> simp [onHead]
theorem split_cut (c : UInt8) : ∀ s : List UInt8, Lib.split s [c] = cutL c s
  | [] => by
    unfold Lib.split
    rw [Lib.count_one]
    rfl
  | a :: r => by
    have ih := split_cut c r
    unfold Lib.split at ih ⊢
    rw [Lib.count_one] at ih ⊢
    rw [cutL]
    by_cases h : a = c
    · subst h
      rw [if_pos rfl, List.count_cons_self, Lib.splitK]
      have hix : Lib.index (a :: r) [a] = 0 := by rw [Lib.index]; simp [List.isPrefixOf]
      rw [hix, if_neg (by decide), ← ih]
      rfl
    · rw [if_neg h, List.count_cons_of_ne h]
      have hp : ([c] : List UInt8).isPrefixOf (a :: r) = false := by simp [List.isPrefixOf, Ne.symm h]
      have hix : Lib.index (a :: r) [c] = if Lib.index r [c] == -1 then -1 else Lib.index r [c] + 1 := by rw [Lib.index, hp]; simp
      have hge := Lib.index_ge r [c]
      cases hk : List.count c r with
      | zero =>
        rw [hk] at ih
        rw [← ih]
        rfl
      | succ k =>
        rw [hk, Lib.splitK] at ih
        rw [Lib.splitK, hix]
        by_cases hm : Lib.index r [c] = -1
        · rw [if_pos (beq_iff_eq.2 hm)] at ih ⊢
          rw [if_pos (by rfl), ← ih]
          rfl
        · rw [if_neg (fun e => hm (beq_iff_eq.1 e))] at ih ⊢
          rw [if_neg (fun e => by have := beq_iff_eq.1 e; omega), ← ih]
          obtain ⟨j, hj⟩ : ∃ j : Nat, Lib.index r [c] = j := ⟨(Lib.index r [c]).toNat, by omega⟩
          rw [hj, show ((j : Int) + 1).toNat = j + 1 by omega, show ((j : Int)).toNat = j by omega, show j + 1 + [c].length = (j + [c].length) + 1 by simp, List.drop_succ_cons, Nat.add_zero, Nat.add_zero, List.take_succ_cons]
          rfl
/-- The lines of a text. -/
def linesF : List UInt8 → List (List UInt8)
  | [] => []
  | a :: r => if a = 10 then [] :: linesF r else onHead [a] (linesF r)
theorem linesF_ne {s : List UInt8} (h : s ≠ []) : linesF s ≠ [] := by
  cases s with
  | nil => exact absurd rfl h
  | cons a r =>
    rw [linesF]
    split
    · simp
    · cases linesF r <;> simp [onHead]
theorem suffix_cons {a b : UInt8} {r : List UInt8} (h : r ≠ []) : Lib.hasSuffix (a :: r) [b] = Lib.hasSuffix r [b] := by
  unfold Lib.hasSuffix
  apply Bool.eq_iff_iff.2
  rw [List.isSuffixOf_iff_suffix, List.isSuffixOf_iff_suffix, List.suffix_cons_iff]
  constructor
  · rintro (e | h1)
    · injection e with _ e; exact absurd e.symm h
    · exact h1
  · exact .inr
theorem trim_lines : ∀ s : List UInt8, s ≠ [] → cutL 10 (Lib.trimSuffix s [10]) = linesF s
  | [], h => absurd rfl h
  | [a], _ => by
    unfold Lib.trimSuffix Lib.hasSuffix
    by_cases h : a = 10
    · subst h; rfl
    · have : List.isSuffixOf [10] [a] = false := by
        cases hb : List.isSuffixOf [10] [a] with
        | false => rfl
        | true =>
          have := List.isSuffixOf_iff_suffix.1 hb
          rw [List.suffix_cons_iff] at this
          rcases this with e | e
          · injection e with e; exact absurd e.symm h
          · have := e.length_le; simp at this
      rw [this, if_neg (by decide), cutL, linesF, if_neg h, if_neg h]
      rfl
  | a :: b :: r, _ => by
    have ih := trim_lines (b :: r) (by simp)
    have hs := suffix_cons (a := a) (b := 10) (r := b :: r) (by simp)
    have ht : Lib.trimSuffix (a :: b :: r) [10] = a :: Lib.trimSuffix (b :: r) [10] := by
      unfold Lib.trimSuffix
      rw [hs]
      split
      · rfl
      · rfl
    rw [ht, cutL, linesF, ih]
theorem cutL_app {c : UInt8} : ∀ (p : List UInt8) (X : List UInt8), c ∉ p → cutL c (p ++ X) = onHead p (cutL c X)
  | [], X, _ => by
    cases h : cutL c X with
    | nil => exact absurd h (cutL_ne c X)
    | cons a t => rw [List.nil_append, h]; rfl
  | a :: p, X, h => by
    rw [List.cons_append, cutL, if_neg (fun e => h (by rw [e]; simp)), cutL_app p X (fun hp => h (by simp [hp]))]
    cases h : cutL c X with
    | nil => exact absurd h (cutL_ne c X)
    | cons a t => rfl
theorem linesF_app : ∀ (p X : List UInt8), 10 ∉ p → linesF (p ++ 10 :: X) = p :: linesF X
  | [], X, _ => by rw [List.nil_append, linesF, if_pos rfl]
  | a :: p, X, h => by
    rw [List.cons_append, linesF, if_neg (fun e => h (by rw [e]; simp)), linesF_app p X (fun hp => h (by simp [hp]))]
    rfl
/-- The first line, and what stands behind it. -/
theorem linesF_next : ∀ {s : List UInt8}, s ≠ [] → linesF s = s.takeWhile (fun b => decide (b ≠ 10)) :: linesF (s.drop ((s.takeWhile (fun b => decide (b ≠ 10))).length + 1))
  | [], h => absurd rfl h
  | [a], _ => by
    rw [linesF, List.takeWhile_cons]
    by_cases h : a = 10
    · rw [if_pos h, if_neg (by simp [h])]; rfl
    · rw [if_neg h, if_pos (by simp [h])]; rfl
  | a :: b :: r, _ => by
    have ih := linesF_next (s := b :: r) (by simp)
    rw [linesF, List.takeWhile_cons]
    by_cases h : a = 10
    · rw [if_pos h, if_neg (by simp [h])]; rfl
    · rw [if_neg h, if_pos (by simp [h]), ih]; rfl

/-! ### What lines are parsed to -/
def intsF : List (List UInt8) → Option (List Int)
  | [] => some []
  | s :: l => match intF s with
    | none => none
    | some z => (intsF l).map (z :: ·)
def findO (w : List UInt8) : Option Nat := opsL.findIdx? fun r => decide (r.1 = w)
def instrF (l : List (List UInt8)) : Option IN :=
  match findO (l.headD []) with
  | none => none
  | some o => if l.length = 1 + (opF o).2.1 then
      if o = 0 then (natF (l.getD 1 [])).map fun n => ⟨0, 0, 0, n⟩
      else (intsF l.tail).map fun k => ⟨o, k.getD 0 0, k.getD 1 0, 0⟩
    else none
abbrev PR := List FN × List IN
def putL (p : PR) (l : List (List UInt8)) : Option PR :=
  if l.headD [] = funcS then
    match intsF l.tail, p.2 with
    | some [a, b, c], [] => some (p.1 ++ [⟨a, b, c⟩], [])
    | _, _ => none
  else (instrF l).map fun x => (p.1, p.2 ++ [x])
inductive PO where
  | ok (p : PR)
  | err (n e : Nat)
def parseL : List (List UInt8) → Nat → PR → PO
  | [], _, p => .ok p
  | l :: ls, n, p => match putL p (cutL 32 l) with
    | none => .err n 4
    | some q => parseL ls (n + 1) q
/-- The program of lines. -/
def parseV (s : List UInt8) : PO := if (linesF s).length ≤ 8192 then parseL (linesF s) 1 ([], []) else .err 0 7

/-! ### Lines of instructions -/
theorem intsF_len : ∀ {l : List (List UInt8)} {k : List Int}, intsF l = some k → k.length = l.length
  | [], k, h => by injection h with h; subst h; rfl
  | s :: l, k, h => by
    rw [intsF] at h
    split at h
    · cases h
    · obtain ⟨k2, h2, rfl⟩ := Option.map_eq_some_iff.1 h
      rw [List.length_cons, List.length_cons, intsF_len h2]
theorem dec_no (c : UInt8) (hc : c.toNat < 48) (n : Nat) : c ∉ Lib.decDigits n := by
  induction n using Nat.strongRecOn with
  | ind n ih =>
    rw [Lib.decDigits]
    split
    · rename_i h
      intro hm
      rw [List.mem_singleton.1 hm, decU8 n h] at hc
      omega
    · rename_i h
      intro hm
      rcases List.mem_append.1 hm with hm | hm
      · exact ih (n / 10) (by omega) hm
      · rw [List.mem_singleton.1 hm, decU8 _ (by omega)] at hc
        omega
theorem itoa_no (c : UInt8) (hc : c.toNat < 45) (z : Int) : c ∉ Lib.itoa z := by
  unfold Lib.itoa
  split
  · intro hm
    rcases List.mem_cons.1 hm with e | hm
    · rw [e] at hc; exact absurd hc (by decide)
    · exact dec_no c (by omega) _ hm
  · exact dec_no c (by omega) _
theorem args_no (l : List Int) : 10 ∉ l.flatMap arg := by
  intro h
  obtain ⟨z, -, hz⟩ := List.mem_flatMap.1 h
  rcases List.mem_cons.1 hz with e | hz
  · exact absurd e (by decide)
  · exact itoa_no 10 (by decide) z hz
theorem args_cut : ∀ (l : List Int) , cutL 32 (l.flatMap arg) = [] :: l.map Lib.itoa ∨ False
  | [] => .inl rfl
  | z :: l => .inl (by
    have ih := (args_cut l).resolve_right id
    rw [List.flatMap_cons, arg, List.cons_append, cutL, if_pos rfl, cutL_app _ _ (itoa_no 32 (by decide) z), ih, List.map_cons]
    simp [onHead])
theorem ops_facts : ∀ o : Fin 36, 10 ∉ (opsL.getD o.val noneR).1 ∧ 32 ∉ (opsL.getD o.val noneR).1 ∧ (opsL.getD o.val noneR).1 ≠ [] ∧ (opsL.getD o.val noneR).1 ≠ funcS ∧ findO (opsL.getD o.val noneR).1 = some o.val ∧ (opsL.getD o.val noneR).2.1 ≤ 2 ∧ ((opsL.getD o.val noneR).1).length ≤ 6 ∧ ((opsL.getD 0 noneR).2.1 = 1) := by decide
theorem opF_named {o : Int} (h : (opF o).1 ≠ []) : ∃ k : Fin 36, o = k.val ∧ opF o = opsL.getD k.val noneR := by
  unfold opF at h ⊢
  split at h
  · rename_i hb
    refine ⟨⟨o.toNat, by omega⟩, by show o = (o.toNat : Int); omega, ?_⟩
    rw [if_pos hb]
  · exact absurd rfl h
theorem opF_at (k : Fin 36) : opF (k.val : Int) = opsL.getD k.val noneR := by
  unfold opF
  rw [if_pos ⟨by omega, by have := k.isLt; omega⟩]
  rfl
theorem intsF_itoa : ∀ (l : List Int), (∀ z ∈ l, -9223372036854775808 ≤ z ∧ z ≤ 9223372036854775807) → intsF (l.map Lib.itoa) = some l
  | [], _ => rfl
  | z :: l, h => by
    rw [List.map_cons, intsF, intF_iff.2 ⟨h z (by simp), rfl⟩]
    dsimp only
    rw [intsF_itoa l (fun z hz => h z (by simp [hz]))]
    rfl
def InOk (x : IN) : Prop := (-9223372036854775808 ≤ x.a ∧ x.a ≤ 9223372036854775807) ∧ (-9223372036854775808 ≤ x.b ∧ x.b ≤ 9223372036854775807) ∧ x.n < 18446744073709551616
theorem lineF_named {x : IN} (h : (opF x.o).1 ≠ []) : lineF x = if x.o = 0 then (opF x.o).1 ++ 32 :: Lib.decDigits x.n else (opF x.o).1 ++ ([x.a, x.b].take (opF x.o).2.1).flatMap arg := by
  unfold lineF
  cases hw : (opF x.o).1 with
  | nil => exact absurd hw h
  | cons a t => rfl
theorem line_no (x : IN) : 10 ∉ lineF x := by
  by_cases h : (opF x.o).1 = []
  · unfold lineF; rw [h]; show 10 ∉ ([63] : List UInt8); decide
  · obtain ⟨k, -, hk⟩ := opF_named h
    rw [lineF_named h, hk]
    have h1 := (ops_facts k).1
    split
    · intro hm
      rcases List.mem_append.1 hm with hm | hm
      · exact h1 hm
      · rcases List.mem_cons.1 hm with e | hm
        · exact absurd e (by decide)
        · exact dec_no 10 (by decide) _ hm
    · intro hm
      rcases List.mem_append.1 hm with hm | hm
      · exact h1 hm
      · exact args_no _ hm
/-- An instruction's line is one. -/
theorem line_back {x : IN} (hx : InOk x) (h : (opF x.o).1 ≠ []) (p : PR) : ∃ y, putL p (cutL 32 (lineF x)) = some (p.1, p.2 ++ [y]) := by
  obtain ⟨k, h1, hk⟩ := opF_named h
  obtain ⟨f1, f2, f3, f4, f5, f6, f7, f8⟩ := ops_facts k
  obtain ⟨⟨b1, b2⟩, ⟨b3, b4⟩, b5⟩ := hx
  have hk2 := opF_at k
  rw [lineF_named h, hk]
  by_cases h0 : x.o = 0
  · have hk0 : k.val = 0 := by omega
    rw [if_pos h0, cutL_app _ _ f2, cutL, if_pos rfl, show Lib.decDigits x.n = Lib.decDigits x.n ++ [] by rw [List.append_nil], cutL_app _ _ (dec_no 32 (by decide) _)]
    have e : onHead (opsL.getD k.val noneR).1 ([] :: onHead (Lib.decDigits x.n) (cutL 32 [])) = [(opsL.getD k.val noneR).1, Lib.decDigits x.n] := by simp [onHead, cutL]
    rw [e]
    unfold putL
    rw [if_neg (by simpa using f4)]
    unfold instrF
    rw [show ([(opsL.getD k.val noneR).1, Lib.decDigits x.n] : List (List UInt8)).headD [] = (opsL.getD k.val noneR).1 from rfl, f5]
    dsimp only
    rw [hk2, hk0, if_pos (by rw [f8]; rfl), if_pos rfl]
    rw [show natF (([(opsL.getD 0 noneR).1, Lib.decDigits x.n] : List (List UInt8)).getD 1 []) = some x.n from natF_iff.2 ⟨b5, rfl⟩]
    exact ⟨_, rfl⟩
  · have hk0 : k.val ≠ 0 := by omega
    rw [if_neg h0, cutL_app _ _ f2, (args_cut _).resolve_right id]
    rw [show onHead (opsL.getD k.val noneR).1 ([] :: (List.take (opsL.getD k.val noneR).2.1 [x.a, x.b]).map Lib.itoa) = (opsL.getD k.val noneR).1 :: (List.take (opsL.getD k.val noneR).2.1 [x.a, x.b]).map Lib.itoa by simp [onHead]]
    unfold putL
    rw [if_neg (by simpa using f4)]
    unfold instrF
    rw [List.headD_cons, f5]
    dsimp only
    rw [hk2, if_pos (by rw [List.length_cons, List.length_map, List.length_take]; show min _ 2 + 1 = 1 + _; omega), if_neg hk0, List.tail_cons, intsF_itoa _ (fun z hz => by
      have := List.mem_of_mem_take hz
      simp at this
      rcases this with rfl | rfl
      · exact ⟨b1, b2⟩
      · exact ⟨b3, b4⟩)]
    exact ⟨_, rfl⟩
theorem lines_text : ∀ (l : List IN), linesF (l.flatMap fun x => lineF x ++ [10]) = l.map lineF
  | [] => rfl
  | x :: l => by
    rw [List.flatMap_cons, List.append_assoc, List.singleton_append, linesF_app _ _ (line_no x), lines_text l, List.map_cons]
theorem parseL_text : ∀ (l : List IN) (n : Nat) (p : PR), (∀ x ∈ l, InOk x ∧ (opF x.o).1 ≠ []) → ∃ q, parseL (l.map lineF) n p = .ok q ∧ q.1 = p.1 ∧ q.2.length = p.2.length + l.length
  | [], n, p, _ => ⟨p, rfl, rfl, by simp⟩
  | x :: l, n, p, h => by
    obtain ⟨y, hy⟩ := line_back (h x (by simp)).1 (h x (by simp)).2 p
    obtain ⟨q, h1, h2, h3⟩ := parseL_text l (n + 1) (p.1, p.2 ++ [y]) (fun x hx => h x (by simp [hx]))
    refine ⟨q, ?_, h2, ?_⟩
    · rw [List.map_cons, parseL, hy]; exact h1
    · rw [h3, List.length_append, List.length_cons, List.length_cons, List.length_nil]; omega
theorem parse_text (l : List IN) (hl : l.length ≤ 8192) (h : ∀ x ∈ l, InOk x ∧ (opF x.o).1 ≠ []) : ∃ q, parseV (textF [] l) = .ok q ∧ q.1 = [] ∧ q.2.length = l.length := by
  have e : textF [] l = l.flatMap fun x => lineF x ++ [10] := rfl
  unfold parseV
  rw [e, lines_text, List.length_map, if_pos hl]
  obtain ⟨q, h1, h2, h3⟩ := parseL_text l 1 ([], []) h
  exact ⟨q, h1, h2, by rw [h3]; simp⟩
end Go.Proofs.YtblobabhdmigiaaDoor

namespace Go.Proofs.YtblobabhdmigiaaDoor
set_option linter.unusedVariables false
set_option linter.unusedSimpArgs false
open Go.RowKit Go.Sort Go.Lib
set_option maxRecDepth 100000

set_option maxRecDepth 100000

set_option maxHeartbeats 6400000 in
theorem ifmt (n : Nat) (h1 : n < 18446744073709551616) (w : World) (htab : Lib.TabIs Tryd.prog w "internal/strconv.uint64pow10" .u64 Lib.pow10Tab) :
    Calls Tryd.prog 54 #[.int .u64 n, .int .i64 10] w fun e w' => e = .returned (.string ⟨(Lib.decDigits n).toArray⟩) ∧ Below w.heap.size w w' := by
  by_cases hs : n < 100
  · have hw : IntKind.i64.wrap (n : Int) = n := by rw [IntKind.wrap_i64]; omega
    go_enter Tryd.func54, Tryd.ntmps54
    go_wp2_with (go_at_call 63; refine (Tryd.internal_strconv_small n hs _).mono ?_; rintro e w' ⟨rfl, rfl⟩)
    go_ret
    exact ⟨rfl, Below.refl _ _⟩
  · have hu1 : 1 ≤ n := by omega
    have hnd20 : Lib.nDigits n ≤ 20 := by have := Lib.numDigits_eq n hu1 h1; split at this <;> omega
    have hb3 : Lib.nDigits n ≤ 24 := by omega
    have hal : Tryd.prog.arrayLen 117 = 24 := by kernel_rfl
    have hsl1 : ∀ W, (Instr.sliceAt 117 (.pointer (some ⟨w.heap.size, 0, none⟩)) none (some (.int .i64 (Lib.nDigits n : Int))) none).run Tryd.prog W = .ok (.slice (some ⟨w.heap.size, 0, none⟩) (Lib.nDigits n) 24) W := fun W => by
      rw [run_sliceAt_array_h W 117 ⟨w.heap.size, 0, none⟩ (by kernel_rfl) .i64 (Lib.nDigits n : Int) (by omega) (by rw [hal]; omega)]
      go_simp
    have hH0 : Holds (fun (b : UInt8) => Value.int .u8 (b.toNat : Int)) (w.alloc (.cells Lib.zeros24 117)) w.heap.size 0 (Array.replicate (Lib.nDigits n) 0) := fun j hj => by
      have hj' : j < Lib.nDigits n := by simpa using hj
      refine ⟨?_, World.frozen?_alloc_new _ _ _ _⟩
      rw [World.cell?_alloc_new, Lib.zeros24_at _ (by omega), getElem!_pos _ j hj]
      simp
    have hfmt := Tryd.internal_strconv_formatBase10 w.heap.size 0 24 n (Array.replicate (Lib.nDigits n) 0) (w.alloc (.cells Lib.zeros24 117)) hH0 (by rw [Array.size_replicate]; exact Lib.lt_pow_nDigits n) h1 (by rw [Array.size_replicate]; omega)
    rw [Array.size_replicate] at hfmt
    have HH0 := Lib.hid hH0
    clear hH0 hal
    go_enter Tryd.func54, Tryd.ntmps54
    go_wp2_with (first
      | (go_at_call 64; refine (Tryd.internal_strconv_numDigits n hu1 h1 _ (Lib.tabIs_alloc htab _)).mono ?_; rintro e w' ⟨rfl, rfl⟩))
    go_at_call 65
    refine hfmt.mono ?_
    rintro e w' ⟨rfl, k, v', dk, rfl, hF⟩
    have hcv : (convert 75 9 (.slice (some ⟨w.heap.size, 0, none⟩) (Lib.nDigits n) 24)).run Tryd.prog ((putRow (fun (b : UInt8) => Value.int .u8 (b.toNat : Int)) (w.alloc (.cells Lib.zeros24 117)) w.heap.size 0 dk).drewN k) = .ok (.string ⟨(Lib.decDigits n).toArray⟩) ((putRow (fun (b : UInt8) => Value.int .u8 (b.toNat : Int)) (w.alloc (.cells Lib.zeros24 117)) w.heap.size 0 dk).drewN k) := by
      have h := run_convert_bytes_back (P := Tryd.prog) ((putRow (fun (b : UInt8) => Value.int .u8 (b.toNat : Int)) (w.alloc (.cells Lib.zeros24 117)) w.heap.size 0 dk).drewN k) 75 9 5 ⟨w.heap.size, 0, none⟩ 24 (Lib.decDigits n) (by kernel_rfl) (by kernel_rfl) (by kernel_rfl) (fun j hj => by
        rw [Lib.row_is_numeral hF j hj, Lib.add_plain, World.cell?_drewN]
        exact cell?_putRow (fun (b : UInt8) => Value.int .u8 (b.toNat : Int)) _ w.heap.size 0 _ dk HH0.out (by rw [hF.size, Array.size_replicate]) j (by rw [hF.size]; rw [Lib.decDigits_length] at hj; exact hj))
      rw [Lib.decDigits_length] at h
      exact h
    go_wp2
    go_ret
    obtain ⟨os, eo⟩ := Lib.fin_at w (.cells Lib.zeros24 117) dk k 0
    rw [eo]
    exact ⟨rfl, Lib.below_grow _ _ (Nat.le_refl _) _ _⟩
theorem fmt (n : Nat) (h1 : n < 18446744073709551616) (w : World) (htab : Lib.TabIs Tryd.prog w "internal/strconv.uint64pow10" .u64 Lib.pow10Tab) :
    Calls Tryd.prog 45 #[.int .u64 n, .int .i64 10] w fun e w' => e = .returned (.string ⟨(Lib.decDigits n).toArray⟩) ∧ Below w.heap.size w w' := by
  go_enter Tryd.func45, Tryd.ntmps45
  go_wp2_with (go_at_call 54; refine (ifmt n h1 _ htab).mono ?_; rintro e w' ⟨rfl, hb⟩)
  go_ret
  exact ⟨rfl, hb⟩
/-- What is known of the program's variables: the powers of ten, and the errors of strconv. -/
def ErrAt (w : World) (b : Nat) : Prop := ∃ ev, w.cell? ⟨b, 0, none⟩ = some ev ∧ (ev = .nilIface ∨ ∃ te pe, ev = .iface te pe)
def ΓS : Glob := ⟨fun S w => (Lib.TabIs Tryd.prog w "internal/strconv.uint64pow10" .u64 Lib.pow10Tab ∧ ∀ g, Tryd.prog.globalNamed "internal/strconv.uint64pow10" = some g → S g) ∧ (ErrAt w 5 ∧ S 5) ∧ ErrAt w 6 ∧ S 6,
  fun {S S' w w'} hw hS ⟨⟨h1, h2⟩, ⟨h3, h4⟩, h5, h6⟩ => ⟨⟨by
    unfold Lib.TabIs World.var? at h1 ⊢
    cases hg : Tryd.prog.globalNamed "internal/strconv.uint64pow10" with
    | none => rw [hg] at h1; cases h1
    | some g =>
      rw [hg] at h1
      simp only [Option.bind_some] at h1 ⊢
      rw [hw g (h2 g hg)]
      exact h1, fun g hg => hS g (h2 g hg)⟩, ⟨by
    obtain ⟨ev, he, hk⟩ := h3
    exact ⟨ev, by rw [cell_same (hw _ h4)]; exact he, hk⟩, hS _ h4⟩, by
    obtain ⟨ev, he, hk⟩ := h5
    exact ⟨ev, by rw [cell_same (hw _ h6)]; exact he, hk⟩, hS _ h6⟩, [], fun _ => none, fun _ h => by cases h⟩
theorem one_arg {S : Nat → Prop} {w : World} {a : T1} {vs : List Value} (h : All2 (V1 ι0 S w) [a] vs) : ∃ u, vs = [u] ∧ V1 ι0 S w a u := by
  obtain ⟨u, rfl, e⟩ := h.one_left
  exact ⟨u, rfl, e⟩
theorem two_args {S : Nat → Prop} {w : World} {a b : T1} {vs : List Value} (h : All2 (V1 ι0 S w) [a, b] vs) : ∃ u v, vs = [u, v] ∧ V1 ι0 S w a u ∧ V1 ι0 S w b v := by
  obtain ⟨u, vs, rfl, e0, h⟩ := h.cons_left
  obtain ⟨v, rfl, e1⟩ := h.one_left
  exact ⟨u, v, rfl, e0, e1⟩
theorem open_v {S : Nat → Prop} {w : World} {v u : Value} (h : V1 ι0 S w (c1 (.v v)) u) : u = v := by
  have h' : Imm S w _ u := h
  cases h'; rfl
theorem fmt_c (n : Nat) (h1 : n < 18446744073709551616) : CallsA Tryd.prog ΓS 45 [c1 (du n), c1 (di 10)] (.o (c1 (ds ⟨(Lib.decDigits n).toArray⟩))) :=
  ⟨⟨_, Tryd.func45, by kernel_rfl, rfl⟩, fun S w vs hS hG hvs => by
    obtain ⟨u, v, rfl, e1, e2⟩ := two_args hvs
    obtain rfl := open_v e1
    obtain rfl := open_v e2
    exact (fmt n h1 w hG.1.1).mono fun e w' ⟨he, hb⟩ => by subst he; exact flat_end hS hb (Imm.v rfl)⟩
/-- What ParseUint answers, at base 10: the number, and is there an error? -/
def puT (s : ByteArray) : TV := match Lib.parseUintB 64 s.data.toList with
  | .ok u => .tup [c1 (du u), c1 (.v .nilIface)]
  | .range => .tup [c1 (du 18446744073709551615), c1 .err]
  | _ => .tup [c1 (du 0), c1 .err]
theorem three_args {S : Nat → Prop} {w : World} {a b c : T1} {vs : List Value} (h : All2 (V1 ι0 S w) [a, b, c] vs) : ∃ u v x, vs = [u, v, x] ∧ V1 ι0 S w a u ∧ V1 ι0 S w b v ∧ V1 ι0 S w c x := by
  obtain ⟨u, vs, rfl, e0, h⟩ := h.cons_left
  obtain ⟨v, x, rfl, e1, e2⟩ := two_args h
  exact ⟨u, v, x, rfl, e0, e1, e2⟩
theorem pu_c (s : ByteArray) (hs : s.size ≤ 281474976710656) : CallsA Tryd.prog ΓS 60 [c1 (ds s), c1 (di 10), c1 (di 64)] (puT s) :=
  ⟨⟨_, Tryd.func60, by kernel_rfl, rfl⟩, fun S w vs hS hG hvs => by
    obtain ⟨u, v, x, rfl, e1, e2, e3⟩ := three_args hvs
    obtain rfl := open_v e1
    obtain rfl := open_v e2
    obtain rfl := open_v e3
    unfold puT
    obtain ⟨-, ⟨⟨ev, h1, h2⟩, -⟩, ⟨er, h3, h4⟩, -⟩ := hG
    cases hp : Lib.parseUintB 64 s.data.toList with
    | ok u =>
      refine (Tryd.strconv_ParseUint_10_at64_ok s (by omega) u hp w).mono fun e w' ⟨he, hb⟩ => ?_
      subst he
      exact flat_end hS (by rcases hb with rfl | rfl; exact Below.refl _ _; exact Lib.bytesWorld_below _ _ _) ⟨[_, _], rfl, .cons (Imm.v rfl) (.cons (Imm.v rfl) .nil)⟩
    | range =>
      refine (Tryd.strconv_ParseUint_10_at64_range s hs hp er w h3 h4).mono fun e w' ⟨N, he, _, _, hb⟩ => ?_
      subst he
      exact flat_end hS hb ⟨[_, _], rfl, .cons (Imm.v rfl) (.cons Imm.err .nil)⟩
    | _ =>
      refine (Any.strconv_ParseUint_10_at64_syntax Tryd.laysPu14 s hs hp ev w h1 h2).mono fun e w' ⟨N, he, _, _, hb⟩ => ?_
      subst he
      exact flat_end hS hb ⟨[_, _], rfl, .cons (Imm.v rfl) (.cons Imm.err .nil)⟩⟩
abbrev bs (l : List UInt8) : ByteArray := ⟨l.toArray⟩
theorem bs_app (l m : List UInt8) : bs l ++ bs m = bs (l ++ m) := by
  apply ByteArray.ext
  rw [ByteArray.data_append]
  simp
theorem bs_size (l : List UInt8) : (bs l).size = l.length := by simp [ByteArray.size]
theorem bs_list (s : ByteArray) : bs s.data.toList = s := by simp [bs]
/-- The table of the Ops, cell by cell. -/
def shapesV : List Value := opsL.flatMap fun r => [.string (bs r.1), .int .i64 r.2.1, .int .i64 r.2.2.1, .int .i64 r.2.2.2]
def ΓC : Glob := (ΓS.num 2).tab 0 shapesV (by decide)
theorem CallsA.gC {f : FuncId} {xs : List T1} {r : TV} (h : CallsA Tryd.prog ΓS f xs r) : CallsA Tryd.prog ΓC f xs r := h.num.tab
theorem itoa_c (z : Int) (h1 : -9223372036854775808 ≤ z) (h2 : z ≤ 9223372036854775807) : CallsA Tryd.prog ΓC 44 [c1 (di z)] (Tstr (bs (Lib.itoa z))) :=
  ⟨⟨_, Tryd.func44, by kernel_rfl, rfl⟩, fun S w vs hS hG hvs => by
    obtain ⟨u, rfl, e1⟩ := one_arg hvs
    obtain rfl := open_v e1
    refine (Tryd.strconv_Itoa z h1 h2 w hG.1.1.1.1).mono fun e w' ⟨he, k, os, hw⟩ => ?_
    subst he; subst hw
    exact flat_end hS (Lib.below_grow _ _ (Nat.le_refl _) _ _) (Imm.v rfl)⟩
/-- What Atoi answers: the number, and is there an error? -/
def atT (s : List UInt8) : TV := match Lib.atoiAll s with
  | .ok u => .tup [c1 (di u), c1 (.v .nilIface)]
  | .range => .tup [c1 (di (Lib.atoiSat s)), c1 .err]
  | _ => .tup [c1 (di 0), c1 .err]
theorem atoi_c (s : ByteArray) (hs : s.size ≤ 1048576) : CallsA Tryd.prog ΓC 73 [c1 (ds s)] (atT s.data.toList) :=
  ⟨⟨_, Tryd.func73, by kernel_rfl, rfl⟩, fun S w vs hS hG hvs => by
    obtain ⟨u, rfl, e1⟩ := one_arg hvs
    obtain rfl := open_v e1
    unfold atT
    obtain ⟨-, ⟨⟨ev, h1, h2⟩, -⟩, ⟨er, h3, h4⟩, -⟩ := hG.1.1
    cases hp : Lib.atoiAll s.data.toList with
    | ok u =>
      refine (Tryd.strconv_Atoi_ok s (by omega) u hp w).mono fun e w' ⟨he, hb⟩ => ?_
      subst he
      exact flat_end hS (by rcases hb with rfl | ⟨t, rfl⟩; exact Below.refl _ _; exact Lib.bytesWorld_below _ _ _) ⟨[_, _], rfl, .cons (Imm.v rfl) (.cons (Imm.v rfl) .nil)⟩
    | range =>
      refine (Tryd.strconv_Atoi_range s (by omega) hp er w h3 h4).mono fun e w' ⟨N, he, _, _, hb⟩ => ?_
      subst he
      exact flat_end hS hb ⟨[_, _], rfl, .cons (Imm.v rfl) (.cons Imm.err .nil)⟩
    | _ =>
      refine (Any.strconv_Atoi_syntax Tryd.laysC172 s (by omega) hp ev w h1 h2).mono fun e w' ⟨N, he, _, _, hb⟩ => ?_
      subst he
      exact flat_end hS hb ⟨[_, _], rfl, .cons (Imm.v rfl) (.cons Imm.err .nil)⟩⟩
theorem trim_c (Γ : Glob) (s p : List UInt8) (hs : s.length ≤ 1048576) : CallsA Tryd.prog Γ 35 [c1 (ds (bs s)), c1 (ds (bs p))] (Tstr (bs (Lib.trimSuffix s p))) :=
  ⟨⟨_, Tryd.func35, by kernel_rfl, rfl⟩, fun S w vs hS hG hvs => by
    obtain ⟨u, v, rfl, e1, e2⟩ := two_args hvs
    obtain rfl := open_v e1
    obtain rfl := open_v e2
    refine (Tryd.strings_TrimSuffix (bs s) (bs p) w (by rw [bs_size]; omega)).mono fun e w' ⟨he, hw⟩ => ?_
    subst he; subst hw
    exact flat_end hS (Below.refl _ _) (Imm.v rfl)⟩
theorem flat1 {α : Type} (f : α → D) : ∀ K : List α, (K.map fun x => [f x]).flatten = K.map f
  | [] => rfl
  | x :: K => by rw [List.map_cons, List.flatten_cons, flat1 f K]; rfl
abbrev dss (K : List (List UInt8)) : D := .sl 1 (K.map fun x => [ds (bs x)])
theorem split_c (s : List UInt8) (c : UInt8) (hs : s.length ≤ 1048576) : CallsA Tryd.prog ΓC 34 [c1 (ds (bs s)), c1 (ds (bs [c]))] (.o (c1 (dss (cutL c s)))) :=
  ⟨⟨_, Tryd.func34, by kernel_rfl, rfl⟩, fun S w vs hS hG hvs => by
    obtain ⟨u, v, rfl, e1, e2⟩ := two_args hvs
    obtain rfl := open_v e1
    obtain rfl := open_v e2
    obtain ⟨⟨-, ⟨m, hm⟩, -⟩, -⟩ := hG
    have hone : 1 ≤ (bs [c]).size := Nat.le_refl 1
    refine (Tryd.strings_Split (bs s) (bs [c]) m w (by rw [bs_size]; omega) hm hone).mono fun e w' ⟨he, hw⟩ => ?_
    subst he; subst hw
    have hl := Lib.splitB_all (bs [c]) hone 0 _ (bs s) rfl
    have hd := Lib.splitB_data (bs [c]) 0 (Lib.countB (bs s) (bs [c])) (bs s)
    generalize Lib.splitB (bs [c]) 0 (Lib.countB (bs s) (bs [c])) (bs s) = B at hl hd
    have hk : Lib.splitK [c] 0 (Lib.count s [c]) s = cutL c s := split_cut c s
    have hd : B.map (·.data.toList) = cutL c s := by rw [← hk]; exact hd
    have hB : B = (cutL c s).map bs := by
      rw [← hd, List.map_map]
      conv => lhs; rw [← List.map_id B]
      exact List.map_congr_left fun x _ => (bs_list x).symm
    rw [← hl]
    subst hB
    rw [List.length_map]
    obtain ⟨K, hK⟩ : ∃ K, cutL c s = K := ⟨_, rfl⟩
    rw [hK]
    have hflat := flat1 (fun x => ds (bs x)) K
    have hrl : (K.map fun x => [ds (bs x)]).length = K.length := List.length_map _
    have hb := Below.alloc (Below.refl w.heap.size w) (Nat.le_refl _) (.cells ((K.map bs).map Value.string).toArray 9)
    refine ⟨_, fun b => S b ∨ b = w.heap.size, rfl, hb, fun _ h => .inl h, fun b h => h.imp id (fun h => Nat.le_of_eq h.symm), fun b h => ?_, ?_⟩
    · rcases h with h | h
      · exact Nat.lt_of_lt_of_le (hS b h) hb.size
      · subst h; show _ < (w.heap.push _).size; rw [Array.size_push]; exact Nat.lt_succ_self _
    · have key := @Imm.sl (fun b => S b ∨ b = w.heap.size) (w.alloc (.cells ((K.map bs).map Value.string).toArray 9)) 1 (K.map fun x => [ds (bs x)]) w.heap.size 0 K.length (fun j => .string (bs (K.getD j []))) (.inr rfl) (Nat.le_of_eq hrl) (fun r hr => by obtain ⟨x, -, rfl⟩ := List.mem_map.1 hr; rfl)
        (fun j d hj => by
          rw [hflat, List.getElem?_map] at hj
          obtain ⟨x, hx, rfl⟩ := Option.map_eq_some_iff.1 hj
          rw [Nat.zero_add, World.cell?_alloc_new, List.getElem?_toArray, List.getElem?_map, List.getElem?_map, hx]
          have : K.getD j [] = x := by rw [List.getD, hx]; rfl
          rw [this]; rfl)
        (fun j d hj => by
          rw [hflat, List.getElem?_map] at hj
          obtain ⟨x, hx, rfl⟩ := Option.map_eq_some_iff.1 hj
          have : K.getD j [] = x := by rw [List.getD, hx]; rfl
          rw [this]
          exact Imm.v rfl)
      rw [hrl] at key
      exact key⟩
end Go.Proofs.YtblobabhdmigiaaDoor

namespace Go.Proofs.YtblobabhdmigiaaDoor
set_option linter.unusedVariables false
set_option linter.unusedSimpArgs false
open Go.RowKit
set_option maxRecDepth 100000

abbrev dint (l : List Int) : D := .sl 1 (l.map fun z => [di z])
abbrev shD (r : OpR) : List D := [ds (bs r.1), di r.2.1, di r.2.2.1, di r.2.2.2]
abbrev inD (x : IN) : List D := [di x.o, di x.a, di x.b, du x.n]
abbrev fnD (f : FN) : List D := [di f.e, di f.s, di f.p]
theorem flat_drop {α β : Type} {f : α → List β} {k : Nat} (hf : ∀ a, (f a).length = k) : ∀ (i : Nat) (l : List α), (l.flatMap f).drop (i * k) = (l.drop i).flatMap f
  | 0, l => by simp
  | i + 1, [] => by simp
  | i + 1, a :: l => by
    rw [List.flatMap_cons, List.drop_succ_cons, Nat.add_mul, Nat.one_mul, Nat.add_comm (i * k) k, ← List.drop_drop, List.drop_left' (hf a), flat_drop hf i l]
theorem ops_drop {k : Nat} (h : k < 36) : opsL.drop k = opsL.getD k noneR :: opsL.drop (k + 1) := by
  have hl : opsL.length = 36 := by decide
  rw [List.drop_eq_getElem_cons (by omega)]
  congr 1
  rw [List.getD, List.getElem?_eq_getElem (by omega)]
  rfl
theorem shapes_at {k : Nat} (h : k < 36) : (shapesV.map D.v).drop (k * 4) = ds (bs (opsL.getD k noneR).1) :: di (opsL.getD k noneR).2.1 :: di (opsL.getD k noneR).2.2.1 :: di (opsL.getD k noneR).2.2.2 :: (shapesV.map D.v).drop ((k + 1) * 4) := by
  unfold shapesV
  rw [← List.map_drop, ← List.map_drop, flat_drop (k := 4) (fun _ => rfl), flat_drop (k := 4) (fun _ => rfl), ops_drop h, List.flatMap_cons]
  rfl
theorem shape_c (o : Int) : CallsA Tryd.prog ΓC 19 [c1 (di o)] (.o (gD (shD (opF o)))) := by
  unfold opF
  by_cases h : 0 ≤ o ∧ o < 36
  · rw [if_pos h]
    have h1 := shapes_at (k := o.toNat) (by omega)
    generalize opsL.getD o.toNat noneR = r at *
    refine fn_rule (C := ⟨Tryd.prog, layF, Tryd.f19.ntmps, ΓC, 0, [], []⟩) layF_ok mixed Tryd.func19 rfl (by kernel_rfl) rfl rfl rfl ?_
    repeat' (first | refine ex_true (by first | decide | omega | assumption | (with_reducible exact rfl)) ?_ | refine ex_false (by first | decide | omega | assumption | exact (fun h => h rfl)) ?_ | refine ex_dec (fun _ => ?_) (fun _ => ?_) | refine ex_u8 _ rfl (by omega) (by omega) ?_ | refine ex_i64 _ rfl (by omega) (by omega) ?_ | refine ex_u64 _ rfl (by omega) (by omega) ?_ | refine and_mk (by first | omega | (with_reducible rfl) | (show drawOk _ _ _ = true; kernel_rfl)) ?_ | refine and_mk ⟨_, rfl⟩ ?_ | refine ex_is _ (List.length_map _) ?_ | refine ex_is _ List.length_nil ?_ | fail "no step")
    refine ex_is _ h1 ?_
    repeat' (first | refine ex_true (by first | decide | omega | assumption | (with_reducible exact rfl)) ?_ | refine ex_false (by first | decide | omega | assumption | exact (fun h => h rfl)) ?_ | refine ex_dec (fun _ => ?_) (fun _ => ?_) | refine ex_u8 _ rfl (by omega) (by omega) ?_ | refine ex_i64 _ rfl (by omega) (by omega) ?_ | refine ex_u64 _ rfl (by omega) (by omega) ?_ | refine and_mk (by first | omega | (with_reducible rfl) | (show drawOk _ _ _ = true; kernel_rfl)) ?_ | refine and_mk ⟨_, rfl⟩ ?_ | refine ex_is _ (List.length_map _) ?_ | refine ex_is _ List.length_nil ?_ | fail "no step")
    exact TLe.rfl
  · rw [if_neg h]
    refine fn_rule (C := ⟨Tryd.prog, layF, Tryd.f19.ntmps, ΓC, 0, [], []⟩) layF_ok mixed Tryd.func19 rfl (by kernel_rfl) rfl rfl rfl ?_
    repeat' (first | refine ex_true (by first | decide | omega | assumption | (with_reducible exact rfl)) ?_ | refine ex_false (by first | decide | omega | assumption | exact (fun h => h rfl)) ?_ | refine ex_dec (fun _ => ?_) (fun _ => ?_) | refine ex_u8 _ rfl (by omega) (by omega) ?_ | refine ex_i64 _ rfl (by omega) (by omega) ?_ | refine ex_u64 _ rfl (by omega) (by omega) ?_ | refine and_mk (by first | omega | (with_reducible rfl) | (show drawOk _ _ _ = true; kernel_rfl)) ?_ | refine and_mk ⟨_, rfl⟩ ?_ | refine ex_is _ (List.length_map _) ?_ | refine ex_is _ List.length_nil ?_ | fail "no step")
    all_goals exact TLe.rfl
theorem name_c (o : Int) : CallsA Tryd.prog ΓC 9 [c1 (di o)] (Tstr (bs (opF o).1)) := by
  refine fn_rule (C := ⟨Tryd.prog, layF, Tryd.f9.ntmps, ΓC, 0, [], []⟩) layF_ok mixed Tryd.func9 rfl (by kernel_rfl) rfl rfl rfl ?_
  repeat' (first | refine ex_call (shape_c o) ?_ | refine ex_true (by first | decide | omega | assumption | (with_reducible exact rfl)) ?_ | refine ex_false (by first | decide | omega | assumption | exact (fun h => h rfl)) ?_ | refine ex_dec (fun _ => ?_) (fun _ => ?_) | refine ex_u8 _ rfl (by omega) (by omega) ?_ | refine ex_i64 _ rfl (by omega) (by omega) ?_ | refine ex_u64 _ rfl (by omega) (by omega) ?_ | refine and_mk (by first | omega | (with_reducible rfl) | (show drawOk _ _ _ = true; kernel_rfl)) ?_ | refine and_mk ⟨_, rfl⟩ ?_ | refine ex_is _ (List.length_map _) ?_ | refine ex_is _ List.length_nil ?_ | fail "no step")
  exact TLe.rfl
theorem takes_c (o : Int) : CallsA Tryd.prog ΓC 8 [c1 (di o)] (.tup [c1 (di (opF o).2.1), c1 (di (opF o).2.2.1), c1 (di (opF o).2.2.2)]) := by
  refine fn_rule (C := ⟨Tryd.prog, layF, Tryd.f8.ntmps, ΓC, 0, [], []⟩) layF_ok mixed Tryd.func8 rfl (by kernel_rfl) rfl rfl rfl ?_
  repeat' (first | refine ex_call (shape_c o) ?_ | refine ex_true (by first | decide | omega | assumption | (with_reducible exact rfl)) ?_ | refine ex_false (by first | decide | omega | assumption | exact (fun h => h rfl)) ?_ | refine ex_dec (fun _ => ?_) (fun _ => ?_) | refine ex_u8 _ rfl (by omega) (by omega) ?_ | refine ex_i64 _ rfl (by omega) (by omega) ?_ | refine ex_u64 _ rfl (by omega) (by omega) ?_ | refine and_mk (by first | omega | (with_reducible rfl) | (show drawOk _ _ _ = true; kernel_rfl)) ?_ | refine and_mk ⟨_, rfl⟩ ?_ | refine ex_is _ (List.length_map _) ?_ | refine ex_is _ List.length_nil ?_ | fail "no step")
  exact TLe.rfl
def alusL : List (List UInt8) := [[43], [45], [42], [47], [37], [38], [124], [60, 60], [62, 62], [61, 61], [33, 61], [60], [60, 61], [62], [62, 61], [38, 38], [124, 124]]
theorem alus_c : CallsA Tryd.prog ΓC 10 [] (.o (c1 (dss alusL))) := by
  refine fn_rule (C := ⟨Tryd.prog, layF, Tryd.f10.ntmps, ΓC, 0, [], []⟩) layF_ok mixed Tryd.func10 rfl (by kernel_rfl) rfl rfl rfl ?_
  repeat' (first | refine ex_true (by first | decide | omega | assumption | (with_reducible exact rfl)) ?_ | refine ex_false (by first | decide | omega | assumption | exact (fun h => h rfl)) ?_ | refine ex_dec (fun _ => ?_) (fun _ => ?_) | refine ex_u8 _ rfl (by omega) (by omega) ?_ | refine ex_i64 _ rfl (by omega) (by omega) ?_ | refine ex_u64 _ rfl (by omega) (by omega) ?_ | refine and_mk (by first | omega | (with_reducible rfl) | (show drawOk _ _ _ = true; kernel_rfl)) ?_ | refine and_mk ⟨_, rfl⟩ ?_ | refine ex_is _ (List.length_map _) ?_ | refine ex_is _ List.length_nil ?_ | fail "no step")
  exact TLe.rfl
theorem dec_len (n : Nat) (h : n < 18446744073709551616) : (Lib.decDigits n).length ≤ 20 := by
  have key : ∀ (d m : Nat), m < 10 ^ (d + 1) → (Lib.decDigits m).length ≤ d + 1 := by
    intro d
    induction d with
    | zero => intro m hm; rw [Lib.decDigits, dif_pos (by omega)]; simp
    | succ d ih =>
      intro m hm
      rw [Lib.decDigits]
      split
      · simp
      · have := ih (m / 10) (by rw [Nat.pow_succ] at hm; omega)
        rw [List.length_append, List.length_singleton]; omega
  exact key 19 n (by omega)
def I64 (z : Int) : Prop := -9223372036854775808 ≤ z ∧ z ≤ 9223372036854775807
theorem itoa_len {z : Int} (h : I64 z) : (Lib.itoa z).length ≤ 21 := by
  unfold Lib.itoa
  unfold I64 at h
  split
  · have := dec_len z.natAbs (by omega)
    rw [List.length_cons]; omega
  · have := dec_len z.toNat (by omega); omega
theorem args_len : ∀ (l : List Int), (∀ z ∈ l, I64 z) → (l.flatMap arg).length ≤ 22 * l.length
  | [], _ => by simp
  | z :: l, h => by
    have h1 := args_len l (fun z hz => h z (by simp [hz]))
    have h2 := itoa_len (h z (by simp))
    rw [List.flatMap_cons, List.length_append, arg, List.length_cons, List.length_cons]; omega
def InB (x : IN) : Prop := I64 x.a ∧ I64 x.b ∧ x.n < 18446744073709551616
theorem opF_has (o : Int) : (opF o).2.1 ≤ 2 ∧ (opF o).1.length ≤ 6 := by
  unfold opF
  split
  · have := ops_facts ⟨o.toNat, by omega⟩
    exact ⟨this.2.2.2.2.2.1, this.2.2.2.2.2.2.1⟩
  · exact ⟨by decide, by decide⟩
end Go.Proofs.YtblobabhdmigiaaDoor

namespace Go.Proofs.YtblobabhdmigiaaDoor
set_option linter.unusedVariables false
set_option linter.unusedSimpArgs false
open Go.RowKit
set_option maxRecDepth 100000

theorem TLe.nilc {s : Nat} {l : List T1} : TLe (.tup (c1 (.v (.slice none 0 0)) :: l)) (.tup (c1 (.sl s []) :: l)) := fun ι S w v ⟨us, hu, h⟩ => by
  have h : All2 (V1 ι S w) (c1 (.v (.slice none 0 0)) :: l) us := h
  obtain ⟨u, us, rfl, e, h⟩ := h.cons_left
  exact ⟨u :: us, hu, .cons (TLe.nil ι S w u e) h⟩
theorem bs_inj {a b : List UInt8} : bs a = bs b ↔ a = b := ⟨fun h => by have := congrArg (fun x : ByteArray => x.data.toList) h; simpa using this, fun h => by rw [h]⟩
/-- The number that Atoi tells. -/
def numZ (s : List UInt8) : Int := match Lib.atoiAll s with
  | .ok u => u
  | .range => Lib.atoiSat s
  | _ => 0
theorem numZ_of {s : List UInt8} {z : Int} (h : intF s = some z) : numZ s = z := by
  obtain ⟨⟨h1, h2⟩, h3⟩ := intF_iff.1 h
  unfold numZ
  rw [← h3, atoi_itoa z h1 h2]
theorem number_c (s : List UInt8) (hs : s.length ≤ 1048576) : CallsA Tryd.prog ΓC 61 [c1 (ds (bs s))] (.tup [c1 (di (numZ s)), c1 (db (intF s).isSome)]) := by
  have ha := atoi_c (bs s) (by rw [bs_size]; exact hs)
  rw [show (bs s).data.toList = s by simp] at ha
  unfold atT at ha
  unfold numZ intF
  cases hp : Lib.atoiAll s with
  | ok u =>
    rw [hp] at ha
    have hb := Lib.atoiAll_bounds hp
    have hi := itoa_c u hb.1 hb.2
    dsimp only
    by_cases he : Lib.itoa u = s
    · rw [if_pos he]
      have he2 : bs (Lib.itoa u) = bs s := bs_inj.2 he
      refine fn_rule (C := ⟨Tryd.prog, layF, Tryd.f61.ntmps, ΓC, 0, [], []⟩) layF_ok mixed Tryd.func61 rfl (by kernel_rfl) rfl rfl rfl ?_
      repeat' (first | refine ex_call hi ?_ | refine ex_call ha ?_ | refine ex_true (by first | decide | omega | assumption | (with_reducible exact rfl)) ?_ | refine ex_false (by first | decide | omega | assumption | exact (fun h => h rfl)) ?_ | refine ex_dec (fun _ => ?_) (fun _ => ?_) | refine ex_u8 _ rfl (by omega) (by omega) ?_ | refine ex_i64 _ rfl (by omega) (by omega) ?_ | refine ex_u64 _ rfl (by omega) (by omega) ?_ | refine and_mk (by first | omega | (with_reducible rfl) | (show drawOk _ _ _ = true; kernel_rfl)) ?_ | refine and_mk ⟨_, rfl⟩ ?_ | refine ex_is _ (List.length_map _) ?_ | refine ex_is _ List.length_nil ?_ | fail "no step")
      exact TLe.rfl
    · rw [if_neg he]
      have he2 : ¬ bs (Lib.itoa u) = bs s := fun e => he (bs_inj.1 e)
      refine fn_rule (C := ⟨Tryd.prog, layF, Tryd.f61.ntmps, ΓC, 0, [], []⟩) layF_ok mixed Tryd.func61 rfl (by kernel_rfl) rfl rfl rfl ?_
      repeat' (first | refine ex_call hi ?_ | refine ex_call ha ?_ | refine ex_true (by first | decide | omega | assumption | (with_reducible exact rfl)) ?_ | refine ex_false (by first | decide | omega | assumption | exact (fun h => h rfl)) ?_ | refine ex_dec (fun _ => ?_) (fun _ => ?_) | refine ex_u8 _ rfl (by omega) (by omega) ?_ | refine ex_i64 _ rfl (by omega) (by omega) ?_ | refine ex_u64 _ rfl (by omega) (by omega) ?_ | refine and_mk (by first | omega | (with_reducible rfl) | (show drawOk _ _ _ = true; kernel_rfl)) ?_ | refine and_mk ⟨_, rfl⟩ ?_ | refine ex_is _ (List.length_map _) ?_ | refine ex_is _ List.length_nil ?_ | fail "no step")
      exact TLe.rfl
  | range =>
    rw [hp] at ha
    dsimp only at ha ⊢
    generalize Lib.atoiSat s = z at *
    refine fn_rule (C := ⟨Tryd.prog, layF, Tryd.f61.ntmps, ΓC, 0, [], []⟩) layF_ok mixed Tryd.func61 rfl (by kernel_rfl) rfl rfl rfl ?_
    repeat' (first | refine ex_call ha ?_ | refine ex_true (by first | decide | omega | assumption | (with_reducible exact rfl)) ?_ | refine ex_false (by first | decide | omega | assumption | exact (fun h => h rfl)) ?_ | refine ex_dec (fun _ => ?_) (fun _ => ?_) | refine ex_u8 _ rfl (by omega) (by omega) ?_ | refine ex_i64 _ rfl (by omega) (by omega) ?_ | refine ex_u64 _ rfl (by omega) (by omega) ?_ | refine and_mk (by first | omega | (with_reducible rfl) | (show drawOk _ _ _ = true; kernel_rfl)) ?_ | refine and_mk ⟨_, rfl⟩ ?_ | refine ex_is _ (List.length_map _) ?_ | refine ex_is _ List.length_nil ?_ | fail "no step")
    exact TLe.rfl
  | _ =>
    rw [hp] at ha
    dsimp only at ha ⊢
    refine fn_rule (C := ⟨Tryd.prog, layF, Tryd.f61.ntmps, ΓC, 0, [], []⟩) layF_ok mixed Tryd.func61 rfl (by kernel_rfl) rfl rfl rfl ?_
    repeat' (first | refine ex_call ha ?_ | refine ex_true (by first | decide | omega | assumption | (with_reducible exact rfl)) ?_ | refine ex_false (by first | decide | omega | assumption | exact (fun h => h rfl)) ?_ | refine ex_dec (fun _ => ?_) (fun _ => ?_) | refine ex_u8 _ rfl (by omega) (by omega) ?_ | refine ex_i64 _ rfl (by omega) (by omega) ?_ | refine ex_u64 _ rfl (by omega) (by omega) ?_ | refine and_mk (by first | omega | (with_reducible rfl) | (show drawOk _ _ _ = true; kernel_rfl)) ?_ | refine and_mk ⟨_, rfl⟩ ?_ | refine ex_is _ (List.length_map _) ?_ | refine ex_is _ List.length_nil ?_ | fail "no step")
    exact TLe.rfl
theorem numbers_c (l : List (List UInt8)) (hl : l.length ≤ 1048577) (hb : ∀ s ∈ l, s.length ≤ 1048576) : CallsA Tryd.prog ΓC 50 [c1 (dss l)] (.tup [c1 (dint ((intsF l).getD [])), c1 (db (intsF l).isSome)]) := by
  obtain ⟨R, hR⟩ : ∃ R, intsF l = R := ⟨_, rfl⟩
  rw [hR]
  refine fn_rule (C := ⟨Tryd.prog, layF, Tryd.f50.ntmps, ΓC, 0, [], []⟩) layF_ok mixed Tryd.func50 rfl (by kernel_rfl) rfl rfl rfl ?_
  repeat' (first | refine ex_true (by first | decide | omega | assumption | (with_reducible exact rfl)) ?_ | refine ex_false (by first | decide | omega | assumption | exact (fun h => h rfl)) ?_ | refine ex_dec (fun _ => ?_) (fun _ => ?_) | refine ex_u8 _ rfl (by omega) (by omega) ?_ | refine ex_i64 _ rfl (by omega) (by omega) ?_ | refine ex_u64 _ rfl (by omega) (by omega) ?_ | refine and_mk (by first | omega | (with_reducible rfl) | (show drawOk _ _ _ = true; kernel_rfl)) ?_ | refine and_mk ⟨_, rfl⟩ ?_ | refine ex_is _ (List.length_map _) ?_ | refine ex_is _ List.length_nil ?_ | fail "no step")
  refine ex_loop (X := Nat × List Int) (fun ⟨q, a⟩ => ⟨[(4, .o (.c (.row 0))), (9, .o (c1 (dss l))), (10, Ti l.length), (11, Ti q)], [(0, .row 1 3 (a.map fun z => [di z]))], 1⟩) (fun x => l.length - x.1) (fun ⟨q, a⟩ => q ≤ l.length ∧ a.length = q ∧ (intsF (l.drop q)).map (a ++ ·) = R) (0, []) ⟨Nat.zero_le _, rfl, by rw [List.drop_zero, hR]; cases R <;> rfl⟩ (SLe.trans (SLe.of ⟨⟨rfl, rfl, rfl, rfl, trivial⟩, ⟨rfl, trivial⟩⟩) (SLe.own 4 0 1 3 rfl rfl rfl rfl rfl)) ?_
  rintro ⟨q, a⟩ ⟨hq, ha, hs⟩
  refine ex_dec (fun h => ?_) (fun h => ?_)
  · have hql : q < l.length := by omega
    have hc : l[q]? = some l[q] := at_some hql
    have hbs := hb l[q] (List.getElem_mem hql)
    rw [List.drop_eq_getElem_cons hql, intsF] at hs
    generalize l[q] = s at *
    have hn := number_c s hbs
    cases hz : intF s with
    | none =>
      rw [hz] at hs hn
      dsimp only at hs
      subst hs
      repeat' (first | refine ex_call hn ?_ | refine (ex_row q s rfl hc) ?_ | refine ex_true (by first | decide | omega | assumption | (with_reducible exact rfl)) ?_ | refine ex_false (by first | decide | omega | assumption | exact (fun h => h rfl)) ?_ | refine ex_dec (fun _ => ?_) (fun _ => ?_) | refine ex_u8 _ rfl (by omega) (by omega) ?_ | refine ex_i64 _ rfl (by omega) (by omega) ?_ | refine ex_u64 _ rfl (by omega) (by omega) ?_ | refine and_mk (by first | omega | (with_reducible rfl) | (show drawOk _ _ _ = true; kernel_rfl)) ?_ | refine and_mk ⟨_, rfl⟩ ?_ | refine ex_is _ (List.length_map _) ?_ | refine ex_is _ List.length_nil ?_ | fail "no step")
      exact TLe.nilc
    | some z =>
      rw [hz] at hs hn
      rw [numZ_of hz] at hn
      dsimp only at hs
      repeat' (first | refine ex_call hn ?_ | refine (ex_row q s rfl hc) ?_ | refine ex_true (by first | decide | omega | assumption | (with_reducible exact rfl)) ?_ | refine ex_false (by first | decide | omega | assumption | exact (fun h => h rfl)) ?_ | refine ex_dec (fun _ => ?_) (fun _ => ?_) | refine ex_u8 _ rfl (by omega) (by omega) ?_ | refine ex_i64 _ rfl (by omega) (by omega) ?_ | refine ex_u64 _ rfl (by omega) (by omega) ?_ | refine and_mk (by first | omega | (with_reducible rfl) | (show drawOk _ _ _ = true; kernel_rfl)) ?_ | refine and_mk ⟨_, rfl⟩ ?_ | refine ex_is _ (List.length_map _) ?_ | refine ex_is _ List.length_nil ?_ | fail "no step")
      refine ex_app (q) (1) 1000 (by first | rfl | (simp; done) | (simp; omega)) (by first | rfl | (simp; done) | (simp; omega)) rfl (by omega) ?_
      refine ex_is (List.map (fun z => [di z]) (a ++ [z])) (by rw [List.map_append]; rfl) ?_
      repeat' (first | refine ex_i64 ((q + 1 : Nat) : Int) (by omega) (by omega) (by omega) ?_ | refine ex_u64 ((q + 1 : Nat) : Int) (by omega) (by omega) (by omega) ?_ | refine ex_u8 ((q + 1 : Nat) : Int) (by omega) (by omega) (by omega) ?_ | refine ex_true (by first | decide | omega | assumption | (with_reducible exact rfl)) ?_ | refine ex_false (by first | decide | omega | assumption | exact (fun h => h rfl)) ?_ | refine ex_dec (fun _ => ?_) (fun _ => ?_) | refine ex_u8 _ rfl (by omega) (by omega) ?_ | refine ex_i64 _ rfl (by omega) (by omega) ?_ | refine ex_u64 _ rfl (by omega) (by omega) ?_ | refine and_mk (by first | omega | (with_reducible rfl) | (show drawOk _ _ _ = true; kernel_rfl)) ?_ | refine and_mk ⟨_, rfl⟩ ?_ | refine ex_is _ (List.length_map _) ?_ | refine ex_is _ List.length_nil ?_ | fail "no step")
      exact ex_round (q + 1, a ++ [z]) ⟨by omega, by simp [ha], by rw [← hs]; cases intsF (l.drop (q + 1)) <;> simp⟩ (by show _ - _ < _ - _; omega) (SLe.ren [(2, 0)] ⟨⟨rfl, rfl⟩, ⟨rfl, rfl⟩, ⟨rfl, rfl⟩, ⟨rfl, rfl⟩, trivial⟩ ⟨⟨rfl, rfl⟩, trivial⟩ rfl)
  · have hq9 : q = l.length := by omega
    subst hq9
    rw [List.drop_length, intsF, Option.map_some, List.append_nil] at hs
    subst hs
    repeat' (first | refine ex_true (by first | decide | omega | assumption | (with_reducible exact rfl)) ?_ | refine ex_false (by first | decide | omega | assumption | exact (fun h => h rfl)) ?_ | refine ex_dec (fun _ => ?_) (fun _ => ?_) | refine ex_u8 _ rfl (by omega) (by omega) ?_ | refine ex_i64 _ rfl (by omega) (by omega) ?_ | refine ex_u64 _ rfl (by omega) (by omega) ?_ | refine and_mk (by first | omega | (with_reducible rfl) | (show drawOk _ _ _ = true; kernel_rfl)) ?_ | refine and_mk ⟨_, rfl⟩ ?_ | refine ex_is _ (List.length_map _) ?_ | refine ex_is _ List.length_nil ?_ | fail "no step")
    exact TLe.rfl
theorem findO_none {w : List UInt8} (h : ∀ j, j < 36 → (opsL.getD j noneR).1 ≠ w) : findO w = none := by
  unfold findO
  rw [List.findIdx?_eq_none_iff]
  intro r hr
  obtain ⟨j, hj⟩ := List.getElem?_of_mem hr
  have hlt := (List.getElem?_eq_some_iff.1 hj).1
  have := h j hlt
  rw [List.getD, hj] at this
  simpa using this
theorem findO_hit {w : List UInt8} {q : Nat} (hq : q < 36) (h : ∀ j, j < q → (opsL.getD j noneR).1 ≠ w) (he : (opsL.getD q noneR).1 = w) : findO w = some q := by
  have := (ops_facts ⟨q, hq⟩).2.2.2.2.1
  rw [← he]
  exact this
theorem find_c (w : List UInt8) : CallsA Tryd.prog ΓC 59 [c1 (ds (bs w))] (.tup [c1 (di ((findO w).getD 0 : Nat)), c1 (db (findO w).isSome)]) := by
  obtain ⟨R, hR⟩ : ∃ R, findO w = R := ⟨_, rfl⟩
  rw [hR]
  refine fn_rule (C := ⟨Tryd.prog, layF, Tryd.f59.ntmps, ΓC, 0, [], []⟩) layF_ok mixed Tryd.func59 rfl (by kernel_rfl) rfl rfl rfl ?_
  repeat' (first | refine ex_true (by first | decide | omega | assumption | (with_reducible exact rfl)) ?_ | refine ex_false (by first | decide | omega | assumption | exact (fun h => h rfl)) ?_ | refine ex_dec (fun _ => ?_) (fun _ => ?_) | refine ex_u8 _ rfl (by omega) (by omega) ?_ | refine ex_i64 _ rfl (by omega) (by omega) ?_ | refine ex_u64 _ rfl (by omega) (by omega) ?_ | refine and_mk (by first | omega | (with_reducible rfl) | (show drawOk _ _ _ = true; kernel_rfl)) ?_ | refine and_mk ⟨_, rfl⟩ ?_ | refine ex_is _ (List.length_map _) ?_ | refine ex_is _ List.length_nil ?_ | fail "no step")
  refine ex_loop (X := Nat) (fun q => ⟨[(0, Tstr (bs w)), (5, Ti q)], [], 0⟩) (fun q => 36 - q) (fun q => q ≤ 36 ∧ ∀ j, j < q → (opsL.getD j noneR).1 ≠ w) 0 ⟨Nat.zero_le _, fun j h => by omega⟩ (SLe.of ⟨⟨rfl, rfl, trivial⟩, trivial⟩) ?_
  rintro q ⟨hq, hs⟩
  refine ex_dec (fun h => ?_) (fun h => ?_)
  · have hq36 : q < 36 := by omega
    have h1 := shapes_at hq36
    have hne := (ops_facts ⟨q, hq36⟩).2.2.1
    dsimp only at hne
    have hhit := findO_hit hq36 hs
    generalize hr : opsL.getD q noneR = r at hne hhit h1
    by_cases hw : r.1 = w
    · have hw2 : bs r.1 = bs w := bs_inj.2 hw
      have hwe : ¬ bs w = ByteArray.empty := fun e => hne (by rw [hw]; exact bs_inj.1 e)
      rw [hhit hw] at hR
      subst hR
      repeat' (first | refine ex_true (by first | decide | omega | assumption | (with_reducible exact rfl)) ?_ | refine ex_false (by first | decide | omega | assumption | exact (fun h => h rfl)) ?_ | refine ex_dec (fun _ => ?_) (fun _ => ?_) | refine ex_u8 _ rfl (by omega) (by omega) ?_ | refine ex_i64 _ rfl (by omega) (by omega) ?_ | refine ex_u64 _ rfl (by omega) (by omega) ?_ | refine and_mk (by first | omega | (with_reducible rfl) | (show drawOk _ _ _ = true; kernel_rfl)) ?_ | refine and_mk ⟨_, rfl⟩ ?_ | refine ex_is _ (List.length_map _) ?_ | refine ex_is _ List.length_nil ?_ | fail "no step")
      refine ex_is _ h1 ?_
      repeat' (first | refine ex_true (by first | decide | omega | assumption | (with_reducible exact rfl)) ?_ | refine ex_false (by first | decide | omega | assumption | exact (fun h => h rfl)) ?_ | refine ex_dec (fun _ => ?_) (fun _ => ?_) | refine ex_u8 _ rfl (by omega) (by omega) ?_ | refine ex_i64 _ rfl (by omega) (by omega) ?_ | refine ex_u64 _ rfl (by omega) (by omega) ?_ | refine and_mk (by first | omega | (with_reducible rfl) | (show drawOk _ _ _ = true; kernel_rfl)) ?_ | refine and_mk ⟨_, rfl⟩ ?_ | refine ex_is _ (List.length_map _) ?_ | refine ex_is _ List.length_nil ?_ | fail "no step")
      exact TLe.rfl
    · have hw2 : ¬ bs r.1 = bs w := fun e => hw (bs_inj.1 e)
      have hnx : ∀ j, j < q + 1 → (opsL.getD j noneR).1 ≠ w := fun j hj => by
        by_cases hjq : j = q
        · subst hjq; rw [hr]; exact hw
        · exact hs j (by omega)
      by_cases hwe : w = []
      · subst hwe
        repeat' (first | refine ex_i64 ((q + 1 : Nat) : Int) (by omega) (by omega) (by omega) ?_ | refine ex_u64 ((q + 1 : Nat) : Int) (by omega) (by omega) (by omega) ?_ | refine ex_u8 ((q + 1 : Nat) : Int) (by omega) (by omega) (by omega) ?_ | refine ex_true (by first | decide | omega | assumption | (with_reducible exact rfl)) ?_ | refine ex_false (by first | decide | omega | assumption | exact (fun h => h rfl)) ?_ | refine ex_dec (fun _ => ?_) (fun _ => ?_) | refine ex_u8 _ rfl (by omega) (by omega) ?_ | refine ex_i64 _ rfl (by omega) (by omega) ?_ | refine ex_u64 _ rfl (by omega) (by omega) ?_ | refine and_mk (by first | omega | (with_reducible rfl) | (show drawOk _ _ _ = true; kernel_rfl)) ?_ | refine and_mk ⟨_, rfl⟩ ?_ | refine ex_is _ (List.length_map _) ?_ | refine ex_is _ List.length_nil ?_ | fail "no step")
        exact ex_round (q + 1) ⟨by omega, hnx⟩ (by show _ - _ < _ - _; omega) (SLe.of ⟨⟨rfl, rfl, trivial⟩, trivial⟩)
      · have hwe2 : ¬ bs w = ByteArray.empty := fun e => hwe (bs_inj.1 e)
        repeat' (first | refine ex_true (by first | decide | omega | assumption | (with_reducible exact rfl)) ?_ | refine ex_false (by first | decide | omega | assumption | exact (fun h => h rfl)) ?_ | refine ex_dec (fun _ => ?_) (fun _ => ?_) | refine ex_u8 _ rfl (by omega) (by omega) ?_ | refine ex_i64 _ rfl (by omega) (by omega) ?_ | refine ex_u64 _ rfl (by omega) (by omega) ?_ | refine and_mk (by first | omega | (with_reducible rfl) | (show drawOk _ _ _ = true; kernel_rfl)) ?_ | refine and_mk ⟨_, rfl⟩ ?_ | refine ex_is _ (List.length_map _) ?_ | refine ex_is _ List.length_nil ?_ | fail "no step")
        refine ex_is _ h1 ?_
        repeat' (first | refine ex_i64 ((q + 1 : Nat) : Int) (by omega) (by omega) (by omega) ?_ | refine ex_u64 ((q + 1 : Nat) : Int) (by omega) (by omega) (by omega) ?_ | refine ex_u8 ((q + 1 : Nat) : Int) (by omega) (by omega) (by omega) ?_ | refine ex_true (by first | decide | omega | assumption | (with_reducible exact rfl)) ?_ | refine ex_false (by first | decide | omega | assumption | exact (fun h => h rfl)) ?_ | refine ex_dec (fun _ => ?_) (fun _ => ?_) | refine ex_u8 _ rfl (by omega) (by omega) ?_ | refine ex_i64 _ rfl (by omega) (by omega) ?_ | refine ex_u64 _ rfl (by omega) (by omega) ?_ | refine and_mk (by first | omega | (with_reducible rfl) | (show drawOk _ _ _ = true; kernel_rfl)) ?_ | refine and_mk ⟨_, rfl⟩ ?_ | refine ex_is _ (List.length_map _) ?_ | refine ex_is _ List.length_nil ?_ | fail "no step")
        exact ex_round (q + 1) ⟨by omega, hnx⟩ (by show _ - _ < _ - _; omega) (SLe.of ⟨⟨rfl, rfl, trivial⟩, trivial⟩)
  · have hq9 : q = 36 := by omega
    subst hq9
    rw [findO_none hs] at hR
    subst hR
    repeat' (first | refine ex_true (by first | decide | omega | assumption | (with_reducible exact rfl)) ?_ | refine ex_false (by first | decide | omega | assumption | exact (fun h => h rfl)) ?_ | refine ex_dec (fun _ => ?_) (fun _ => ?_) | refine ex_u8 _ rfl (by omega) (by omega) ?_ | refine ex_i64 _ rfl (by omega) (by omega) ?_ | refine ex_u64 _ rfl (by omega) (by omega) ?_ | refine and_mk (by first | omega | (with_reducible rfl) | (show drawOk _ _ _ = true; kernel_rfl)) ?_ | refine and_mk ⟨_, rfl⟩ ?_ | refine ex_is _ (List.length_map _) ?_ | refine ex_is _ List.length_nil ?_ | fail "no step")
    exact TLe.rfl
theorem mem_cut {c : UInt8} : ∀ {s : List UInt8}, (cutL c s).length ≤ s.length + 1 ∧ ∀ l ∈ cutL c s, l.length ≤ s.length
  | [] => ⟨by simp [cutL], by simp [cutL]⟩
  | a :: r => by
    obtain ⟨h1, h2⟩ := mem_cut (c := c) (s := r)
    rw [cutL]
    split
    · exact ⟨by rw [List.length_cons, List.length_cons]; omega, fun l hl => by
        rcases List.mem_cons.1 hl with rfl | hl
        · simp
        · have := h2 l hl; rw [List.length_cons]; omega⟩
    · cases hc : cutL c r with
      | nil => exact absurd hc (cutL_ne c r)
      | cons x t =>
        rw [hc] at h1 h2
        refine ⟨by show (_ :: t).length ≤ _; rw [List.length_cons] at h1 ⊢; rw [List.length_cons]; omega, fun l hl => ?_⟩
        rcases List.mem_cons.1 hl with rfl | hl
        · have := h2 x (by simp); show (a :: x).length ≤ _; rw [List.length_cons, List.length_cons]; omega
        · have := h2 l (by simp [hl]); rw [List.length_cons]; omega
theorem findO_lt {w : List UInt8} {o : Nat} (h : findO w = some o) : o < 36 := by
  unfold findO at h
  exact (List.findIdx?_eq_some_iff_getElem.1 h).1
theorem parseM_lt : ∀ (l : List UInt8) (acc u : Nat), acc < 18446744073709551616 → Lib.parseUintM 18446744073709551615 acc l = .ok u → u < 18446744073709551616
  | [], acc, u, h, e => by simp only [Lib.parseUintM] at e; injection e with e; omega
  | c :: r, acc, u, h, e => by
    rw [Lib.parseUintM] at e
    split at e
    · split at e
      · cases e
      · split at e
        · cases e
        · exact parseM_lt r _ u (by omega) e
    · cases e
theorem parseB_lt {s : List UInt8} {u : Nat} (h : Lib.parseUintB 64 s = .ok u) : u < 18446744073709551616 := by
  unfold Lib.parseUintB at h
  split at h
  · cases h
  · exact parseM_lt _ _ _ (by omega) h
set_option maxHeartbeats 4000000 in
theorem instr_c (l : List (List UInt8)) (h0 : l ≠ []) (hl : l.length ≤ 1048577) (hb : ∀ s ∈ l, s.length ≤ 1048576) :
    ∃ x, (∀ y, instrF l = some y → x = y) ∧ CallsA Tryd.prog ΓC 49 [c1 (dss l)] (.tup [gD (inD x), c1 (db (instrF l).isSome)]) := by
  obtain ⟨w, t, rfl⟩ : ∃ w t, l = w :: t := by rcases l with _ | ⟨w, t⟩; exact absurd rfl h0; exact ⟨w, t, rfl⟩
  have hf := find_c w
  unfold instrF
  rw [List.headD_cons]
  cases ho : findO w with
  | none =>
    rw [ho] at hf
    refine ⟨⟨0, 0, 0, 0⟩, (fun y h => by cases h), ?_⟩
    refine fn_rule (C := ⟨Tryd.prog, layF, Tryd.f49.ntmps, ΓC, 0, [], []⟩) layF_ok mixed Tryd.func49 rfl (by kernel_rfl) rfl rfl rfl ?_
    repeat' (first | refine ex_call hf ?_ | refine (ex_row 0 w rfl rfl) ?_ | refine ex_true (by first | decide | omega | assumption | (with_reducible exact rfl)) ?_ | refine ex_false (by first | decide | omega | assumption | exact (fun h => h rfl)) ?_ | refine ex_dec (fun _ => ?_) (fun _ => ?_) | refine ex_u8 _ rfl (by omega) (by omega) ?_ | refine ex_i64 _ rfl (by omega) (by omega) ?_ | refine ex_u64 _ rfl (by omega) (by omega) ?_ | refine and_mk (by first | omega | (with_reducible rfl) | (show drawOk _ _ _ = true; kernel_rfl)) ?_ | refine and_mk ⟨_, rfl⟩ ?_ | refine ex_is _ (List.length_map _) ?_ | refine ex_is _ List.length_nil ?_ | fail "no step")
    exact TLe.rfl
  | some o =>
    have ho36 := findO_lt ho
    rw [ho] at hf
    have hf : CallsA Tryd.prog ΓC 59 [c1 (ds (bs w))] (.tup [c1 (di (o : Nat)), c1 (db true)]) := hf
    have h1 := shapes_at ho36
    have hop := opF_at ⟨o, ho36⟩
    have hfa := (ops_facts ⟨o, ho36⟩).2.2.2.2.2
    have h0a := (ops_facts ⟨0, by decide⟩).2.2.2.2.2.2.2
    dsimp only at hop hfa
    dsimp only
    rw [hop]
    have hr0 : o = 0 → (opsL.getD o noneR).2.1 = 1 := fun e => by rw [e]; exact h0a
    generalize opsL.getD o noneR = r at *
    obtain ⟨rw_, rh, rt, rp⟩ := r
    have h1 : (shapesV.map D.v).drop (o * 4) = ds (bs rw_) :: di (rh : Nat) :: di (rt : Nat) :: di (rp : Nat) :: (shapesV.map D.v).drop ((o + 1) * 4) := h1
    dsimp only at *
    have hlen : (w :: t).length = t.length + 1 := List.length_cons
    by_cases hn : (w :: t).length = 1 + rh
    · rw [if_pos hn]
      by_cases h0 : o = 0
      · subst h0
        rw [if_pos rfl]
        have hr1 := hr0 rfl
        obtain ⟨s, rfl⟩ : ∃ s, t = [s] := by
          rcases t with _ | ⟨s, _ | ⟨u, v⟩⟩
          · simp at hn; omega
          · exact ⟨s, rfl⟩
          · simp at hn; omega
        have hs := hb s (by simp)
        have hp : CallsA Tryd.prog ΓC 60 _ _ := (pu_c (bs s) (by rw [bs_size]; omega)).gC
        unfold puT at hp
        rw [show (bs s).data.toList = s by simp] at hp
        rw [show ([w, s] : List (List UInt8)).getD 1 [] = s from rfl]
        unfold natF
        cases hpu : Lib.parseUintB 64 s with
        | ok u =>
          rw [hpu] at hp
          dsimp only at hp ⊢
          have hu := parseB_lt hpu
          have hfm : CallsA Tryd.prog ΓC 45 [c1 (du u), c1 (di 10)] (Tstr (bs (Lib.decDigits u))) := (fmt_c u hu).gC
          by_cases he : Lib.decDigits u = s
          · rw [if_pos he]
            have he2 : bs (Lib.decDigits u) = bs s := bs_inj.2 he
            refine ⟨⟨0, 0, 0, u⟩, (fun y h => by injection h), ?_⟩
            refine fn_rule (C := ⟨Tryd.prog, layF, Tryd.f49.ntmps, ΓC, 0, [], []⟩) layF_ok mixed Tryd.func49 rfl (by kernel_rfl) rfl rfl rfl ?_
            repeat' (first | refine ex_call hfm ?_ | refine ex_call hp ?_ | refine ex_call hf ?_ | refine (ex_is _ h1) ?_ | refine (ex_row 1 s rfl rfl) ?_ | refine (ex_row 0 w rfl rfl) ?_ | refine ex_true (by first | decide | omega | assumption | (with_reducible exact rfl)) ?_ | refine ex_false (by first | decide | omega | assumption | exact (fun h => h rfl)) ?_ | refine ex_dec (fun _ => ?_) (fun _ => ?_) | refine ex_u8 _ rfl (by omega) (by omega) ?_ | refine ex_i64 _ rfl (by omega) (by omega) ?_ | refine ex_u64 _ rfl (by omega) (by omega) ?_ | refine and_mk (by first | omega | (with_reducible rfl) | (show drawOk _ _ _ = true; kernel_rfl)) ?_ | refine and_mk ⟨_, rfl⟩ ?_ | refine ex_is _ (List.length_map _) ?_ | refine ex_is _ List.length_nil ?_ | fail "no step")
            exact TLe.rfl
          · rw [if_neg he]
            have he2 : ¬ bs (Lib.decDigits u) = bs s := fun e => he (bs_inj.1 e)
            refine ⟨⟨0, 0, 0, u⟩, (fun y h => by cases h), ?_⟩
            refine fn_rule (C := ⟨Tryd.prog, layF, Tryd.f49.ntmps, ΓC, 0, [], []⟩) layF_ok mixed Tryd.func49 rfl (by kernel_rfl) rfl rfl rfl ?_
            repeat' (first | refine ex_call hfm ?_ | refine ex_call hp ?_ | refine ex_call hf ?_ | refine (ex_is _ h1) ?_ | refine (ex_row 1 s rfl rfl) ?_ | refine (ex_row 0 w rfl rfl) ?_ | refine ex_true (by first | decide | omega | assumption | (with_reducible exact rfl)) ?_ | refine ex_false (by first | decide | omega | assumption | exact (fun h => h rfl)) ?_ | refine ex_dec (fun _ => ?_) (fun _ => ?_) | refine ex_u8 _ rfl (by omega) (by omega) ?_ | refine ex_i64 _ rfl (by omega) (by omega) ?_ | refine ex_u64 _ rfl (by omega) (by omega) ?_ | refine and_mk (by first | omega | (with_reducible rfl) | (show drawOk _ _ _ = true; kernel_rfl)) ?_ | refine and_mk ⟨_, rfl⟩ ?_ | refine ex_is _ (List.length_map _) ?_ | refine ex_is _ List.length_nil ?_ | fail "no step")
            exact TLe.rfl
        | range =>
          rw [hpu] at hp
          dsimp only at hp ⊢
          refine ⟨⟨0, 0, 0, 18446744073709551615⟩, (fun y h => by cases h), ?_⟩
          refine fn_rule (C := ⟨Tryd.prog, layF, Tryd.f49.ntmps, ΓC, 0, [], []⟩) layF_ok mixed Tryd.func49 rfl (by kernel_rfl) rfl rfl rfl ?_
          repeat' (first | refine ex_call hp ?_ | refine ex_call hf ?_ | refine (ex_is _ h1) ?_ | refine (ex_row 1 s rfl rfl) ?_ | refine (ex_row 0 w rfl rfl) ?_ | refine ex_true (by first | decide | omega | assumption | (with_reducible exact rfl)) ?_ | refine ex_false (by first | decide | omega | assumption | exact (fun h => h rfl)) ?_ | refine ex_dec (fun _ => ?_) (fun _ => ?_) | refine ex_u8 _ rfl (by omega) (by omega) ?_ | refine ex_i64 _ rfl (by omega) (by omega) ?_ | refine ex_u64 _ rfl (by omega) (by omega) ?_ | refine and_mk (by first | omega | (with_reducible rfl) | (show drawOk _ _ _ = true; kernel_rfl)) ?_ | refine and_mk ⟨_, rfl⟩ ?_ | refine ex_is _ (List.length_map _) ?_ | refine ex_is _ List.length_nil ?_ | fail "no step")
          exact TLe.rfl
        | _ =>
          rw [hpu] at hp
          dsimp only at hp ⊢
          refine ⟨⟨0, 0, 0, 0⟩, (fun y h => by cases h), ?_⟩
          refine fn_rule (C := ⟨Tryd.prog, layF, Tryd.f49.ntmps, ΓC, 0, [], []⟩) layF_ok mixed Tryd.func49 rfl (by kernel_rfl) rfl rfl rfl ?_
          repeat' (first | refine ex_call hp ?_ | refine ex_call hf ?_ | refine (ex_is _ h1) ?_ | refine (ex_row 1 s rfl rfl) ?_ | refine (ex_row 0 w rfl rfl) ?_ | refine ex_true (by first | decide | omega | assumption | (with_reducible exact rfl)) ?_ | refine ex_false (by first | decide | omega | assumption | exact (fun h => h rfl)) ?_ | refine ex_dec (fun _ => ?_) (fun _ => ?_) | refine ex_u8 _ rfl (by omega) (by omega) ?_ | refine ex_i64 _ rfl (by omega) (by omega) ?_ | refine ex_u64 _ rfl (by omega) (by omega) ?_ | refine and_mk (by first | omega | (with_reducible rfl) | (show drawOk _ _ _ = true; kernel_rfl)) ?_ | refine and_mk ⟨_, rfl⟩ ?_ | refine ex_is _ (List.length_map _) ?_ | refine ex_is _ List.length_nil ?_ | fail "no step")
          exact TLe.rfl
      · rw [if_neg h0]
        have hnum := numbers_c t (by omega) (fun s hs => hb s (by simp [hs]))
        have hdr : (((w :: t).map fun x => [ds (bs x)]).take (((((w :: t).map fun x => [ds (bs x)]).length : Nat) : Int)).toNat).drop (1 : Int).toNat = t.map fun x => [ds (bs x)] := by
          rw [Int.toNat_natCast, List.take_length]; rfl
        have hlm : ((w :: t).map fun x => [ds (bs x)]).length = t.length + 1 := by rw [List.length_map, List.length_cons]
        rw [List.tail_cons]
        cases hk : intsF t with
        | none =>
          rw [hk] at hnum
          refine ⟨⟨o, 0, 0, 0⟩, (fun y h => by cases h), ?_⟩
          refine fn_rule (C := ⟨Tryd.prog, layF, Tryd.f49.ntmps, ΓC, 0, [], []⟩) layF_ok mixed Tryd.func49 rfl (by kernel_rfl) rfl rfl rfl ?_
          repeat' (first | refine ex_call hnum ?_ | refine ex_call hf ?_ | refine (ex_is _ hdr) ?_ | refine (ex_is _ h1) ?_ | refine (ex_row 0 w rfl rfl) ?_ | refine ex_true (by first | decide | omega | assumption | (with_reducible exact rfl)) ?_ | refine ex_false (by first | decide | omega | assumption | exact (fun h => h rfl)) ?_ | refine ex_dec (fun _ => ?_) (fun _ => ?_) | refine ex_u8 _ rfl (by omega) (by omega) ?_ | refine ex_i64 _ rfl (by omega) (by omega) ?_ | refine ex_u64 _ rfl (by omega) (by omega) ?_ | refine and_mk (by first | omega | (with_reducible rfl) | (show drawOk _ _ _ = true; kernel_rfl)) ?_ | refine and_mk ⟨_, rfl⟩ ?_ | refine ex_is _ (List.length_map _) ?_ | refine ex_is _ List.length_nil ?_ | fail "no step")
          exact TLe.rfl
        | some k =>
          have hkl := intsF_len hk
          rw [hk] at hnum
          refine ⟨⟨o, k.getD 0 0, k.getD 1 0, 0⟩, (fun y h => by injection h), ?_⟩
          have hk2 : k.length ≤ 2 := by omega
          rcases k with _ | ⟨a, _ | ⟨b, _ | ⟨c, d⟩⟩⟩
          · have hnum : CallsA Tryd.prog ΓC 50 [c1 (dss t)] (.tup [c1 (dint []), c1 (db true)]) := hnum
            refine fn_rule (C := ⟨Tryd.prog, layF, Tryd.f49.ntmps, ΓC, 0, [], []⟩) layF_ok mixed Tryd.func49 rfl (by kernel_rfl) rfl rfl rfl ?_
            repeat' (first | refine ex_call hnum ?_ | refine ex_call hf ?_ | refine (ex_false (show ¬ (1 : Int) < 0 by decide)) ?_ | refine (ex_false (show ¬ (0 : Int) < 0 by decide)) ?_ | refine (ex_is _ hdr) ?_ | refine (ex_is _ h1) ?_ | refine (ex_row 0 w rfl rfl) ?_ | refine ex_true (by first | decide | omega | assumption | (with_reducible exact rfl)) ?_ | refine ex_false (by first | decide | omega | assumption | exact (fun h => h rfl)) ?_ | refine ex_dec (fun _ => ?_) (fun _ => ?_) | refine ex_u8 _ rfl (by omega) (by omega) ?_ | refine ex_i64 _ rfl (by omega) (by omega) ?_ | refine ex_u64 _ rfl (by omega) (by omega) ?_ | refine and_mk (by first | omega | (with_reducible rfl) | (show drawOk _ _ _ = true; kernel_rfl)) ?_ | refine and_mk ⟨_, rfl⟩ ?_ | refine ex_is _ (List.length_map _) ?_ | refine ex_is _ List.length_nil ?_ | fail "no step")
            exact TLe.rfl
          · have hnum : CallsA Tryd.prog ΓC 50 [c1 (dss t)] (.tup [c1 (dint [a]), c1 (db true)]) := hnum
            refine fn_rule (C := ⟨Tryd.prog, layF, Tryd.f49.ntmps, ΓC, 0, [], []⟩) layF_ok mixed Tryd.func49 rfl (by kernel_rfl) rfl rfl rfl ?_
            repeat' (first | refine ex_call hnum ?_ | refine ex_call hf ?_ | refine (ex_false (show ¬ (1 : Int) < 1 by decide)) ?_ | refine (ex_true (show (0 : Int) < 1 by decide)) ?_ | refine (ex_row 0 a rfl rfl) ?_ | refine (ex_is _ hdr) ?_ | refine (ex_is _ h1) ?_ | refine (ex_row 0 w rfl rfl) ?_ | refine ex_true (by first | decide | omega | assumption | (with_reducible exact rfl)) ?_ | refine ex_false (by first | decide | omega | assumption | exact (fun h => h rfl)) ?_ | refine ex_dec (fun _ => ?_) (fun _ => ?_) | refine ex_u8 _ rfl (by omega) (by omega) ?_ | refine ex_i64 _ rfl (by omega) (by omega) ?_ | refine ex_u64 _ rfl (by omega) (by omega) ?_ | refine and_mk (by first | omega | (with_reducible rfl) | (show drawOk _ _ _ = true; kernel_rfl)) ?_ | refine and_mk ⟨_, rfl⟩ ?_ | refine ex_is _ (List.length_map _) ?_ | refine ex_is _ List.length_nil ?_ | fail "no step")
            exact TLe.rfl
          · have hnum : CallsA Tryd.prog ΓC 50 [c1 (dss t)] (.tup [c1 (dint [a, b]), c1 (db true)]) := hnum
            refine fn_rule (C := ⟨Tryd.prog, layF, Tryd.f49.ntmps, ΓC, 0, [], []⟩) layF_ok mixed Tryd.func49 rfl (by kernel_rfl) rfl rfl rfl ?_
            repeat' (first | refine ex_call hnum ?_ | refine ex_call hf ?_ | refine (ex_true (show (1 : Int) < 2 by decide)) ?_ | refine (ex_true (show (0 : Int) < 2 by decide)) ?_ | refine (ex_row 1 b rfl rfl) ?_ | refine (ex_row 0 a rfl rfl) ?_ | refine (ex_is _ hdr) ?_ | refine (ex_is _ h1) ?_ | refine (ex_row 0 w rfl rfl) ?_ | refine ex_true (by first | decide | omega | assumption | (with_reducible exact rfl)) ?_ | refine ex_false (by first | decide | omega | assumption | exact (fun h => h rfl)) ?_ | refine ex_dec (fun _ => ?_) (fun _ => ?_) | refine ex_u8 _ rfl (by omega) (by omega) ?_ | refine ex_i64 _ rfl (by omega) (by omega) ?_ | refine ex_u64 _ rfl (by omega) (by omega) ?_ | refine and_mk (by first | omega | (with_reducible rfl) | (show drawOk _ _ _ = true; kernel_rfl)) ?_ | refine and_mk ⟨_, rfl⟩ ?_ | refine ex_is _ (List.length_map _) ?_ | refine ex_is _ List.length_nil ?_ | fail "no step")
            exact TLe.rfl
          · simp at hk2
    · rw [if_neg hn]
      refine ⟨⟨0, 0, 0, 0⟩, (fun y h => by cases h), ?_⟩
      refine fn_rule (C := ⟨Tryd.prog, layF, Tryd.f49.ntmps, ΓC, 0, [], []⟩) layF_ok mixed Tryd.func49 rfl (by kernel_rfl) rfl rfl rfl ?_
      repeat' (first | refine ex_call hf ?_ | refine (ex_is _ h1) ?_ | refine (ex_row 0 w rfl rfl) ?_ | refine ex_true (by first | decide | omega | assumption | (with_reducible exact rfl)) ?_ | refine ex_false (by first | decide | omega | assumption | exact (fun h => h rfl)) ?_ | refine ex_dec (fun _ => ?_) (fun _ => ?_) | refine ex_u8 _ rfl (by omega) (by omega) ?_ | refine ex_i64 _ rfl (by omega) (by omega) ?_ | refine ex_u64 _ rfl (by omega) (by omega) ?_ | refine and_mk (by first | omega | (with_reducible rfl) | (show drawOk _ _ _ = true; kernel_rfl)) ?_ | refine and_mk ⟨_, rfl⟩ ?_ | refine ex_is _ (List.length_map _) ?_ | refine ex_is _ List.length_nil ?_ | fail "no step")
      exact TLe.rfl
end Go.Proofs.YtblobabhdmigiaaDoor

namespace Go.Proofs.YtblobabhdmigiaaDoor
set_option linter.unusedVariables false
set_option linter.unusedSimpArgs false
open Go.RowKit
set_option maxRecDepth 100000

abbrev TFn : TypeId := 70
abbrev TIn : TypeId := 59
abbrev Fr (fs : List FN) : Blk := .row 3 TFn (fs.map fnD)
abbrev Ir (cs : List IN) : Blk := .row 4 TIn (cs.map inD)
theorem put_code (s : List UInt8) (hs : s.length ≤ 1048576) (h : (cutL 32 s).headD [] ≠ funcS) (fs : List FN) (cs : List IN) (hcs : cs.length ≤ 8192) :
    ∃ x, (∀ y, instrF (cutL 32 s) = some y → x = y) ∧ CallsM Tryd.prog ΓC 36 [(0, .obj [.row 1, .row 2]), (1, Fr fs), (2, Ir cs)] 3 [.c (.ptr 0 0), c1 (ds (bs s))] (Tb (instrF (cutL 32 s)).isSome) [(0, .obj [.row 1, .row 3]), (1, Fr fs), (2, .dead)] [Ir (cs ++ [x])] := by
  obtain ⟨hm1, hm2⟩ := mem_cut (c := 32) (s := s)
  obtain ⟨x, hx, hi⟩ := instr_c (cutL 32 s) (cutL_ne 32 s) (by omega) (fun l hl => by have := hm2 l hl; omega)
  refine ⟨x, hx, ?_⟩
  have hsp := split_c s 32 hs
  generalize instrF (cutL 32 s) = R at *
  obtain ⟨w, t, hwt⟩ : ∃ w t, cutL 32 s = w :: t := by
    cases hc : cutL 32 s with
    | nil => exact absurd hc (cutL_ne 32 s)
    | cons w t => exact ⟨w, t, rfl⟩
  rw [hwt] at hsp hi h
  have hne : ¬ bs w = bs funcS := fun e => h (bs_inj.1 e)
  have hne2 : ¬ bs w = ⟨#[102, 117, 110, 99]⟩ := hne
  refine fn_ruleM (C := ⟨Tryd.prog, layF, Tryd.f36.ntmps, ΓC, 3, [], []⟩) layF_ok mixed Tryd.func36 rfl (by kernel_rfl) rfl rfl rfl ?_
  repeat' (first | refine ex_call hi ?_ | refine ex_call hsp ?_ | refine (ex_row 0 w rfl rfl) ?_ | refine ex_true (by first | decide | omega | assumption | (with_reducible exact rfl)) ?_ | refine ex_false (by first | decide | omega | assumption | exact (fun h => h rfl)) ?_ | refine ex_dec (fun _ => ?_) (fun _ => ?_) | refine ex_u8 _ rfl (by omega) (by omega) ?_ | refine ex_i64 _ rfl (by omega) (by omega) ?_ | refine ex_u64 _ rfl (by omega) (by omega) ?_ | refine and_mk (by first | omega | (with_reducible rfl) | (show drawOk _ _ _ = true; kernel_rfl)) ?_ | refine and_mk ⟨_, rfl⟩ ?_ | refine ex_is _ (List.length_map _) ?_ | refine ex_is _ List.length_nil ?_ | fail "no step")
  refine ex_app (cs.length) (1) 1000 (by first | rfl | (simp; done) | (simp; omega)) (by first | rfl | (simp; done) | (simp; omega)) rfl (by omega) ?_
  refine ex_is ((cs ++ [x]).map inD) (by rw [List.map_append]; rfl) ?_
  repeat' (first | refine ex_true (by first | decide | omega | assumption | (with_reducible exact rfl)) ?_ | refine ex_false (by first | decide | omega | assumption | exact (fun h => h rfl)) ?_ | refine ex_dec (fun _ => ?_) (fun _ => ?_) | refine ex_u8 _ rfl (by omega) (by omega) ?_ | refine ex_i64 _ rfl (by omega) (by omega) ?_ | refine ex_u64 _ rfl (by omega) (by omega) ?_ | refine and_mk (by first | omega | (with_reducible rfl) | (show drawOk _ _ _ = true; kernel_rfl)) ?_ | refine and_mk ⟨_, rfl⟩ ?_ | refine ex_is _ (List.length_map _) ?_ | refine ex_is _ List.length_nil ?_ | fail "no step")
  exact ⟨rfl, TLe.rfl, rfl, rfl⟩
theorem put_ok (s : List UInt8) (hs : s.length ≤ 1048576) (t : List (List UInt8)) (h : cutL 32 s = funcS :: t) (a b c : Int) (hk : intsF t = some [a, b, c]) (fs : List FN) (hfs : fs.length ≤ 8192) :
    CallsM Tryd.prog ΓC 36 [(0, .obj [.row 1, .row 2]), (1, Fr fs), (2, Ir [])] 3 [.c (.ptr 0 0), c1 (ds (bs s))] (Tb true) [(0, .obj [.row 3, .row 2]), (1, .dead), (2, Ir [])] [Fr (fs ++ [⟨a, b, c⟩])] := by
  obtain ⟨hm1, hm2⟩ := mem_cut (c := 32) (s := s)
  have hsp := split_c s 32 hs
  rw [h] at hsp hm1 hm2
  have hn : CallsA Tryd.prog ΓC 50 [c1 (dss t)] (.tup [c1 (dint [a, b, c]), c1 (db true)]) := by
    have := numbers_c t (by rw [List.length_cons] at hm1; omega) (fun l hl => by have := hm2 l (by simp [hl]); omega)
    rw [hk] at this
    exact this
  have hdr : (((funcS :: t).map fun x => [ds (bs x)]).take (((((funcS :: t).map fun x => [ds (bs x)]).length : Nat) : Int)).toNat).drop (1 : Int).toNat = t.map fun x => [ds (bs x)] := by
    rw [Int.toNat_natCast, List.take_length]; rfl
  have hlm : ((funcS :: t).map fun x => [ds (bs x)]).length = t.length + 1 := by rw [List.length_map, List.length_cons]
  have hfe : bs funcS = ⟨#[102, 117, 110, 99]⟩ := rfl
  refine fn_ruleM (C := ⟨Tryd.prog, layF, Tryd.f36.ntmps, ΓC, 3, [], []⟩) layF_ok mixed Tryd.func36 rfl (by kernel_rfl) rfl rfl rfl ?_
  repeat' (first | refine ex_call hn ?_ | refine ex_call hsp ?_ | refine (ex_false (show ¬ (0 : Int) < 0 by decide)) ?_ | refine (ex_false (show ¬ ((3 : Int) ≠ 3) by decide)) ?_ | refine (ex_row 2 c rfl rfl) ?_ | refine (ex_row 1 b rfl rfl) ?_ | refine (ex_row 0 a rfl rfl) ?_ | refine (ex_is _ hdr) ?_ | refine (ex_row 0 funcS rfl rfl) ?_ | refine ex_true (by first | decide | omega | assumption | (with_reducible exact rfl)) ?_ | refine ex_false (by first | decide | omega | assumption | exact (fun h => h rfl)) ?_ | refine ex_dec (fun _ => ?_) (fun _ => ?_) | refine ex_u8 _ rfl (by omega) (by omega) ?_ | refine ex_i64 _ rfl (by omega) (by omega) ?_ | refine ex_u64 _ rfl (by omega) (by omega) ?_ | refine and_mk (by first | omega | (with_reducible rfl) | (show drawOk _ _ _ = true; kernel_rfl)) ?_ | refine and_mk ⟨_, rfl⟩ ?_ | refine ex_is _ (List.length_map _) ?_ | refine ex_is _ List.length_nil ?_ | fail "no step")
  refine ex_app (fs.length) (1) 1000 (by first | rfl | (simp; done) | (simp; omega)) (by first | rfl | (simp; done) | (simp; omega)) rfl (by omega) ?_
  refine ex_is ((fs ++ [(⟨a, b, c⟩ : FN)]).map fnD) (by rw [List.map_append]; rfl) ?_
  repeat' (first | refine ex_true (by first | decide | omega | assumption | (with_reducible exact rfl)) ?_ | refine ex_false (by first | decide | omega | assumption | exact (fun h => h rfl)) ?_ | refine ex_dec (fun _ => ?_) (fun _ => ?_) | refine ex_u8 _ rfl (by omega) (by omega) ?_ | refine ex_i64 _ rfl (by omega) (by omega) ?_ | refine ex_u64 _ rfl (by omega) (by omega) ?_ | refine and_mk (by first | omega | (with_reducible rfl) | (show drawOk _ _ _ = true; kernel_rfl)) ?_ | refine and_mk ⟨_, rfl⟩ ?_ | refine ex_is _ (List.length_map _) ?_ | refine ex_is _ List.length_nil ?_ | fail "no step")
  exact ⟨rfl, TLe.rfl, rfl, rfl⟩
theorem put_no (s : List UInt8) (hs : s.length ≤ 1048576) (t : List (List UInt8)) (h : cutL 32 s = funcS :: t) (fs : List FN) (cs : List IN) (hcs : cs.length ≤ 8192) (hk : intsF t = none ∨ (∃ k, intsF t = some k ∧ k.length ≠ 3) ∨ cs ≠ []) :
    CallsM Tryd.prog ΓC 36 [(0, .obj [.row 1, .row 2]), (1, Fr fs), (2, Ir cs)] 3 [.c (.ptr 0 0), c1 (ds (bs s))] (Tb false) [(0, .obj [.row 1, .row 2]), (1, Fr fs), (2, Ir cs)] [] := by
  obtain ⟨hm1, hm2⟩ := mem_cut (c := 32) (s := s)
  have hsp := split_c s 32 hs
  rw [h] at hsp hm1 hm2
  have hn := numbers_c t (by rw [List.length_cons] at hm1; omega) (fun l hl => by have := hm2 l (by simp [hl]); omega)
  have hdr : (((funcS :: t).map fun x => [ds (bs x)]).take (((((funcS :: t).map fun x => [ds (bs x)]).length : Nat) : Int)).toNat).drop (1 : Int).toNat = t.map fun x => [ds (bs x)] := by
    rw [Int.toNat_natCast, List.take_length]; rfl
  have hlm : ((funcS :: t).map fun x => [ds (bs x)]).length = t.length + 1 := by rw [List.length_map, List.length_cons]
  have hfe : bs funcS = ⟨#[102, 117, 110, 99]⟩ := rfl
  cases hi : intsF t with
  | none =>
    rw [hi] at hn
    have hn : CallsA Tryd.prog ΓC 50 [c1 (dss t)] (.tup [c1 (dint []), c1 (db false)]) := hn
    refine fn_ruleM (C := ⟨Tryd.prog, layF, Tryd.f36.ntmps, ΓC, 3, [], []⟩) layF_ok mixed Tryd.func36 rfl (by kernel_rfl) rfl rfl rfl ?_
    repeat' (first | refine ex_call hn ?_ | refine ex_call hsp ?_ | refine (ex_is _ hdr) ?_ | refine (ex_row 0 funcS rfl rfl) ?_ | refine ex_true (by first | decide | omega | assumption | (with_reducible exact rfl)) ?_ | refine ex_false (by first | decide | omega | assumption | exact (fun h => h rfl)) ?_ | refine ex_dec (fun _ => ?_) (fun _ => ?_) | refine ex_u8 _ rfl (by omega) (by omega) ?_ | refine ex_i64 _ rfl (by omega) (by omega) ?_ | refine ex_u64 _ rfl (by omega) (by omega) ?_ | refine and_mk (by first | omega | (with_reducible rfl) | (show drawOk _ _ _ = true; kernel_rfl)) ?_ | refine and_mk ⟨_, rfl⟩ ?_ | refine ex_is _ (List.length_map _) ?_ | refine ex_is _ List.length_nil ?_ | fail "no step")
    exact ⟨rfl, TLe.rfl, rfl, rfl⟩
  | some k =>
    rw [hi] at hn hk
    have hn : CallsA Tryd.prog ΓC 50 [c1 (dss t)] (.tup [c1 (dint k), c1 (db true)]) := hn
    have hkk : k.length ≠ 3 ∨ (k.length = 3 ∧ cs.length ≠ 0) := by
      rcases hk with hk | ⟨k', h1, h2⟩ | hk
      · cases hk
      · injection h1 with h1; subst h1; exact .inl h2
      · by_cases h3 : k.length = 3
        · exact .inr ⟨h3, fun e => hk (List.eq_nil_of_length_eq_zero e)⟩
        · exact .inl h3
    have hkl : (k.map fun z => [di z]).length = k.length := List.length_map _
    have hcl : (cs.map inD).length = cs.length := List.length_map _
    rcases hkk with h3 | ⟨h3, h4⟩
    ·
      refine fn_ruleM (C := ⟨Tryd.prog, layF, Tryd.f36.ntmps, ΓC, 3, [], []⟩) layF_ok mixed Tryd.func36 rfl (by kernel_rfl) rfl rfl rfl ?_
      repeat' (first | refine ex_call hn ?_ | refine ex_call hsp ?_ | refine (ex_is _ hkl) ?_ | refine (ex_is _ hdr) ?_ | refine (ex_row 0 funcS rfl rfl) ?_ | refine ex_true (by first | decide | omega | assumption | (with_reducible exact rfl)) ?_ | refine ex_false (by first | decide | omega | assumption | exact (fun h => h rfl)) ?_ | refine ex_dec (fun _ => ?_) (fun _ => ?_) | refine ex_u8 _ rfl (by omega) (by omega) ?_ | refine ex_i64 _ rfl (by omega) (by omega) ?_ | refine ex_u64 _ rfl (by omega) (by omega) ?_ | refine and_mk (by first | omega | (with_reducible rfl) | (show drawOk _ _ _ = true; kernel_rfl)) ?_ | refine and_mk ⟨_, rfl⟩ ?_ | refine ex_is _ (List.length_map _) ?_ | refine ex_is _ List.length_nil ?_ | fail "no step")
      all_goals exact ⟨rfl, TLe.rfl, rfl, rfl⟩
    ·
      refine fn_ruleM (C := ⟨Tryd.prog, layF, Tryd.f36.ntmps, ΓC, 3, [], []⟩) layF_ok mixed Tryd.func36 rfl (by kernel_rfl) rfl rfl rfl ?_
      repeat' (first | refine ex_call hn ?_ | refine ex_call hsp ?_ | refine (ex_is _ hcl) ?_ | refine (ex_is _ hkl) ?_ | refine (ex_is _ hdr) ?_ | refine (ex_row 0 funcS rfl rfl) ?_ | refine ex_true (by first | decide | omega | assumption | (with_reducible exact rfl)) ?_ | refine ex_false (by first | decide | omega | assumption | exact (fun h => h rfl)) ?_ | refine ex_dec (fun _ => ?_) (fun _ => ?_) | refine ex_u8 _ rfl (by omega) (by omega) ?_ | refine ex_i64 _ rfl (by omega) (by omega) ?_ | refine ex_u64 _ rfl (by omega) (by omega) ?_ | refine and_mk (by first | omega | (with_reducible rfl) | (show drawOk _ _ _ = true; kernel_rfl)) ?_ | refine and_mk ⟨_, rfl⟩ ?_ | refine ex_is _ (List.length_map _) ?_ | refine ex_is _ List.length_nil ?_ | fail "no step")
      all_goals exact ⟨rfl, TLe.rfl, rfl, rfl⟩
end Go.Proofs.YtblobabhdmigiaaDoor

namespace Go.Proofs.YtblobabhdmigiaaDoor
set_option linter.unusedVariables false
set_option linter.unusedSimpArgs false
open Go.RowKit
set_option maxRecDepth 100000

/-- What Parse answers. -/
def poT : PO → TV
  | .ok p => .tup [gD [.sl 3 (p.1.map fnD), .sl 4 (p.2.map inD)], c1 (di 0), c1 (di 0)]
  | .err n e => .tup [gD [.sl 3 [], .sl 4 []], c1 (di n), c1 (di e)]
theorem TLe.gnil {s s' : Nat} {l : List T1} : TLe (.tup (gD [dnil, dnil] :: l)) (.tup (gD [.sl s [], .sl s' []] :: l)) := fun ι S w v ⟨us, hu, h⟩ => by
  have h : All2 (V1 ι S w) (gD [dnil, dnil] :: l) us := h
  obtain ⟨u, us, rfl, e, h2⟩ := h.cons_left
  obtain ⟨vs, rfl, e⟩ := e
  obtain ⟨a, vs, rfl, e1, e⟩ := e.cons_left
  obtain ⟨b, rfl, e2⟩ := e.one_left
  exact ⟨_ :: us, hu, .cons ⟨[a, b], Eq.refl _, .cons (CLe_nil (ι := ι) e1) (.cons (CLe_nil (ι := ι) e2) .nil)⟩ h2⟩
theorem lines_len {s : List UInt8} {l : List UInt8} (h : l ∈ linesF s) : l.length ≤ s.length := by
  by_cases h0 : s = []
  · subst h0; simp [linesF] at h
  · rw [← trim_lines s h0] at h
    have := (mem_cut (c := 10) (s := Lib.trimSuffix s [10])).2 l h
    have h2 : (Lib.trimSuffix s [10]).length ≤ s.length := by
      unfold Lib.trimSuffix
      split
      · rw [List.length_take]; omega
      · omega
    omega
theorem putL_code {p : PR} {l : List (List UInt8)} (h : l.headD [] ≠ funcS) : putL p l = (instrF l).map fun x => (p.1, p.2 ++ [x]) := by
  unfold putL; rw [if_neg h]
theorem putL_func {p : PR} {t : List (List UInt8)} : putL p (funcS :: t) = match intsF t, p.2 with
    | some [a, b, c], [] => some (p.1 ++ [⟨a, b, c⟩], [])
    | _, _ => none := by
  unfold putL; rw [List.headD_cons, if_pos rfl, List.tail_cons] <;> rfl
theorem putL_none {p : PR} {t : List (List UInt8)} (h : putL p (funcS :: t) = none) : intsF t = none ∨ (∃ k, intsF t = some k ∧ k.length ≠ 3) ∨ p.2 ≠ [] := by
  rw [putL_func] at h
  cases hk : intsF t with
  | none => exact .inl rfl
  | some k =>
    rw [hk] at h
    rcases hc : p.2 with _ | ⟨x, y⟩
    · rw [hc] at h
      refine .inr (.inl ⟨k, rfl, fun h3 => ?_⟩)
      match k, h3 with
      | [a, b, c], _ => cases h
    · exact .inr (.inr (by simp))
theorem Parse_c (s : List UInt8) (hs : s.length ≤ 1048576) : CallsA Tryd.prog ΓC 16 [c1 (ds (bs s))] (poT (parseV s)) := by
  have htr := trim_c ΓC s [10] hs
  have htl : (Lib.trimSuffix s [10]).length ≤ s.length := by
    unfold Lib.trimSuffix
    split
    · rw [List.length_take]; omega
    · omega
  have hsp := split_c (Lib.trimSuffix s [10]) 10 (by omega)
  by_cases h0 : s = []
  · subst h0
    refine fn_rule (C := ⟨Tryd.prog, layF, Tryd.f16.ntmps, ΓC, 0, [], []⟩) layF_ok mixed Tryd.func16 rfl (by kernel_rfl) rfl rfl rfl ?_
    repeat' (first | refine ex_call hsp ?_ | refine ex_call htr ?_ | refine ex_true (by first | decide | omega | assumption | (with_reducible exact rfl)) ?_ | refine ex_false (by first | decide | omega | assumption | exact (fun h => h rfl)) ?_ | refine ex_dec (fun _ => ?_) (fun _ => ?_) | refine ex_u8 _ rfl (by omega) (by omega) ?_ | refine ex_i64 _ rfl (by omega) (by omega) ?_ | refine ex_u64 _ rfl (by omega) (by omega) ?_ | refine and_mk (by first | omega | (with_reducible rfl) | (show drawOk _ _ _ = true; kernel_rfl)) ?_ | refine and_mk ⟨_, rfl⟩ ?_ | refine ex_is _ (List.length_map _) ?_ | refine ex_is _ List.length_nil ?_ | fail "no step")
    exact TLe.gnil
  · rw [trim_lines s h0] at hsp
    have hse : ¬ bs s = ByteArray.empty := fun e => h0 (bs_inj.1 e)
    have hll : ∀ l ∈ linesF s, l.length ≤ 1048576 := fun l hl => by have := lines_len hl; omega
    unfold parseV
    generalize linesF s = L at *
    have hlm : (L.map fun x => [ds (bs x)]).length = L.length := List.length_map _
    by_cases hlen : L.length ≤ 8192
    · rw [if_pos hlen]
      obtain ⟨R, hR⟩ : ∃ R, parseL L 1 ([], []) = R := ⟨_, rfl⟩
      rw [hR]
      refine fn_rule (C := ⟨Tryd.prog, layF, Tryd.f16.ntmps, ΓC, 0, [], []⟩) layF_ok mixed Tryd.func16 rfl (by kernel_rfl) rfl rfl rfl ?_
      repeat' (first | refine ex_call hsp ?_ | refine ex_call htr ?_ | refine (ex_is _ hlm) ?_ | refine ex_true (by first | decide | omega | assumption | (with_reducible exact rfl)) ?_ | refine ex_false (by first | decide | omega | assumption | exact (fun h => h rfl)) ?_ | refine ex_dec (fun _ => ?_) (fun _ => ?_) | refine ex_u8 _ rfl (by omega) (by omega) ?_ | refine ex_i64 _ rfl (by omega) (by omega) ?_ | refine ex_u64 _ rfl (by omega) (by omega) ?_ | refine and_mk (by first | omega | (with_reducible rfl) | (show drawOk _ _ _ = true; kernel_rfl)) ?_ | refine and_mk ⟨_, rfl⟩ ?_ | refine ex_is _ (List.length_map _) ?_ | refine ex_is _ List.length_nil ?_ | fail "no step")
      refine ex_loop (X := Nat × List FN × List IN) (fun ⟨q, fs, cs⟩ => ⟨[(2, .o (.c (.ptr 0 0))), (6, .o (.c (.ptr 1 0))), (21, .o (c1 (dss L))), (22, Ti L.length), (23, Ti q)], [(0, .obj [.d dnil, .d dnil]), (1, .obj [.row 2, .row 3]), (2, Fr fs), (3, Ir cs)], 4⟩) (fun x => L.length - x.1)
        (fun ⟨q, fs, cs⟩ => q ≤ L.length ∧ fs.length ≤ q ∧ cs.length ≤ q ∧ parseL (L.drop q) (q + 1) (fs, cs) = R) (0, [], []) ⟨Nat.zero_le _, Nat.le_refl _, Nat.le_refl _, by rw [List.drop_zero]; exact hR⟩ (SLe.trans (SLe.of ⟨⟨rfl, rfl, rfl, rfl, rfl, trivial⟩, ⟨rfl, rfl, rfl, rfl, trivial⟩⟩) (SLe.trans (SLe.ownCell 1 1 3 4 TIn rfl rfl rfl rfl rfl rfl) (SLe.ownCell 1 0 2 3 TFn rfl rfl rfl rfl rfl rfl))) ?_
      rintro ⟨q, fs, cs⟩ ⟨hq, hf, hc2, hr⟩
      refine ex_dec (fun h => ?_) (fun h => ?_)
      · have hql : q < L.length := by omega
        have hc : L[q]? = some L[q] := at_some hql
        have hl := hll L[q] (List.getElem_mem hql)
        rw [List.drop_eq_getElem_cons hql, parseL] at hr
        generalize L[q] = l at *
        repeat' (first | refine (ex_row q l rfl hc) ?_ | refine ex_true (by first | decide | omega | assumption | (with_reducible exact rfl)) ?_ | refine ex_false (by first | decide | omega | assumption | exact (fun h => h rfl)) ?_ | refine ex_dec (fun _ => ?_) (fun _ => ?_) | refine ex_u8 _ rfl (by omega) (by omega) ?_ | refine ex_i64 _ rfl (by omega) (by omega) ?_ | refine ex_u64 _ rfl (by omega) (by omega) ?_ | refine and_mk (by first | omega | (with_reducible rfl) | (show drawOk _ _ _ = true; kernel_rfl)) ?_ | refine and_mk ⟨_, rfl⟩ ?_ | refine ex_is _ (List.length_map _) ?_ | refine ex_is _ List.length_nil ?_ | fail "no step")
        by_cases hh : (cutL 32 l).headD [] ≠ funcS
        · obtain ⟨x, hx, hp⟩ := put_code l hl hh fs cs (by omega)
          rw [putL_code hh] at hr
          cases hi : instrF (cutL 32 l) with
          | none =>
            rw [hi] at hr hp
            dsimp only [Option.map_none] at hr
            subst hr
            refine ex_callM (CallsM.ren (hp) [1, 2, 3] 4 rfl rfl rfl rfl) ?_
            repeat' (first | refine ex_i64 ((q + 1 : Nat) : Int) (by omega) (by omega) (by omega) ?_ | refine ex_u64 ((q + 1 : Nat) : Int) (by omega) (by omega) (by omega) ?_ | refine ex_u8 ((q + 1 : Nat) : Int) (by omega) (by omega) (by omega) ?_ | refine ex_true (by first | decide | omega | assumption | (with_reducible exact rfl)) ?_ | refine ex_false (by first | decide | omega | assumption | exact (fun h => h rfl)) ?_ | refine ex_dec (fun _ => ?_) (fun _ => ?_) | refine ex_u8 _ rfl (by omega) (by omega) ?_ | refine ex_i64 _ rfl (by omega) (by omega) ?_ | refine ex_u64 _ rfl (by omega) (by omega) ?_ | refine and_mk (by first | omega | (with_reducible rfl) | (show drawOk _ _ _ = true; kernel_rfl)) ?_ | refine and_mk ⟨_, rfl⟩ ?_ | refine ex_is _ (List.length_map _) ?_ | refine ex_is _ List.length_nil ?_ | fail "no step")
            exact TLe.gnil
          | some y =>
            rw [hi] at hr hp
            obtain rfl := hx y hi
            dsimp only [Option.map_some] at hr
            refine ex_callM (CallsM.ren (hp) [1, 2, 3] 4 rfl rfl rfl rfl) ?_
            repeat' (first | refine ex_i64 ((q + 1 : Nat) : Int) (by omega) (by omega) (by omega) ?_ | refine ex_u64 ((q + 1 : Nat) : Int) (by omega) (by omega) (by omega) ?_ | refine ex_u8 ((q + 1 : Nat) : Int) (by omega) (by omega) (by omega) ?_ | refine ex_true (by first | decide | omega | assumption | (with_reducible exact rfl)) ?_ | refine ex_false (by first | decide | omega | assumption | exact (fun h => h rfl)) ?_ | refine ex_dec (fun _ => ?_) (fun _ => ?_) | refine ex_u8 _ rfl (by omega) (by omega) ?_ | refine ex_i64 _ rfl (by omega) (by omega) ?_ | refine ex_u64 _ rfl (by omega) (by omega) ?_ | refine and_mk (by first | omega | (with_reducible rfl) | (show drawOk _ _ _ = true; kernel_rfl)) ?_ | refine and_mk ⟨_, rfl⟩ ?_ | refine ex_is _ (List.length_map _) ?_ | refine ex_is _ List.length_nil ?_ | fail "no step")
            exact ex_round (q + 1, fs, cs ++ [x]) ⟨by omega, by show fs.length ≤ q + 1; omega, by rw [List.length_append]; simp; omega, hr⟩ (by show _ - _ < _ - _; omega) (SLe.ren [(0, 0), (1, 1), (2, 2), (4, 3)] ⟨⟨rfl, rfl⟩, ⟨rfl, rfl⟩, ⟨rfl, rfl⟩, ⟨rfl, rfl⟩, ⟨rfl, rfl⟩, trivial⟩ ⟨⟨rfl, rfl⟩, ⟨rfl, rfl⟩, ⟨rfl, rfl⟩, ⟨rfl, rfl⟩, trivial⟩ rfl)
        · obtain ⟨t, ht⟩ : ∃ t, cutL 32 l = funcS :: t := by
            cases hcc : cutL 32 l with
            | nil => exact absurd hcc (cutL_ne 32 l)
            | cons w t =>
              rw [hcc] at hh
              exact ⟨t, by rw [show w = funcS from Classical.byContradiction hh]⟩
          rw [ht] at hr
          cases hput : putL (fs, cs) (funcS :: t) with
          | none =>
            rw [hput] at hr
            dsimp only at hr
            subst hr
            have hp := put_no l hl t ht fs cs (by omega) (putL_none hput)
            refine ex_callM (CallsM.ren (hp) [1, 2, 3] 4 rfl rfl rfl rfl) ?_
            repeat' (first | refine ex_i64 ((q + 1 : Nat) : Int) (by omega) (by omega) (by omega) ?_ | refine ex_u64 ((q + 1 : Nat) : Int) (by omega) (by omega) (by omega) ?_ | refine ex_u8 ((q + 1 : Nat) : Int) (by omega) (by omega) (by omega) ?_ | refine ex_true (by first | decide | omega | assumption | (with_reducible exact rfl)) ?_ | refine ex_false (by first | decide | omega | assumption | exact (fun h => h rfl)) ?_ | refine ex_dec (fun _ => ?_) (fun _ => ?_) | refine ex_u8 _ rfl (by omega) (by omega) ?_ | refine ex_i64 _ rfl (by omega) (by omega) ?_ | refine ex_u64 _ rfl (by omega) (by omega) ?_ | refine and_mk (by first | omega | (with_reducible rfl) | (show drawOk _ _ _ = true; kernel_rfl)) ?_ | refine and_mk ⟨_, rfl⟩ ?_ | refine ex_is _ (List.length_map _) ?_ | refine ex_is _ List.length_nil ?_ | fail "no step")
            exact TLe.gnil
          | some p' =>
            rw [hput] at hr
            dsimp only at hr
            rw [putL_func] at hput
            split at hput
            · rename_i a b c hk hcs
              injection hput with hput
              subst hput
              dsimp only at hcs
              subst hcs
              have hp := put_ok l hl t ht a b c hk fs (by omega)
              refine ex_callM (CallsM.ren (hp) [1, 2, 3] 4 rfl rfl rfl rfl) ?_
              repeat' (first | refine ex_i64 ((q + 1 : Nat) : Int) (by omega) (by omega) (by omega) ?_ | refine ex_u64 ((q + 1 : Nat) : Int) (by omega) (by omega) (by omega) ?_ | refine ex_u8 ((q + 1 : Nat) : Int) (by omega) (by omega) (by omega) ?_ | refine ex_true (by first | decide | omega | assumption | (with_reducible exact rfl)) ?_ | refine ex_false (by first | decide | omega | assumption | exact (fun h => h rfl)) ?_ | refine ex_dec (fun _ => ?_) (fun _ => ?_) | refine ex_u8 _ rfl (by omega) (by omega) ?_ | refine ex_i64 _ rfl (by omega) (by omega) ?_ | refine ex_u64 _ rfl (by omega) (by omega) ?_ | refine and_mk (by first | omega | (with_reducible rfl) | (show drawOk _ _ _ = true; kernel_rfl)) ?_ | refine and_mk ⟨_, rfl⟩ ?_ | refine ex_is _ (List.length_map _) ?_ | refine ex_is _ List.length_nil ?_ | fail "no step")
              exact ex_round (q + 1, fs ++ [⟨a, b, c⟩], []) ⟨by omega, by rw [List.length_append]; simp; omega, Nat.zero_le _, hr⟩ (by show _ - _ < _ - _; omega) (SLe.ren [(0, 0), (1, 1), (4, 2), (3, 3)] ⟨⟨rfl, rfl⟩, ⟨rfl, rfl⟩, ⟨rfl, rfl⟩, ⟨rfl, rfl⟩, ⟨rfl, rfl⟩, trivial⟩ ⟨⟨rfl, rfl⟩, ⟨rfl, rfl⟩, ⟨rfl, rfl⟩, ⟨rfl, rfl⟩, trivial⟩ rfl)
            · cases hput
      · have hq9 : q = L.length := by omega
        subst hq9
        rw [List.drop_length, parseL] at hr
        subst hr
        repeat' (first | refine ex_true (by first | decide | omega | assumption | (with_reducible exact rfl)) ?_ | refine ex_false (by first | decide | omega | assumption | exact (fun h => h rfl)) ?_ | refine ex_dec (fun _ => ?_) (fun _ => ?_) | refine ex_u8 _ rfl (by omega) (by omega) ?_ | refine ex_i64 _ rfl (by omega) (by omega) ?_ | refine ex_u64 _ rfl (by omega) (by omega) ?_ | refine and_mk (by first | omega | (with_reducible rfl) | (show drawOk _ _ _ = true; kernel_rfl)) ?_ | refine and_mk ⟨_, rfl⟩ ?_ | refine ex_is _ (List.length_map _) ?_ | refine ex_is _ List.length_nil ?_ | fail "no step")
        exact TLe.rfl
    · rw [if_neg hlen]
      refine fn_rule (C := ⟨Tryd.prog, layF, Tryd.f16.ntmps, ΓC, 0, [], []⟩) layF_ok mixed Tryd.func16 rfl (by kernel_rfl) rfl rfl rfl ?_
      repeat' (first | refine ex_call hsp ?_ | refine ex_call htr ?_ | refine (ex_is _ hlm) ?_ | refine ex_true (by first | decide | omega | assumption | (with_reducible exact rfl)) ?_ | refine ex_false (by first | decide | omega | assumption | exact (fun h => h rfl)) ?_ | refine ex_dec (fun _ => ?_) (fun _ => ?_) | refine ex_u8 _ rfl (by omega) (by omega) ?_ | refine ex_i64 _ rfl (by omega) (by omega) ?_ | refine ex_u64 _ rfl (by omega) (by omega) ?_ | refine and_mk (by first | omega | (with_reducible rfl) | (show drawOk _ _ _ = true; kernel_rfl)) ?_ | refine and_mk ⟨_, rfl⟩ ?_ | refine ex_is _ (List.length_map _) ?_ | refine ex_is _ List.length_nil ?_ | fail "no step")
      exact TLe.gnil
end Go.Proofs.YtblobabhdmigiaaDoor

namespace Go.Proofs.YtblobabhdmigiaaDoor
set_option linter.unusedVariables false
set_option linter.unusedSimpArgs false
open Go.RowKit
set_option maxRecDepth 100000

theorem line_c (w : List UInt8) (l : List Int) (hw : w.length ≤ 100) (hl : l.length ≤ 100) (hb : ∀ z ∈ l, I64 z) : CallsA Tryd.prog ΓC 29 [c1 (ds (bs w)), c1 (dint l)] (Tstr (bs (w ++ l.flatMap arg ++ [10]))) := by
  have hal := args_len l hb
  refine fn_rule (C := ⟨Tryd.prog, layF, Tryd.f29.ntmps, ΓC, 0, [], []⟩) layF_ok mixed Tryd.func29 rfl (by kernel_rfl) rfl rfl rfl ?_
  repeat' (first | refine ex_true (by first | decide | omega | assumption | (with_reducible exact rfl)) ?_ | refine ex_false (by first | decide | omega | assumption | exact (fun h => h rfl)) ?_ | refine ex_dec (fun _ => ?_) (fun _ => ?_) | refine ex_u8 _ rfl (by omega) (by omega) ?_ | refine ex_i64 _ rfl (by omega) (by omega) ?_ | refine ex_u64 _ rfl (by omega) (by omega) ?_ | refine and_mk (by first | omega | (with_reducible rfl) | (show drawOk _ _ _ = true; kernel_rfl)) ?_ | refine and_mk ⟨_, rfl⟩ ?_ | refine ex_is _ (List.length_map _) ?_ | refine ex_is _ List.length_nil ?_ | fail "no step")
  refine ex_loop (X := Nat × List UInt8) (fun ⟨q, s⟩ => ⟨[(0, Tstr (bs s)), (7, .o (c1 (dint l))), (8, Ti l.length), (9, Ti q)], [], 0⟩) (fun x => l.length - x.1) (fun ⟨q, s⟩ => q ≤ l.length ∧ s = w ++ (l.take q).flatMap arg) (0, w) ⟨Nat.zero_le _, by simp⟩ (SLe.of ⟨⟨rfl, rfl, rfl, rfl, trivial⟩, trivial⟩) ?_
  rintro ⟨q, s⟩ ⟨hq, hs⟩
  have hq2 := args_len (l.take q) (fun z hz => hb z (List.mem_of_mem_take hz))
  rw [List.length_take] at hq2
  have hsl : s.length ≤ 2300 := by rw [hs, List.length_append]; omega
  have hsz := bs_size s
  refine ex_dec (fun h => ?_) (fun h => ?_)
  · have hql : q < l.length := by omega
    have hc : l[q]? = some l[q] := at_some hql
    have hz := hb l[q] (List.getElem_mem hql)
    have htk : l.take (q + 1) = l.take q ++ [l[q]] := by rw [List.take_add_one, hc]; rfl
    have hz2 := itoa_len hz
    generalize l[q] = z at *
    have hs2 := bs_size (Lib.itoa z)
    have e1 : (⟨#[32]⟩ : ByteArray) ++ bs (Lib.itoa z) = bs (arg z) := bs_app [32] (Lib.itoa z)
    have hs3 := bs_size (arg z)
    have hs4 : (arg z).length = (Lib.itoa z).length + 1 := rfl
    have hs5 : (⟨#[32]⟩ : ByteArray).size = 1 := rfl
    repeat' (first | refine ex_call (itoa_c z hz.1 hz.2) ?_ | refine (ex_row q z rfl hc) ?_ | refine ex_true (by first | decide | omega | assumption | (with_reducible exact rfl)) ?_ | refine ex_false (by first | decide | omega | assumption | exact (fun h => h rfl)) ?_ | refine ex_dec (fun _ => ?_) (fun _ => ?_) | refine ex_u8 _ rfl (by omega) (by omega) ?_ | refine ex_i64 _ rfl (by omega) (by omega) ?_ | refine ex_u64 _ rfl (by omega) (by omega) ?_ | refine and_mk (by first | omega | (with_reducible rfl) | (show drawOk _ _ _ = true; kernel_rfl)) ?_ | refine and_mk ⟨_, rfl⟩ ?_ | refine ex_is _ (List.length_map _) ?_ | refine ex_is _ List.length_nil ?_ | fail "no step")
    rw [e1]
    repeat' (first | refine ex_i64 ((q + 1 : Nat) : Int) (by omega) (by omega) (by omega) ?_ | refine ex_u64 ((q + 1 : Nat) : Int) (by omega) (by omega) (by omega) ?_ | refine ex_u8 ((q + 1 : Nat) : Int) (by omega) (by omega) (by omega) ?_ | refine ex_true (by first | decide | omega | assumption | (with_reducible exact rfl)) ?_ | refine ex_false (by first | decide | omega | assumption | exact (fun h => h rfl)) ?_ | refine ex_dec (fun _ => ?_) (fun _ => ?_) | refine ex_u8 _ rfl (by omega) (by omega) ?_ | refine ex_i64 _ rfl (by omega) (by omega) ?_ | refine ex_u64 _ rfl (by omega) (by omega) ?_ | refine and_mk (by first | omega | (with_reducible rfl) | (show drawOk _ _ _ = true; kernel_rfl)) ?_ | refine and_mk ⟨_, rfl⟩ ?_ | refine ex_is _ (List.length_map _) ?_ | refine ex_is _ List.length_nil ?_ | fail "no step")
    rw [bs_app]
    exact ex_round (q + 1, s ++ arg z) ⟨by omega, by rw [hs, htk, List.flatMap_append]; simp⟩ (by show _ - _ < _ - _; omega) (SLe.of ⟨⟨rfl, rfl, rfl, rfl, trivial⟩, trivial⟩)
  · have hq9 : q = l.length := by omega
    subst hq9
    rw [List.take_length] at hs
    have hs5 : (⟨#[10]⟩ : ByteArray).size = 1 := rfl
    repeat' (first | refine ex_true (by first | decide | omega | assumption | (with_reducible exact rfl)) ?_ | refine ex_false (by first | decide | omega | assumption | exact (fun h => h rfl)) ?_ | refine ex_dec (fun _ => ?_) (fun _ => ?_) | refine ex_u8 _ rfl (by omega) (by omega) ?_ | refine ex_i64 _ rfl (by omega) (by omega) ?_ | refine ex_u64 _ rfl (by omega) (by omega) ?_ | refine and_mk (by first | omega | (with_reducible rfl) | (show drawOk _ _ _ = true; kernel_rfl)) ?_ | refine and_mk ⟨_, rfl⟩ ?_ | refine ex_is _ (List.length_map _) ?_ | refine ex_is _ List.length_nil ?_ | fail "no step")
    exact TLe.eq (by show Tstr (bs s ++ bs [10]) = _; rw [bs_app, hs])
theorem itext_c (x : IN) (hx : InB x) : CallsA Tryd.prog ΓC 30 [gD (inD x)] (Tstr (bs (lineF x ++ [10]))) := by
  obtain ⟨o, a, b, n⟩ := x
  obtain ⟨ha, hb, hn⟩ := hx
  obtain ⟨hh, hw6⟩ := opF_has o
  have hsh := shape_c o
  have hf : CallsA Tryd.prog ΓC 45 [c1 (du n), c1 (di 10)] (Tstr (bs (Lib.decDigits n))) := (fmt_c n hn).gC
  have hd := dec_len n hn
  have hds := bs_size (Lib.decDigits n)
  unfold lineF
  dsimp only at *
  generalize opF o = r at *
  obtain ⟨w, h, t, p⟩ := r
  have hsh : CallsA Tryd.prog ΓC 19 [c1 (di o)] (.o (gD [ds (bs w), di h, di t, di p])) := hsh
  change CallsA Tryd.prog ΓC 30 [gD [di o, di a, di b, du n]] _
  dsimp only at *
  have hl := line_c w ([a, b].take h) (by omega) (by rw [List.length_take]; simp; omega) (fun z hz => by
    have := List.mem_of_mem_take hz
    simp at this
    rcases this with rfl | rfl
    · exact ha
    · exact hb)
  have hws := bs_size w
  rcases w with _ | ⟨c, w⟩
  ·
    refine fn_rule (C := ⟨Tryd.prog, layF, Tryd.f30.ntmps, ΓC, 0, [], []⟩) layF_ok mixed Tryd.func30 rfl (by kernel_rfl) rfl rfl rfl ?_
    repeat' (first | refine ex_call hsh ?_ | refine ex_true (by first | decide | omega | assumption | (with_reducible exact rfl)) ?_ | refine ex_false (by first | decide | omega | assumption | exact (fun h => h rfl)) ?_ | refine ex_dec (fun _ => ?_) (fun _ => ?_) | refine ex_u8 _ rfl (by omega) (by omega) ?_ | refine ex_i64 _ rfl (by omega) (by omega) ?_ | refine ex_u64 _ rfl (by omega) (by omega) ?_ | refine and_mk (by first | omega | (with_reducible rfl) | (show drawOk _ _ _ = true; kernel_rfl)) ?_ | refine and_mk ⟨_, rfl⟩ ?_ | refine ex_is _ (List.length_map _) ?_ | refine ex_is _ List.length_nil ?_ | fail "no step")
    exact TLe.rfl
  · change CallsA Tryd.prog ΓC 30 _ (Tstr (bs ((if o = 0 then (c :: w) ++ 32 :: Lib.decDigits n else (c :: w) ++ ([a, b].take h).flatMap arg) ++ [10])))
    have hne : bs (c :: w) ≠ ByteArray.empty := fun e => by have := congrArg ByteArray.size e; rw [bs_size] at this; cases this
    generalize c :: w = w at *
    by_cases h0 : o = 0
    · rw [if_pos h0]
      refine fn_rule (C := ⟨Tryd.prog, layF, Tryd.f30.ntmps, ΓC, 0, [], []⟩) layF_ok mixed Tryd.func30 rfl (by kernel_rfl) rfl rfl rfl ?_
      have e1 : bs w ++ (⟨#[32]⟩ : ByteArray) = bs (w ++ [32]) := bs_app w [32]
      have e2 : ∀ l : List UInt8, bs l ++ (⟨#[10]⟩ : ByteArray) = bs (l ++ [10]) := fun l => bs_app l [10]
      have hs1 := bs_size (w ++ [32])
      have hs2 : (⟨#[32]⟩ : ByteArray).size = 1 := rfl
      have hs3 : (⟨#[10]⟩ : ByteArray).size = 1 := rfl
      rw [List.length_append, List.length_cons, List.length_nil] at hs1
      repeat' (first | refine ex_call hf ?_ | refine ex_call hsh ?_ | refine ex_true (by first | decide | omega | assumption | (with_reducible exact rfl)) ?_ | refine ex_false (by first | decide | omega | assumption | exact (fun h => h rfl)) ?_ | refine ex_dec (fun _ => ?_) (fun _ => ?_) | refine ex_u8 _ rfl (by omega) (by omega) ?_ | refine ex_i64 _ rfl (by omega) (by omega) ?_ | refine ex_u64 _ rfl (by omega) (by omega) ?_ | refine and_mk (by first | omega | (with_reducible rfl) | (show drawOk _ _ _ = true; kernel_rfl)) ?_ | refine and_mk ⟨_, rfl⟩ ?_ | refine ex_is _ (List.length_map _) ?_ | refine ex_is _ List.length_nil ?_ | fail "no step")
      rw [e1]
      repeat' (first | refine ex_call hf ?_ | refine ex_true (by first | decide | omega | assumption | (with_reducible exact rfl)) ?_ | refine ex_false (by first | decide | omega | assumption | exact (fun h => h rfl)) ?_ | refine ex_dec (fun _ => ?_) (fun _ => ?_) | refine ex_u8 _ rfl (by omega) (by omega) ?_ | refine ex_i64 _ rfl (by omega) (by omega) ?_ | refine ex_u64 _ rfl (by omega) (by omega) ?_ | refine and_mk (by first | omega | (with_reducible rfl) | (show drawOk _ _ _ = true; kernel_rfl)) ?_ | refine and_mk ⟨_, rfl⟩ ?_ | refine ex_is _ (List.length_map _) ?_ | refine ex_is _ List.length_nil ?_ | fail "no step")
      rw [bs_app]
      have hs4 := bs_size (w ++ [32] ++ Lib.decDigits n)
      rw [List.length_append, List.length_append, List.length_cons, List.length_nil] at hs4
      repeat' (first | refine ex_true (by first | decide | omega | assumption | (with_reducible exact rfl)) ?_ | refine ex_false (by first | decide | omega | assumption | exact (fun h => h rfl)) ?_ | refine ex_dec (fun _ => ?_) (fun _ => ?_) | refine ex_u8 _ rfl (by omega) (by omega) ?_ | refine ex_i64 _ rfl (by omega) (by omega) ?_ | refine ex_u64 _ rfl (by omega) (by omega) ?_ | refine and_mk (by first | omega | (with_reducible rfl) | (show drawOk _ _ _ = true; kernel_rfl)) ?_ | refine and_mk ⟨_, rfl⟩ ?_ | refine ex_is _ (List.length_map _) ?_ | refine ex_is _ List.length_nil ?_ | fail "no step")
      rw [e2]
      repeat' (first | refine ex_true (by first | decide | omega | assumption | (with_reducible exact rfl)) ?_ | refine ex_false (by first | decide | omega | assumption | exact (fun h => h rfl)) ?_ | refine ex_dec (fun _ => ?_) (fun _ => ?_) | refine ex_u8 _ rfl (by omega) (by omega) ?_ | refine ex_i64 _ rfl (by omega) (by omega) ?_ | refine ex_u64 _ rfl (by omega) (by omega) ?_ | refine and_mk (by first | omega | (with_reducible rfl) | (show drawOk _ _ _ = true; kernel_rfl)) ?_ | refine and_mk ⟨_, rfl⟩ ?_ | refine ex_is _ (List.length_map _) ?_ | refine ex_is _ List.length_nil ?_ | fail "no step")
      exact TLe.eq (by rw [List.append_assoc w]; rfl)
    · rw [if_neg h0]
      refine fn_rule (C := ⟨Tryd.prog, layF, Tryd.f30.ntmps, ΓC, 0, [], []⟩) layF_ok mixed Tryd.func30 rfl (by kernel_rfl) rfl rfl rfl ?_
      repeat' (first | refine ex_call hsh ?_ | refine ex_true (by first | decide | omega | assumption | (with_reducible exact rfl)) ?_ | refine ex_false (by first | decide | omega | assumption | exact (fun h => h rfl)) ?_ | refine ex_dec (fun _ => ?_) (fun _ => ?_) | refine ex_u8 _ rfl (by omega) (by omega) ?_ | refine ex_i64 _ rfl (by omega) (by omega) ?_ | refine ex_u64 _ rfl (by omega) (by omega) ?_ | refine and_mk (by first | omega | (with_reducible rfl) | (show drawOk _ _ _ = true; kernel_rfl)) ?_ | refine and_mk ⟨_, rfl⟩ ?_ | refine ex_is _ (List.length_map _) ?_ | refine ex_is _ List.length_nil ?_ | fail "no step")
      refine ⟨by show (h : Int) ≤ 2; omega, ?_⟩
      refine ex_is (([a, b].take h).map fun z => [di z]) (by rw [List.map_take]; rfl) ?_
      repeat' (first | refine ex_call hl ?_ | refine ex_true (by first | decide | omega | assumption | (with_reducible exact rfl)) ?_ | refine ex_false (by first | decide | omega | assumption | exact (fun h => h rfl)) ?_ | refine ex_dec (fun _ => ?_) (fun _ => ?_) | refine ex_u8 _ rfl (by omega) (by omega) ?_ | refine ex_i64 _ rfl (by omega) (by omega) ?_ | refine ex_u64 _ rfl (by omega) (by omega) ?_ | refine and_mk (by first | omega | (with_reducible rfl) | (show drawOk _ _ _ = true; kernel_rfl)) ?_ | refine and_mk ⟨_, rfl⟩ ?_ | refine ex_is _ (List.length_map _) ?_ | refine ex_is _ List.length_nil ?_ | fail "no step")
      exact TLe.rfl
end Go.Proofs.YtblobabhdmigiaaDoor

namespace Go.Proofs.YtblobabhdmigiaaDoor
set_option linter.unusedVariables false
set_option linter.unusedSimpArgs false
open Go.RowKit

theorem ret_bool {a b : Bool} (h : a = b) : Ending.returned (.bool a) = .returned (.bool b) := by rw [h]
theorem ret_int {k : IntKind} {a b : Int} (h : a = b) : Ending.returned (.int k a) = .returned (.int k b) := by rw [h]

/-- A world that extends W: of what was there nothing has turned. -/
structure Ext (W : World) where
  w : World
  b : Below W.heap.size W w

instance {W : World} : Nonempty (Ext W) := ⟨⟨W, Below.refl _ _⟩⟩
instance {W : World} : Inhabited (Ext W) := ⟨⟨W, Below.refl _ _⟩⟩

/-! ### What the walk asks of blocks' numbers, found by instances: however long the chain of worlds is -/
class ExtC (W : outParam World) (w : World) : Prop where
  b : Below W.heap.size W w
class LtC (n m : Nat) : Prop where
  h : n < m
class LeC (n m : Nat) : Prop where
  h : n ≤ m
instance (priority := 2000) (n : Nat) : LeC n n := ⟨Nat.le_refl _⟩
instance (priority := 1900) (n m : Nat) [LeC n m] : LeC n (m + 1) := ⟨Nat.le_succ_of_le LeC.h⟩
instance (priority := 1800) (n m : Nat) [LeC n m] : LeC (n + 1) (m + 1) := ⟨Nat.succ_le_succ LeC.h⟩
instance (n : Nat) (w : World) (o : Obj) [LeC n (w.heap.size + 1)] : LeC n (w.alloc o).heap.size := ⟨by rw [World.size_alloc]; exact LeC.h⟩
instance (n : Nat) (w : World) (a : Addr) (v : Value) [LeC n w.heap.size] : LeC n (w.setCell a v).heap.size := ⟨by simp only [World.setCell, Array.size_modify]; exact LeC.h⟩
instance (n : Nat) (w : World) [LeC n w.heap.size] : LeC n w.drew.heap.size := ⟨(LeC.h : n ≤ w.heap.size)⟩
instance (n : Nat) (W w : World) [h : ExtC W w] [LeC n W.heap.size] : LeC n w.heap.size := ⟨Nat.le_trans LeC.h h.b.size⟩
instance (priority := 2000) (n : Nat) : LtC n (n + 1) := ⟨Nat.lt_succ_self _⟩
instance (priority := 1900) (n m : Nat) [LtC n m] : LtC n (m + 1) := ⟨Nat.lt_succ_of_lt LtC.h⟩
instance (priority := 1800) (n m : Nat) [LtC n m] : LtC (n + 1) (m + 1) := ⟨Nat.succ_lt_succ LtC.h⟩
instance (n : Nat) (w : World) (o : Obj) [LtC n (w.heap.size + 1)] : LtC n (w.alloc o).heap.size := ⟨by rw [World.size_alloc]; exact LtC.h⟩
instance (n : Nat) (w : World) (a : Addr) (v : Value) [LtC n w.heap.size] : LtC n (w.setCell a v).heap.size := ⟨by simp only [World.setCell, Array.size_modify]; exact LtC.h⟩
instance (n : Nat) (w : World) [LtC n w.heap.size] : LtC n w.drew.heap.size := ⟨(LtC.h : n < w.heap.size)⟩
instance (n : Nat) (W w : World) [h : ExtC W w] [LtC n W.heap.size] : LtC n w.heap.size := ⟨Nat.lt_of_lt_of_le LtC.h h.b.size⟩
instance {W : World} (x : Ext W) : ExtC W x.w := ⟨x.b⟩

/-- Block b reads in w as in W. -/
class AtC (w : World) (b : Nat) (W : outParam World) : Prop where
  h : w.heap[b]? = W.heap[b]?
instance {W w : World} (b : Nat) [h : ExtC W w] [LtC b W.heap.size] : AtC w b W := ⟨h.b.block b LtC.h⟩
/-- (Named so that simp doesn't take 'cellI' for a mere renaming.) -/
def cellOf (W : World) (b o : Nat) : Option Value := W.cell? ⟨b, o, none⟩
def frozenOf (W : World) (b o : Nat) : Bool := W.frozen? ⟨b, o, none⟩
theorem cellOf_is (W : World) (b o : Nat) : cellOf W b o = W.cell? ⟨b, o, none⟩ := rfl
theorem frozenOf_is (W : World) (b o : Nat) : frozenOf W b o = W.frozen? ⟨b, o, none⟩ := rfl
theorem cellI {W w : World} (b o : Nat) [h : AtC w b W] : w.cell? ⟨b, o, none⟩ = cellOf W b o := World.cell?_of_block (w := W) (a := ⟨b, o, none⟩) h.h
theorem frozenI {W w : World} (b o : Nat) [h : AtC w b W] : w.frozen? ⟨b, o, none⟩ = frozenOf W b o := World.frozen?_of_block (w := W) (a := ⟨b, o, none⟩) h.h
theorem cellA {w : World} (O : Obj) (b o : Nat) [LtC b w.heap.size] : (w.alloc O).cell? ⟨b, o, none⟩ = w.cell? ⟨b, o, none⟩ := World.cell?_alloc_past O b o LtC.h
theorem frozenA {w : World} (O : Obj) (b o : Nat) [LtC b w.heap.size] : (w.alloc O).frozen? ⟨b, o, none⟩ = w.frozen? ⟨b, o, none⟩ := World.frozen?_alloc_past O b o LtC.h
theorem setCellA {w : World} (O : Obj) (b o : Nat) (v : Value) [LtC b w.heap.size] : (w.alloc O).setCell ⟨b, o, none⟩ v = (w.setCell ⟨b, o, none⟩ v).alloc O := World.setCell_alloc_past O b o v LtC.h

theorem below_step {B : Nat} {w W w1 : World} (h : Below B w W) (hb : Below W.heap.size W w1) (hB : B ≤ W.heap.size) : Below B w w1 := h.trans (hb.mono hB)
theorem leC {n m : Nat} [h : LeC n m] : n ≤ m := h.h

theorem below_draw (W : World) : Below W.heap.size W { W with drawn := W.drawn + 1 } := ⟨rfl, rfl, rfl, Nat.le_refl _, fun _ _ => rfl⟩

/-- A region that draws its order, every operation a read or a call that only makes memory: one walk in the text's order. -/
theorem steady_region {P : Program} {id : Nat} {Q : Exit → Act → World → Prop} {a : Act} {W : World} {l : List Oper} (hm : P.follows .mixedOrders = true) (hB : Region.lexB .any l.toArray = true)
    (h : wpQuiet P l.toArray (fun w' => ∃ x : Ext W, w' = x.w) (fun a' => ∀ w', (∃ x : Ext W, w' = x.w) → Q .normal a' w') l a) : (Code.region id l.toArray true).wp P Q a W :=
  wp_region_quiet (C := fun w' => ∃ x : Ext W, w' = x.w) hm hB ⟨⟨_, below_draw W⟩, rfl⟩ (by simpa using h)

/-- The same, the class that of an earlier world which the present one extends. -/
theorem steady_from {P : Program} {id : Nat} {Q : Exit → Act → World → Prop} {a : Act} {W w : World} {l : List Oper} (hbw : Below W.heap.size W w) (hm : P.follows .mixedOrders = true) (hB : Region.lexB .any l.toArray = true)
    (h : wpQuiet P l.toArray (fun w' => ∃ x : Ext W, w' = x.w) (fun a' => ∀ w', (∃ x : Ext W, w' = x.w) → Q .normal a' w') l a) : (Code.region id l.toArray true).wp P Q a w :=
  wp_region_quiet (C := fun w' => ∃ x : Ext W, w' = x.w) hm hB ⟨⟨_, hbw.trans ((below_draw w).mono hbw.size)⟩, rfl⟩ (by simpa using h)

/-- A callee's contract, met in a world of the class. -/
theorem Calls.steady {P : Program} {f : FuncId} {args : Array Value} {W : World} {x : Ext W} {v : Value}
    (h : Calls P f args x.w fun e w' => e = .returned v ∧ Below x.w.heap.size x.w w') : Calls P f args x.w fun e w'' => e = .returned v ∧ ∃ y : Ext W, w'' = y.w :=
  h.mono fun _ w' ⟨he, hb⟩ => ⟨he, ⟨w', x.b.trans (hb.mono x.b.size)⟩, rfl⟩


section
variable {P : Program} {ops : Array Oper} {md : Region.Mode} {C : World → Prop}

/-- Every edge that binds leads back. -/
def backB (md : Region.Mode) (ops : Array Oper) : Bool :=
  (List.range ops.size).all fun i => match ops[i]? with
    | some o => o.after.all fun e => !Region.binds md e || decide (e.on < i)
    | none => true
/-- From number n on each operation waits for all of the first n. -/
def tailB (md : Region.Mode) (ops : Array Oper) (n : Nat) : Bool :=
  (List.range ops.size).all fun t => decide (t < n) || (List.range n).all fun i => Region.waitsFor md ops t i
/-- The guards of the first n operations lie among them. -/
def guardB (ops : Array Oper) (n : Nat) : Bool :=
  (List.range n).all fun i => match ops[i]? with
    | some o => match o.guard with
      | some (j, _) => decide (j < n)
      | none => true
    | none => true

theorem backB_spec (h : backB md ops = true) {i : Nat} {o : Oper} (ho : ops[i]? = some o) {e : Edge} (he : e ∈ o.after) (hb : Region.binds md e = true) : e.on < i := by
  have h1 := List.all_eq_true.1 h i (List.mem_range.2 (Array.getElem?_eq_some_iff.1 ho).1)
  simp only [ho] at h1
  have h2 := Array.all_eq_true_iff_forall_mem.1 h1 e he
  simpa [hb] using h2

theorem tailB_spec {n : Nat} (h : tailB md ops n = true) {t i : Nat} (ht : n ≤ t) (hts : t < ops.size) (hi : i < n) : ∃ o, ops[t]? = some o ∧ ∃ e ∈ o.after, Region.binds md e = true ∧ e.on = i := by
  have h1 := List.all_eq_true.1 h t (List.mem_range.2 hts)
  simp only [Bool.or_eq_true, decide_eq_true_eq] at h1
  rcases h1 with h1 | h1
  · omega
  · exact Region.waitsFor_spec (List.all_eq_true.1 h1 i (List.mem_range.2 hi))

/-- More fuel does no harm. -/
theorem wpAny_more {Q : Exit → Act → World → Prop} : ∀ (f : Nat) (listed : Array Bool) (a : Act) (w : World), wpAny P md ops Q f listed a w → wpAny P md ops Q (f + 1) listed a w
  | 0, _, _, _, h => ⟨fun _ => h.2, fun i hi => by rw [h.1] at hi; cases hi⟩
  | f + 1, _, _, _, h => ⟨h.1, fun i hi => wpOp_mono (fun a' w' => wpAny_more f _ a' w') (h.2 i hi)⟩
theorem wpAny_moreN {Q : Exit → Act → World → Prop} (f : Nat) {listed : Array Bool} {a : Act} {w : World} (h : wpAny P md ops Q f listed a w) : ∀ k, wpAny P md ops Q (f + k) listed a w
  | 0 => h
  | k + 1 => wpAny_more _ _ _ _ (wpAny_moreN f h k)

theorem take_get {l : List Oper} {n i : Nat} (h : i < n) : (l.take n).toArray[i]? = l.toArray[i]? := by simp [h]
theorem take_none {l : List Oper} {n i : Nat} (h : n ≤ i) : (l.take n).toArray[i]? = none := by
  simp only [List.getElem?_toArray, List.getElem?_take]
  rw [if_neg (by omega)]

theorem wanted_take {l : List Oper} {n i : Nat} {o : Oper} (hg : guardB l.toArray n = true) (hi : i < n) (ho : l.toArray[i]? = some o) (tmps : Array Value) :
    Region.wanted o (yielded (l.take n).toArray tmps) = Region.wanted o (yielded l.toArray tmps) := by
  have h1 := List.all_eq_true.1 hg i (List.mem_range.2 hi)
  simp only [ho] at h1
  unfold Region.wanted
  cases hgd : o.guard with
  | none => rfl
  | some p =>
    obtain ⟨j, want⟩ := p
    simp only [hgd, decide_eq_true_eq] at h1
    simp only [yielded, take_get h1]

/-- While one of the first n has not come up, what may come up is what may come up among them. -/
theorem ready_take {l : List Oper} {n : Nat} {listed : Array Bool} (ht : tailB md l.toArray n = true) {i : Nat} (hi : i < n) (hun : listed.getD i true = false) {j : Nat}
    (hj : j ∈ Region.ready md l.toArray listed) : j < n ∧ j ∈ Region.ready md (l.take n).toArray listed := by
  have hil : listed.getD i false = false := getD_both hun
  obtain ⟨h0, o, ho, hall⟩ := mem_ready.1 hj
  have hjn : j < n := by
    rcases Nat.lt_or_ge j n with h | h
    · exact h
    · obtain ⟨o', ho', e, he, hb, hon⟩ := tailB_spec ht h (Array.getElem?_eq_some_iff.1 ho).1 hi
      have : o = o' := Option.some.inj (ho.symm.trans ho')
      subst this
      have := hall e he hb
      rw [hon, hil] at this
      cases this
  exact ⟨hjn, mem_ready.2 ⟨h0, o, by rw [take_get hjn]; exact ho, hall⟩⟩

/-- If nothing may come up among the first n, all of them have come up. -/
theorem all_listed {l : List Oper} {n : Nat} {listed : Array Bool} (hb : backB md l.toArray = true) (hs : listed.size = l.toArray.size) (hn : n ≤ l.length)
    (h : Region.ready md (l.take n).toArray listed = []) : ∀ i, i < n → listed.getD i true = true := by
  intro i
  induction i using Nat.strongRecOn with
  | _ i ih =>
    intro hi
    cases hl : listed.getD i true with
    | true => rfl
    | false =>
      have hil : i < l.toArray.size := by simp; omega
      have ho : l.toArray[i]? = some l.toArray[i] := by simp
      have : i ∈ Region.ready md (l.take n).toArray listed := mem_ready.2 ⟨hl, _, by rw [take_get hi]; exact ho, fun e he hbd => by
        have hlt := backB_spec hb ho he hbd
        have h1 := ih e.on hlt (by omega)
        have hes : e.on < listed.size := by omega
        simp only [Array.getD, hes, dite_true] at h1 ⊢
        exact h1⟩
      rw [h] at this
      cases this

def fullTo (n m : Nat) : Array Bool := ((List.range m).map fun i => decide (i < n)).toArray

/-- The first n operations in any order, then the rest one behind the other. -/
theorem wpAny_of_head_tail {l : List Oper} {n : Nat} {Q : Act → Prop} {Q' : Exit → Act → World → Prop} (hn : n ≤ l.length) (hb : backB md l.toArray = true) (ht : tailB md l.toArray n = true) (hg : guardB l.toArray n = true)
    (hseq : Region.seqB md l.toArray (l.length - n) n (fullTo n l.length) = true)
    (hQ : ∀ a w, C w → Q a → wpList P l.toArray Q' (l.drop n) a w) :
    ∀ (f : Nat) (listed : Array Bool) (a : Act) (w : World), listed.size = l.toArray.size → (∀ t, n ≤ t → t < l.length → listed.getD t true = false) → C w →
      wpAnyQ P md (l.take n).toArray C Q f listed a → wpAny P md l.toArray Q' ((l.length - n) + f) listed a w := by
  have fin : ∀ (listed : Array Bool) (a : Act) (w : World), listed.size = l.toArray.size → (∀ t, n ≤ t → t < l.length → listed.getD t true = false) → C w → Q a →
      Region.ready md (l.take n).toArray listed = [] → wpAny P md l.toArray Q' (l.length - n) listed a w := fun listed a w hs hu hw hq hr => by
    have hall := all_listed hb hs hn hr
    have hfull : listed = fullTo n l.length := by
      apply Array.ext
      · simp [fullTo, hs]
      · intro i h1 h2
        have h3 : i < l.length := by simpa [hs] using h1
        simp only [fullTo, List.getElem_toArray, List.getElem_map, List.getElem_range]
        rcases Nat.lt_or_ge i n with h | h
        · have := hall i h
          simp only [Array.getD, h1, dite_true] at this
          simpa [h] using this
        · have := hu i h h3
          simp only [Array.getD, h1, dite_true] at this
          have hni : ¬ i < n := by omega
          simpa [hni] using this
    subst hfull
    have := wpAny_of_seq (P := P) (md := md) (Q' := Q') (l.drop n) n (fullTo n l.length) a w (fun j => by simp [List.getElem?_drop]) (by rw [List.length_drop]; exact hseq) (hQ a w hw hq)
    rwa [List.length_drop] at this
  intro f
  induction f with
  | zero => exact fun listed a w hs hu hw h => fin listed a w hs hu hw h.2 h.1
  | succ f ih =>
    intro listed a w hs hu hw h
    by_cases hr : Region.ready md (l.take n).toArray listed = []
    · exact wpAny_moreN _ (fin listed a w hs hu hw (h.1 hr) hr) _
    · obtain ⟨i, hi⟩ : ∃ i, i ∈ Region.ready md (l.take n).toArray listed := by
        cases hl : Region.ready md (l.take n).toArray listed with
        | nil => exact absurd hl hr
        | cons x xs => exact ⟨x, by simp⟩
      have hin : i < n := by
        rcases Nat.lt_or_ge i n with h' | h'
        · exact h'
        · obtain ⟨_, o, ho, _⟩ := mem_ready.1 hi
          rw [take_none h'] at ho
          cases ho
      have hun := (mem_ready.1 hi).1
      have hrr : Region.ready md l.toArray listed ≠ [] := fun h0 => by
        obtain ⟨h1, o, ho, hall⟩ := mem_ready.1 hi
        have : i ∈ Region.ready md l.toArray listed := mem_ready.2 ⟨h1, o, by rw [← take_get hin]; exact ho, hall⟩
        rw [h0] at this
        cases this
      refine ⟨fun h0 => absurd h0 hrr, fun j hj => ?_⟩
      obtain ⟨hjn, hj'⟩ := ready_take ht hin hun hj
      have hq := h.2 j hj'
      have hq2 : qOp P l.toArray C j (wpAnyQ P md (l.take n).toArray C Q f (listed.setIfInBounds j true)) a := by
        unfold qOp at hq ⊢
        rw [take_get hjn] at hq
        cases ho : l.toArray[j]? with
        | none => simp only [ho] at hq ⊢; exact hq
        | some o =>
          simp only [ho] at hq ⊢
          rw [wanted_take hg hjn ho] at hq
          exact hq
      refine wpOp_of_qOp hw (fun a' w' hw' hk => ih _ a' w' (by simp [hs]) (fun t ht' htl => ?_) hw' hk) hq2
      rw [getD_set_ne true (by omega)]
      exact hu t ht' htl

/-- A region that draws its order: the first n operations read or call, in any order; the rest (stores, mostly) waits for all of them. -/
theorem wp_region_tail {id : Nat} {Q : Exit → Act → World → Prop} {a : Act} {w : World} {l : List Oper} (n : Nat) (hm : P.follows .mixedOrders = true)
    (hB : (decide (n ≤ l.length) && (Region.noSelect (l.take n).toArray && Region.lexFrom .any (l.take n).toArray n 0 (Array.replicate l.toArray.size false)) && backB .any l.toArray && tailB .any l.toArray n && guardB l.toArray n && Region.seqB .any l.toArray (l.length - n) n (fullTo n l.length)) = true)
    (hC : C { w with drawn := w.drawn + 1 })
    (h : wpQuiet P (l.take n).toArray C (fun a' => ∀ w', C w' → wpList P l.toArray Q (l.drop n) a' w') (l.take n) a) : (Code.region id l.toArray true).wp P Q a w := by
  simp only [Bool.and_eq_true, decide_eq_true_eq] at hB
  obtain ⟨⟨⟨⟨⟨hn, hlex⟩, hb⟩, ht⟩, hg⟩, hseq⟩ := hB
  refine wp_region_any hm ?_
  have hlen : (l.take n).length = n := by simp; omega
  have H := wpAnyQ_lex (C := C) (md := .any) hlex.1 (l.take n) 0 (Array.replicate l.toArray.size false) a (by simp) (by rw [hlen]; exact hlex.2) h
  rw [hlen] at H
  have := wpAny_of_head_tail (Q' := Q) hn hb ht hg hseq (fun a w hw hq => hq w hw) n _ a _ (by simp) (fun t _ htl => getD_in (by simpa using htl) (getD_replicate_false _ _)) hC H
  rw [show l.length - n + n = l.toArray.size by simp; omega] at this
  exact this
end

theorem steady_tail {P : Program} {id : Nat} {Q : Exit → Act → World → Prop} {a : Act} {W : World} {l : List Oper} (n : Nat) (hm : P.follows .mixedOrders = true)
    (hB : (decide (n ≤ l.length) && (Region.noSelect (l.take n).toArray && Region.lexFrom .any (l.take n).toArray n 0 (Array.replicate l.toArray.size false)) && backB .any l.toArray && tailB .any l.toArray n && guardB l.toArray n && Region.seqB .any l.toArray (l.length - n) n (fullTo n l.length)) = true)
    (h : wpQuiet P (l.take n).toArray (fun w' => ∃ x : Ext W, w' = x.w) (fun a' => ∀ w', (∃ x : Ext W, w' = x.w) → wpList P l.toArray Q (l.drop n) a' w') (l.take n) a) : (Code.region id l.toArray true).wp P Q a W :=
  wp_region_tail (C := fun w' => ∃ x : Ext W, w' = x.w) n hm hB ⟨⟨_, below_draw W⟩, rfl⟩ h

theorem steady_tail_from {P : Program} {id : Nat} {Q : Exit → Act → World → Prop} {a : Act} {W w : World} {l : List Oper} (hbw : Below W.heap.size W w) (n : Nat) (hm : P.follows .mixedOrders = true)
    (hB : (decide (n ≤ l.length) && (Region.noSelect (l.take n).toArray && Region.lexFrom .any (l.take n).toArray n 0 (Array.replicate l.toArray.size false)) && backB .any l.toArray && tailB .any l.toArray n && guardB l.toArray n && Region.seqB .any l.toArray (l.length - n) n (fullTo n l.length)) = true)
    (h : wpQuiet P (l.take n).toArray (fun w' => ∃ x : Ext W, w' = x.w) (fun a' => ∀ w', (∃ x : Ext W, w' = x.w) → wpList P l.toArray Q (l.drop n) a' w') (l.take n) a) : (Code.region id l.toArray true).wp P Q a w :=
  wp_region_tail (C := fun w' => ∃ x : Ext W, w' = x.w) n hm hB ⟨⟨_, hbw.trans ((below_draw w).mono hbw.size)⟩, rfl⟩ h

theorem bcell {W w1 : World} (hb : Below W.heap.size W w1) : (∀ b o, b < W.heap.size → w1.cell? ⟨b, o, none⟩ = W.cell? ⟨b, o, none⟩) ∧ (∀ b o, b < W.heap.size → w1.frozen? ⟨b, o, none⟩ = W.frozen? ⟨b, o, none⟩) :=
  ⟨fun b o h => hb.cell (p := ⟨b, o, none⟩) h, fun b o h => hb.frozen (p := ⟨b, o, none⟩) h⟩

/-! ### A slice of the call's own that grows -/

/-- 'out = append(out, x)', x laid into a block of its own by the operation ahead. -/
theorem wpList_append1 {P : Program} {ops : Array Oper} {rest : List Oper} {o : Oper} {a : Act} {Q : Exit → Act → World → Prop} {w : World} (hgd : o.guard = none) (s x : Operand) (t : TypeId)
    (ho : o.op = .call { callee := .builtin .append, args := #[s, x], argTypes := #[t, t] })
    (base : Nat) (e : TypeId) (i : TypeInfo) (z : Value) (size bytes : Nat) (ht : P.underlying t = some (.slice e)) (hi : P.info? e = some i) (hz : i.zero = some z)
    (hsize : i.size = size) (hby : i.bytes = bytes) (hzs : z.cells.size = size) (hsz : 0 < size)
    (v : Value) (n : Nat) (xs : List Value) (hs : a.eval s = v) (hown : w.ownsRow base e size v n xs) (cs : List Value)
    (hx : a.eval x = .slice (some ⟨w.heap.size, 0, none⟩) 1 1) (hl : cs.length = size) (h1 : ∀ u ∈ cs, u.oneCell' = true)
    (h63 : n + 1 ≤ maxLen) (hbytes : (n + 1) * bytes ≤ 140737488355328) (hbase : base ≤ w.heap.size)
    (h : ∀ v' w', w'.ownsRow base e size v' (n + 1) (xs ++ cs) → w.grownBy w' v.ownBlock → Below base w w' → wpList P ops Q rest (a.put o.dst v') w') :
    wpList P ops Q (o :: rest) a (w.alloc (.cells cs.toArray e)) := by
  refine wpList_append_own (w := w.alloc (.cells cs.toArray e)) hgd s x t ho base e i z size bytes ht hi hz hsize hby hzs hsz v n xs hs (hown.alloc _) ⟨w.heap.size, 0, none⟩ 1 1 cs hx (by simpa using hl) ?_ h1 h63 hbytes (by simp; omega) ?_
  · intro j u hj
    have hc : (w.alloc (.cells cs.toArray e)).cell? ⟨w.heap.size, j, none⟩ = cs[j]? := by
      rw [cell_of_row _ _ _ _ _ _ (heap_alloc_new w _)]
      simp
    simp only [Addr.add_lit, Nat.zero_add]
    rw [hc]; exact hj
  · intro v' w' h2 h3 _
    have hlt := hown.lt
    refine h v' w' h2 ⟨h3.os, h3.tape, h3.output, Nat.le_trans (by simp) h3.size, fun k hk hne => ?_⟩ ⟨h3.os, h3.tape, h3.output, Nat.le_trans (by simp) h3.size, fun k hk => ?_⟩
    · rw [h3.block k (by simp; omega) hne]
      exact Below.heap_alloc _ _ _ hk
    · rw [h3.block k (by simp; omega) (fun e => by have := hlt k e.symm; omega)]
      exact Below.heap_alloc _ _ _ (by omega)

/-- The cells of bytes. -/
def bcells (l : List UInt8) : List Value := l.map fun b => .int .u8 (b.toNat : Int)

theorem push_foldl (l : List UInt8) : ∀ s : ByteArray, (l.map fun b : UInt8 => (b.toNat : Int)).foldl (fun r n => r.push (UInt8.ofNat n.toNat)) s = ⟨s.data ++ l.toArray⟩ := by
  induction l with
  | nil => intro s; simp
  | cons b l ih =>
    intro s
    simp only [List.map_cons, List.foldl_cons]
    rw [ih]
    simp [ByteArray.push]

/-- 'string(b)', b a slice of bytes of the call's own. -/
theorem run_string_own {P : Program} {w : World} {base : Nat} {src dst e : TypeId} {v : Value} {n : Nat} {l : List UInt8} (hown : w.ownsRow base e 1 v n (bcells l))
    (hs : P.underlying src = some (.slice e)) (he : P.underlying e = some (.int .u8)) (hd : P.underlying dst = some .string) : (convert src dst v).run P w = .ok (.string ⟨l.toArray⟩) w := by
  have hlen : (bcells l).length = n := by simpa using hown.1
  have hln : l.length = n := by simpa [bcells] using hlen
  rcases hown.2 with ⟨rfl, hn⟩ | ⟨g, cap, cur, rfl, _, hg, _, _, _, _⟩
  · have : l = [] := List.eq_nil_of_length_eq_zero (by omega)
    subst this
    rw [run_convert_bytes_string w src dst e _ _ _ hs he hd]
    simp only [Conv.bytesToString, Sem.run_pure]
    rfl
  · rw [run_convert_bytes_string w src dst e _ _ _ hs he hd]
    have hb : bcells l = (l.map fun b : UInt8 => (b.toNat : Int)).map (Value.int .u8) := by simp [bcells]
    have := run_bytesToString (P := P) w ⟨g, 0, none⟩ n cap (l.map fun b : UInt8 => (b.toNat : Int)) (by
      rw [← hb]
      rw [← hlen]
      refine run_loadCells_list (w := w) _ (bcells l) fun j u hj => ?_
      exact hown.cells rfl j u hj)
    rw [this, push_foldl]
    simp

theorem below_bytes (w : World) (e : TypeId) (s : ByteArray) : Below w.heap.size w (Lib.bytesWorld w e s) :=
  ⟨rfl, rfl, rfl, by rw [Lib.bytesWorld_size]; omega, fun k hk => Lib.bytesWorld_at_old w e s k hk⟩

theorem bsize {W w1 : World} (hb : Below W.heap.size W w1) : ∀ b, b < W.heap.size → b < w1.heap.size := fun _ h => Nat.lt_of_lt_of_le h hb.size

end Go.Proofs.YtblobabhdmigiaaDoor

namespace Go.Proofs.YtblobabhdmigiaaDoor
set_option linter.unusedVariables false
set_option linter.unusedSimpArgs false
open Go.RowKit
set_option maxRecDepth 100000

abbrev Tbld : TypeId := 77
theorem under_pb : Tryd.prog.underlying 74 = some (.pointer Tbld) := by kernel_rfl
theorem under_up : Tryd.prog.underlying 107 = some .unsafePointer := by kernel_rfl
theorem size_bld : (Tryd.prog.info? Tbld).map (·.size) = some 2 := by kernel_rfl
theorem lies_bld : liesAt Tryd.prog Tryd.prog.depth Tbld (2 / Tryd.prog.cellsOf Tbld) 0 Tbld 1 = true := by kernel_rfl
theorem cc_used (b : Nat) (w : World) (h0 : w.cell? ⟨b, 0, none⟩ = some (.pointer (some ⟨b, 0, none⟩))) :
    Calls Tryd.prog 43 #[.pointer (some ⟨b, 0, none⟩)] w fun e w' => e = .returned (.tuple #[]) ∧ w' = w := by
  obtain ⟨j, hj, _⟩ := Option.map_eq_some_iff.1 size_bld
  go_enter Tryd.func43, Tryd.ntmps43
  go_wp2
  rw [Lib.run_neq_ptr_same w _ under_pb hj]
  go_wp2
  go_end0
  exact ⟨rfl, rfl⟩
theorem cc_fresh (b : Nat) (w : World) (h0 : w.cell? ⟨b, 0, none⟩ = some (.pointer none)) (hsh : w.shape? b = some (Tbld, 2)) (hfz : w.frozen? ⟨b, 0, none⟩ = false) :
    Calls Tryd.prog 43 #[.pointer (some ⟨b, 0, none⟩)] w fun e w' => e = .returned (.tuple #[]) ∧ w' = w.setCell ⟨b, 0, none⟩ (.pointer (some ⟨b, 0, none⟩)) := by
  obtain ⟨j, hj, hjs⟩ := Option.map_eq_some_iff.1 size_bld
  go_enter Tryd.func43, Tryd.ntmps43
  go_wp2
  rw [Lib.run_to_unsafe w ⟨b, 0, none⟩ under_pb under_up hj (by rw [hjs]; decide) hsh (Nat.zero_lt_succ 1)]
  simp only [Result.andThen]
  rw [Oper.upon_value]
  go_wp2
  rw [run_callFunc_extern Tryd.func52 (by kernel_rfl) (by kernel_rfl) (by kernel_rfl) (e := Extern.AbiNoEscape.same) (by kernel_rfl)]
  rw [Lib.run_noEscape]
  simp only [Result.andThen]
  rw [Oper.upon_value]
  go_wp2
  rw [Lib.run_from_unsafe w ⟨b, 0, none⟩ under_up under_pb hj hsh lies_bld]
  simp only [Result.andThen]
  rw [Oper.upon_value]
  go_wp2
  go_end0
  exact ⟨rfl, rfl⟩
theorem open_bld {ι : Nat → Value} {S : Nat → Prop} {w : World} {a x : CV} (h : BlkOk ι S w 0 (.obj [a, x] Tbld)) : ∃ b u0 u1, ι 0 = .pointer (some ⟨b, 0, none⟩) ∧ w.heap[b]? = some (.cells #[u0, u1] Tbld (0, 0)) ∧ VC ι S w a u0 ∧ VC ι S w x u1 ∧ ¬ S b := by
  obtain ⟨b, arr, ty, h1, h2, h3, h4⟩ := h
  obtain ⟨u0, l, e0, e1, h3⟩ := h3.cons_left
  obtain ⟨u1, rfl, e2⟩ := h3.one_left
  have hty : ty.1 = Tbld := by
    rcases ty.2 with h | h
    · exact absurd h (by decide)
    · exact h
  rw [hty] at h2
  refine ⟨b, u0, u1, h1, ?_, e1, e2, h4⟩
  rw [h2]
  congr 2
  apply Array.ext'
  rw [e0]
theorem bld_arg {ι : Nat → Value} {S : Nat → Prop} {w : World} {b : Nat} {vs : List Value} (h1 : ι 0 = .pointer (some ⟨b, 0, none⟩)) (h : All2 (V1 ι S w) [.c (.ptr 0 0)] vs) : vs = [.pointer (some ⟨b, 0, none⟩)] := by
  obtain ⟨v, rfl, b', e1, e2⟩ := h.one_left
  rw [h1] at e1
  cases e1
  rw [e2]
theorem copyCheck_used (x : CV) (nx : Nat) : CallsM Tryd.prog Γ0 43 [(0, .obj [.ptr 0 0, x] Tbld)] nx [.c (.ptr 0 0)] (.tup []) [(0, .obj [.ptr 0 0, x] Tbld)] [] := by
  refine ⟨⟨_, Tryd.func43, by kernel_rfl, rfl⟩, fun ι S w vs hs _ hblk hdst hvs => ?_⟩
  have hb := hblk _ (List.mem_singleton.2 rfl)
  obtain ⟨b, u0, u1, h1, h2, h3, h4, h5⟩ := open_bld hb
  obtain rfl := bld_arg h1 hvs
  obtain ⟨b', e1, rfl⟩ := h3
  rw [h1] at e1
  cases e1
  refine (cc_used b w (by simp [World.cell?, h2])).mono fun e w' ⟨he, hw⟩ => ?_
  subst he; subst hw
  refine .inl ⟨_, ι, S, rfl, ⟨[], rfl, .nil⟩, fun _ _ => rfl, fun _ h => h, fun _ h => .inl h, hs, rfl, rfl, rfl, Nat.le_refl _, fun _ _ _ => rfl, fun k b hk => ?_, (fun _ _ h => by simp at h), (fun _ _ h => by simp at h), (fun _ _ _ _ _ h => by simp at h)⟩
  simp only [List.mem_singleton, Prod.mk.injEq] at hk
  obtain ⟨rfl, rfl⟩ := hk
  exact hb
theorem copyCheck_fresh (x : CV) (nx : Nat) : CallsM Tryd.prog Γ0 43 [(0, .obj [.d (.v (.pointer none)), x] Tbld)] nx [.c (.ptr 0 0)] (.tup []) [(0, .obj [.ptr 0 0, x] Tbld)] [] := by
  refine ⟨⟨_, Tryd.func43, by kernel_rfl, rfl⟩, fun ι S w vs hs _ hblk hdst hvs => ?_⟩
  obtain ⟨b, u0, u1, h1, h2, h3, h4, h5⟩ := open_bld (hblk _ (List.mem_singleton.2 rfl))
  obtain rfl := bld_arg h1 hvs
  obtain rfl : u0 = .pointer none := by have h' : Imm S w _ u0 := h3; cases h'; rfl
  refine (cc_fresh b w (by simp [World.cell?, h2]) (by simp [World.shape?, h2]) (by simp [World.frozen?, h2])).mono fun e w' ⟨he, hw⟩ => ?_
  subst he; subst hw
  have hother : ∀ b', b' ≠ b → (w.setCell ⟨b, 0, none⟩ (.pointer (some ⟨b, 0, none⟩))).heap[b']? = w.heap[b']? := fun b' hb' => Go.heap_setCell_other w _ _ _ hb'
  have hown := Go.heap_setCell_same w b 0 _ _ (.pointer (some ⟨b, 0, none⟩)) h2
  refine .inl ⟨_, ι, S, rfl, ⟨[], rfl, .nil⟩, fun _ _ => rfl, fun _ h => h, fun _ h => .inl h, (fun b' hb' => by have := hs b' hb'; simpa using this), rfl, rfl, rfl, by simp, fun b' _ hne => hother b' (fun e => ?_), fun k b' hk => ?_, (fun _ _ h => by simp at h), (fun _ _ h => by simp at h), (fun _ _ _ _ _ h => by simp at h)⟩
  · subst e
    exact hne 0 (by simp) (by rw [h1]; rfl)
  · simp only [List.mem_singleton, Prod.mk.injEq] at hk
    obtain ⟨rfl, rfl⟩ := hk
    exact ⟨b, _, ⟨Tbld, .inr rfl⟩, h1, hown, .cons ⟨b, h1, rfl⟩ (.cons (VC.mono (fun b' hb' => hother b' (fun e => by subst e; exact h5 hb')) (fun _ h => h) (fun _ _ => rfl) h4) .nil), h5⟩
abbrev Tu8 : TypeId := 5
theorem u8_info : InfoU8 Tryd.prog Tu8 := by
  have h : ∃ i, Tryd.prog.info? Tu8 = some i ∧ i.zero = some (.int .u8 0) ∧ i.size = 1 ∧ i.bytes = 1 := info_parts (by kernel_rfl)
  exact h
abbrev Brow (l : List UInt8) : Blk := .row 1 Tu8 (byteRows l)
theorem byteRows_app (l m : List UInt8) : byteRows l ++ byteRows m = byteRows (l ++ m) := by simp [byteRows]
theorem byteRows_len (l : List UInt8) : (byteRows l).length = l.length := by simp [byteRows]
theorem cc_row (a : CV) (ha : a = .d (.v (.pointer none)) ∨ a = .ptr 0 0) (l : List UInt8) : CallsM Tryd.prog Γ0 43 [(0, .obj [a, .row 1] Tbld), (1, Brow l)] 2 [.c (.ptr 0 0)] (.tup []) [(0, .obj [.ptr 0 0, .row 1] Tbld)] [] := by
  rcases ha with rfl | rfl
  · exact CallsM.more (copyCheck_fresh (.row 1) 2) (by simp)
  · exact CallsM.more (copyCheck_used (.row 1) 2) (by simp)
theorem WriteString_c (a : CV) (ha : a = .d (.v (.pointer none)) ∨ a = .ptr 0 0) (l : List UInt8) (s : ByteArray) (h : l.length + s.size ≤ 140737488355328) :
    CallsM Tryd.prog Γ0 28 [(0, .obj [a, .row 1] Tbld), (1, Brow l)] 2 [.c (.ptr 0 0), c1 (ds s)] (.tup [c1 (di s.size), c1 (.v .nilIface)]) [(0, .obj [.ptr 0 0, .row 2] Tbld), (1, .dead)] [Brow (l ++ s.data.toList)] := by
  have hcc := cc_row a ha l
  have e := byteRows_app l s.data.toList
  have hl : (byteRows l).length + s.size ≤ 140737488355328 := by rw [byteRows_len]; exact h
  rcases ha with rfl | rfl
  all_goals
    refine fn_ruleM (C := ⟨Tryd.prog, layF, Tryd.f28.ntmps, Γ0, 2, [], []⟩) layF_ok mixed Tryd.func28 rfl (by kernel_rfl) rfl rfl rfl ?_
    refine ex_callM hcc ?_
    refine ⟨u8_info, hl, ?_⟩
    refine ex_is _ e ?_
    exact ⟨rfl, TLe.rfl, rfl, rfl⟩
end Go.Proofs.YtblobabhdmigiaaDoor

namespace Go.Proofs.YtblobabhdmigiaaDoor
set_option linter.unusedVariables false
set_option linter.unusedSimpArgs false
open Go.RowKit
set_option maxRecDepth 100000

def FnB (f : FN) : Prop := I64 f.e ∧ I64 f.s ∧ I64 f.p
abbrev fnL (f : FN) : List UInt8 := fnF f ++ [10]
abbrev inL (x : IN) : List UInt8 := lineF x ++ [10]
theorem fnL_len {f : FN} (h : FnB f) : (fnL f).length ≤ 80 := by
  have := args_len [f.e, f.s, f.p] (by simp; exact h)
  show (funcS ++ _ ++ [10]).length ≤ 80
  rw [List.length_append, List.length_append]
  simp only [List.length_cons, List.length_nil] at this ⊢
  show 4 + _ + _ ≤ _
  omega
theorem inL_len {x : IN} (h : InB x) : (inL x).length ≤ 80 := by
  obtain ⟨h1, h2, h3⟩ := h
  obtain ⟨hh, hw⟩ := opF_has x.o
  have hd := dec_len x.n h3
  have ha := args_len ([x.a, x.b].take (opF x.o).2.1) (fun z hz => by
    have := List.mem_of_mem_take hz
    simp at this
    rcases this with rfl | rfl
    · exact h1
    · exact h2)
  rw [List.length_take] at ha
  simp only [List.length_cons, List.length_nil] at ha
  show (lineF x ++ [10]).length ≤ 80
  rw [List.length_append]
  unfold lineF
  split
  · simp
  · split
    · rw [List.length_append, List.length_cons]; simp only [List.length_cons, List.length_nil]; omega
    · rw [List.length_append]; simp only [List.length_cons, List.length_nil]; omega
theorem flat_len {α : Type} {g : α → List UInt8} {b : Nat} : ∀ {l : List α}, (∀ x ∈ l, (g x).length ≤ b) → (l.flatMap g).length ≤ b * l.length
  | [], _ => by simp
  | x :: l, h => by
    have h1 := flat_len (l := l) (fun y hy => h y (by simp [hy]))
    have h2 := h x (by simp)
    rw [List.flatMap_cons, List.length_append, List.length_cons, Nat.mul_add, Nat.mul_one]; omega
theorem byteRows_ne {l : List UInt8} (h : l ≠ []) : 0 < (byteRows l).length := by rw [byteRows_len]; exact List.length_pos_iff.2 h
theorem String_c (l : List UInt8) (hn : l ≠ []) :
    CallsM Tryd.prog Γ0 31 [(0, .obj [.ptr 0 0, .row 1] Tbld), (1, Brow l)] 2 [.c (.ptr 0 0)] (.o (c1 (ds ⟨l.toArray⟩))) [(0, .obj [.ptr 0 0, .row 1] Tbld), (1, .dead)] [] := by
  have h0 := byteRows_ne hn
  have hl : (byteRows l).length = l.length := byteRows_len l
  refine fn_ruleM (C := ⟨Tryd.prog, layF, Tryd.f31.ntmps, Γ0, 2, [], []⟩) layF_ok mixed Tryd.func31 rfl (by kernel_rfl) rfl rfl rfl ?_
  refine ⟨h0, ?_⟩
  refine ex_is l.length hl ?_
  refine ⟨⟨by kernel_rfl, by kernel_rfl⟩, rfl, rfl, rfl, rfl, l, rfl, hn, rfl, ?_⟩
  refine ⟨by kernel_rfl, ?_⟩
  exact ⟨rfl, TLe.rfl, rfl, rfl⟩
theorem String_nil : CallsM Tryd.prog Γ0 31 [(0, .obj [.d (.v (.pointer none)), .d dnil] Tbld)] 1 [.c (.ptr 0 0)] (.o (c1 (ds ByteArray.empty))) [(0, .obj [.d (.v (.pointer none)), .d dnil] Tbld)] [] := by
  refine fn_ruleM (C := ⟨Tryd.prog, layF, Tryd.f31.ntmps, Γ0, 1, [], []⟩) layF_ok mixed Tryd.func31 rfl (by kernel_rfl) rfl rfl rfl ?_
  repeat' (first | refine ex_true (by first | decide | omega | assumption | (with_reducible exact rfl)) ?_ | refine ex_false (by first | decide | omega | assumption | exact (fun h => h rfl)) ?_ | refine ex_dec (fun _ => ?_) (fun _ => ?_) | refine ex_u8 _ rfl (by omega) (by omega) ?_ | refine ex_i64 _ rfl (by omega) (by omega) ?_ | refine ex_u64 _ rfl (by omega) (by omega) ?_ | refine and_mk (by first | omega | (with_reducible rfl) | (show drawOk _ _ _ = true; kernel_rfl)) ?_ | refine and_mk ⟨_, rfl⟩ ?_ | refine ex_is _ (List.length_map _) ?_ | refine ex_is _ List.length_nil ?_ | fail "no step")
  exact ⟨rfl, TLe.rfl, rfl, rfl⟩
theorem Text_c (fs : List FN) (cs : List IN) (hf : fs.length ≤ 200) (hc : cs.length ≤ 200) (hfb : ∀ f ∈ fs, FnB f) (hcb : ∀ x ∈ cs, InB x) :
    CallsA Tryd.prog ΓC 14 [gD [.sl 3 (fs.map fnD), .sl 4 (cs.map inD)]] (Tstr (bs (textF fs cs))) := by
  have hfl := flat_len (fun f hm => fnL_len (hfb f hm))
  have hcl := flat_len (fun f hm => inL_len (hcb f hm))
  have hfm : (fs.map fnD).length = fs.length := List.length_map _
  have hcm : (cs.map inD).length = cs.length := List.length_map _
  by_cases h0 : fs = [] ∧ cs = []
  · obtain ⟨rfl, rfl⟩ := h0
    refine fn_rule (C := ⟨Tryd.prog, layF, Tryd.f14.ntmps, ΓC, 0, [], []⟩) layF_ok mixed Tryd.func14 rfl (by kernel_rfl) rfl rfl rfl ?_
    repeat' (first | refine ex_true (by first | decide | omega | assumption | (with_reducible exact rfl)) ?_ | refine ex_false (by first | decide | omega | assumption | exact (fun h => h rfl)) ?_ | refine ex_dec (fun _ => ?_) (fun _ => ?_) | refine ex_u8 _ rfl (by omega) (by omega) ?_ | refine ex_i64 _ rfl (by omega) (by omega) ?_ | refine ex_u64 _ rfl (by omega) (by omega) ?_ | refine and_mk (by first | omega | (with_reducible rfl) | (show drawOk _ _ _ = true; kernel_rfl)) ?_ | refine and_mk ⟨_, rfl⟩ ?_ | refine ex_is _ (List.length_map _) ?_ | refine ex_is _ List.length_nil ?_ | fail "no step")
    refine ex_loop (X := Unit) (fun _ => ⟨[(1, .o (.c (.ptr 0 0))), (3, .o (.c (.ptr 1 0))), (10, Ti 0), (11, Ti 0)], [(0, .obj [.d (.sl 3 []), .d (.sl 4 [])]), (1, .obj [.d (.v (.pointer none)), .d dnil] Tbld)], 2⟩) (fun _ => 0) (fun _ => True) () trivial (SLe.of ⟨⟨rfl, rfl, rfl, rfl, trivial⟩, ⟨rfl, rfl, trivial⟩⟩) ?_
    rintro - -
    repeat' (first | refine (ex_false (show ¬ (0 : Int) < 0 by decide)) ?_ | refine ex_true (by first | decide | omega | assumption | (with_reducible exact rfl)) ?_ | refine ex_false (by first | decide | omega | assumption | exact (fun h => h rfl)) ?_ | refine ex_dec (fun _ => ?_) (fun _ => ?_) | refine ex_u8 _ rfl (by omega) (by omega) ?_ | refine ex_i64 _ rfl (by omega) (by omega) ?_ | refine ex_u64 _ rfl (by omega) (by omega) ?_ | refine and_mk (by first | omega | (with_reducible rfl) | (show drawOk _ _ _ = true; kernel_rfl)) ?_ | refine and_mk ⟨_, rfl⟩ ?_ | refine ex_is _ (List.length_map _) ?_ | refine ex_is _ List.length_nil ?_ | fail "no step")
    refine ex_loop (X := Unit) (fun _ => ⟨[(1, .o (.c (.ptr 0 0))), (3, .o (.c (.ptr 1 0))), (27, Ti 0), (28, Ti 0)], [(0, .obj [.d (.sl 3 []), .d (.sl 4 [])]), (1, .obj [.d (.v (.pointer none)), .d dnil] Tbld)], 2⟩) (fun _ => 0) (fun _ => True) () trivial (SLe.of ⟨⟨rfl, rfl, rfl, rfl, trivial⟩, ⟨rfl, rfl, trivial⟩⟩) ?_
    rintro - -
    repeat' (first | refine (ex_false (show ¬ (0 : Int) < 0 by decide)) ?_ | refine ex_true (by first | decide | omega | assumption | (with_reducible exact rfl)) ?_ | refine ex_false (by first | decide | omega | assumption | exact (fun h => h rfl)) ?_ | refine ex_dec (fun _ => ?_) (fun _ => ?_) | refine ex_u8 _ rfl (by omega) (by omega) ?_ | refine ex_i64 _ rfl (by omega) (by omega) ?_ | refine ex_u64 _ rfl (by omega) (by omega) ?_ | refine and_mk (by first | omega | (with_reducible rfl) | (show drawOk _ _ _ = true; kernel_rfl)) ?_ | refine and_mk ⟨_, rfl⟩ ?_ | refine ex_is _ (List.length_map _) ?_ | refine ex_is _ List.length_nil ?_ | fail "no step")
    refine ex_callM (CallsM.ren (String_nil.of0) [1] 2 rfl rfl rfl rfl) ?_
    repeat' (first | refine ex_true (by first | decide | omega | assumption | (with_reducible exact rfl)) ?_ | refine ex_false (by first | decide | omega | assumption | exact (fun h => h rfl)) ?_ | refine ex_dec (fun _ => ?_) (fun _ => ?_) | refine ex_u8 _ rfl (by omega) (by omega) ?_ | refine ex_i64 _ rfl (by omega) (by omega) ?_ | refine ex_u64 _ rfl (by omega) (by omega) ?_ | refine and_mk (by first | omega | (with_reducible rfl) | (show drawOk _ _ _ = true; kernel_rfl)) ?_ | refine and_mk ⟨_, rfl⟩ ?_ | refine ex_is _ (List.length_map _) ?_ | refine ex_is _ List.length_nil ?_ | fail "no step")
    exact TLe.rfl
  · have hne : textF fs cs ≠ [] := fun e => by
      unfold textF at e
      rw [List.append_eq_nil_iff] at e
      refine h0 ⟨?_, ?_⟩
      · cases fs with
        | nil => rfl
        | cons f fs => rw [List.flatMap_cons] at e; simp at e
      · cases cs with
        | nil => rfl
        | cons f fs => rw [List.flatMap_cons] at e; simp at e
    refine fn_rule (C := ⟨Tryd.prog, layF, Tryd.f14.ntmps, ΓC, 0, [], []⟩) layF_ok mixed Tryd.func14 rfl (by kernel_rfl) rfl rfl rfl ?_
    repeat' (first | refine (ex_is _ hfm) ?_ | refine ex_true (by first | decide | omega | assumption | (with_reducible exact rfl)) ?_ | refine ex_false (by first | decide | omega | assumption | exact (fun h => h rfl)) ?_ | refine ex_dec (fun _ => ?_) (fun _ => ?_) | refine ex_u8 _ rfl (by omega) (by omega) ?_ | refine ex_i64 _ rfl (by omega) (by omega) ?_ | refine ex_u64 _ rfl (by omega) (by omega) ?_ | refine and_mk (by first | omega | (with_reducible rfl) | (show drawOk _ _ _ = true; kernel_rfl)) ?_ | refine and_mk ⟨_, rfl⟩ ?_ | refine ex_is _ (List.length_map _) ?_ | refine ex_is _ List.length_nil ?_ | fail "no step")
    refine ex_loop (X := Nat × CV × List UInt8) (fun ⟨q, a, m⟩ => ⟨[(1, .o (.c (.ptr 0 0))), (3, .o (.c (.ptr 1 0))), (9, .o (c1 (.sl 3 (fs.map fnD)))), (10, Ti fs.length), (11, Ti q)], [(0, .obj [.d (.sl 3 (fs.map fnD)), .d (.sl 4 (cs.map inD))]), (1, .obj [a, .row 2] Tbld), (2, Brow m)], 3⟩) (fun x => fs.length - x.1)
      (fun ⟨q, a, m⟩ => q ≤ fs.length ∧ ((a = .d (.v (.pointer none)) ∧ m = []) ∨ a = .ptr 1 0) ∧ m = (fs.take q).flatMap fnL) (0, .d (.v (.pointer none)), []) ⟨Nat.zero_le _, .inl ⟨rfl, rfl⟩, by simp⟩ (SLe.trans (SLe.of ⟨⟨rfl, rfl, rfl, rfl, rfl, trivial⟩, ⟨rfl, rfl, rfl, trivial⟩⟩) (SLe.ownCell 1 1 2 1 Tu8 rfl rfl rfl rfl rfl rfl)) ?_
    rintro ⟨q, a, m⟩ ⟨hq, ha, hm⟩
    refine ex_dec (fun h => ?_) (fun h => ?_)
    · have hql : q < fs.length := by omega
      have hc1 : fs[q]? = some fs[q] := at_some hql
      have hb := hfb fs[q] (List.getElem_mem hql)
      have htk : fs.take (q + 1) = fs.take q ++ [fs[q]] := by rw [List.take_add_one, hc1]; rfl
      generalize fs[q] = f at *
      have hln := line_c funcS [f.e, f.s, f.p] (by decide) (by simp) (by simp; exact hb)
      have hq2 : (fs.take q).length ≤ 200 := by rw [List.length_take]; omega
      have hml : m.length ≤ 80 * 200 := by
        rw [hm]
        have := flat_len (l := fs.take q) (g := fnL) (fun f hm => fnL_len (hfb f (List.mem_of_mem_take hm)))
        exact Nat.le_trans this (Nat.mul_le_mul_left _ hq2)
      have hfl2 := fnL_len hb
      have hw := fun a ha => WriteString_c a ha m (bs (fnL f)) (by rw [bs_size]; omega)
      have hme : m ++ (bs (fnL f)).data.toList = (fs.take (q + 1)).flatMap fnL := by rw [htk, List.flatMap_append, ← hm]; simp
      rw [hme] at hw
      rcases ha with ⟨rfl, hm0⟩ | rfl
      · repeat' (first | refine ex_call hln ?_ | refine (ex_row q f rfl hc1) ?_ | refine ex_true (by first | decide | omega | assumption | (with_reducible exact rfl)) ?_ | refine ex_false (by first | decide | omega | assumption | exact (fun h => h rfl)) ?_ | refine ex_dec (fun _ => ?_) (fun _ => ?_) | refine ex_u8 _ rfl (by omega) (by omega) ?_ | refine ex_i64 _ rfl (by omega) (by omega) ?_ | refine ex_u64 _ rfl (by omega) (by omega) ?_ | refine and_mk (by first | omega | (with_reducible rfl) | (show drawOk _ _ _ = true; kernel_rfl)) ?_ | refine and_mk ⟨_, rfl⟩ ?_ | refine ex_is _ (List.length_map _) ?_ | refine ex_is _ List.length_nil ?_ | fail "no step")
        refine ex_callM (CallsM.ren (((hw (.d (.v (.pointer none))) (.inl rfl)).of0)) [1, 2] 5 rfl rfl rfl rfl) ?_
        repeat' (first | refine ex_i64 ((q + 1 : Nat) : Int) (by omega) (by omega) (by omega) ?_ | refine ex_u64 ((q + 1 : Nat) : Int) (by omega) (by omega) (by omega) ?_ | refine ex_u8 ((q + 1 : Nat) : Int) (by omega) (by omega) (by omega) ?_ | refine ex_true (by first | decide | omega | assumption | (with_reducible exact rfl)) ?_ | refine ex_false (by first | decide | omega | assumption | exact (fun h => h rfl)) ?_ | refine ex_dec (fun _ => ?_) (fun _ => ?_) | refine ex_u8 _ rfl (by omega) (by omega) ?_ | refine ex_i64 _ rfl (by omega) (by omega) ?_ | refine ex_u64 _ rfl (by omega) (by omega) ?_ | refine and_mk (by first | omega | (with_reducible rfl) | (show drawOk _ _ _ = true; kernel_rfl)) ?_ | refine and_mk ⟨_, rfl⟩ ?_ | refine ex_is _ (List.length_map _) ?_ | refine ex_is _ List.length_nil ?_ | fail "no step")
        exact ex_round (q + 1, .ptr 1 0, (fs.take (q + 1)).flatMap fnL) ⟨by omega, .inr rfl, rfl⟩ (by show _ - _ < _ - _; omega) (SLe.ren [(0, 0), (1, 1), (5, 2)] ⟨⟨rfl, rfl⟩, ⟨rfl, rfl⟩, ⟨rfl, rfl⟩, ⟨rfl, rfl⟩, ⟨rfl, rfl⟩, trivial⟩ ⟨⟨rfl, rfl⟩, ⟨rfl, rfl⟩, ⟨rfl, rfl⟩, trivial⟩ rfl)
      · repeat' (first | refine ex_call hln ?_ | refine (ex_row q f rfl hc1) ?_ | refine ex_true (by first | decide | omega | assumption | (with_reducible exact rfl)) ?_ | refine ex_false (by first | decide | omega | assumption | exact (fun h => h rfl)) ?_ | refine ex_dec (fun _ => ?_) (fun _ => ?_) | refine ex_u8 _ rfl (by omega) (by omega) ?_ | refine ex_i64 _ rfl (by omega) (by omega) ?_ | refine ex_u64 _ rfl (by omega) (by omega) ?_ | refine and_mk (by first | omega | (with_reducible rfl) | (show drawOk _ _ _ = true; kernel_rfl)) ?_ | refine and_mk ⟨_, rfl⟩ ?_ | refine ex_is _ (List.length_map _) ?_ | refine ex_is _ List.length_nil ?_ | fail "no step")
        refine ex_callM (CallsM.ren (((hw (.ptr 0 0) (.inr rfl)).of0)) [1, 2] 5 rfl rfl rfl rfl) ?_
        repeat' (first | refine ex_i64 ((q + 1 : Nat) : Int) (by omega) (by omega) (by omega) ?_ | refine ex_u64 ((q + 1 : Nat) : Int) (by omega) (by omega) (by omega) ?_ | refine ex_u8 ((q + 1 : Nat) : Int) (by omega) (by omega) (by omega) ?_ | refine ex_true (by first | decide | omega | assumption | (with_reducible exact rfl)) ?_ | refine ex_false (by first | decide | omega | assumption | exact (fun h => h rfl)) ?_ | refine ex_dec (fun _ => ?_) (fun _ => ?_) | refine ex_u8 _ rfl (by omega) (by omega) ?_ | refine ex_i64 _ rfl (by omega) (by omega) ?_ | refine ex_u64 _ rfl (by omega) (by omega) ?_ | refine and_mk (by first | omega | (with_reducible rfl) | (show drawOk _ _ _ = true; kernel_rfl)) ?_ | refine and_mk ⟨_, rfl⟩ ?_ | refine ex_is _ (List.length_map _) ?_ | refine ex_is _ List.length_nil ?_ | fail "no step")
        exact ex_round (q + 1, .ptr 1 0, (fs.take (q + 1)).flatMap fnL) ⟨by omega, .inr rfl, rfl⟩ (by show _ - _ < _ - _; omega) (SLe.ren [(0, 0), (1, 1), (5, 2)] ⟨⟨rfl, rfl⟩, ⟨rfl, rfl⟩, ⟨rfl, rfl⟩, ⟨rfl, rfl⟩, ⟨rfl, rfl⟩, trivial⟩ ⟨⟨rfl, rfl⟩, ⟨rfl, rfl⟩, ⟨rfl, rfl⟩, trivial⟩ rfl)
    · have hq9 : q = fs.length := by omega
      subst hq9
      rw [List.take_length] at hm
      have hml0 : m.length ≤ 80 * 200 := by
        rw [hm]
        exact Nat.le_trans hfl (Nat.mul_le_mul_left _ hf)
      repeat' (first | refine (ex_is _ hcm) ?_ | refine ex_true (by first | decide | omega | assumption | (with_reducible exact rfl)) ?_ | refine ex_false (by first | decide | omega | assumption | exact (fun h => h rfl)) ?_ | refine ex_dec (fun _ => ?_) (fun _ => ?_) | refine ex_u8 _ rfl (by omega) (by omega) ?_ | refine ex_i64 _ rfl (by omega) (by omega) ?_ | refine ex_u64 _ rfl (by omega) (by omega) ?_ | refine and_mk (by first | omega | (with_reducible rfl) | (show drawOk _ _ _ = true; kernel_rfl)) ?_ | refine and_mk ⟨_, rfl⟩ ?_ | refine ex_is _ (List.length_map _) ?_ | refine ex_is _ List.length_nil ?_ | fail "no step")
      refine ex_loop (X := Nat × CV × List UInt8) (fun ⟨q, a, m⟩ => ⟨[(1, .o (.c (.ptr 0 0))), (3, .o (.c (.ptr 1 0))), (26, .o (c1 (.sl 4 (cs.map inD)))), (27, Ti cs.length), (28, Ti q)], [(0, .obj [.d (.sl 3 (fs.map fnD)), .d (.sl 4 (cs.map inD))]), (1, .obj [a, .row 2] Tbld), (2, Brow m)], 3⟩) (fun x => cs.length - x.1)
        (fun ⟨q, a, m'⟩ => q ≤ cs.length ∧ ((a = .d (.v (.pointer none)) ∧ m' = []) ∨ a = .ptr 1 0) ∧ m' = m ++ (cs.take q).flatMap inL) (0, a, m) ⟨Nat.zero_le _, ha, by simp⟩ (SLe.of ⟨⟨rfl, rfl, rfl, rfl, rfl, trivial⟩, ⟨rfl, rfl, rfl, trivial⟩⟩) ?_
      rintro ⟨q, b, m'⟩ ⟨hq, hb, hm'⟩
      have hq2 : (cs.take q).length ≤ 200 := by rw [List.length_take]; omega
      have hml : m'.length ≤ 80 * 400 := by
        rw [hm', List.length_append]
        have := flat_len (l := cs.take q) (g := inL) (fun f hm => inL_len (hcb f (List.mem_of_mem_take hm)))
        have := Nat.le_trans this (Nat.mul_le_mul_left _ hq2)
        omega
      refine ex_dec (fun h2 => ?_) (fun h2 => ?_)
      · have hql : q < cs.length := by omega
        have hc1 : cs[q]? = some cs[q] := at_some hql
        have hbb := hcb cs[q] (List.getElem_mem hql)
        have htk : cs.take (q + 1) = cs.take q ++ [cs[q]] := by rw [List.take_add_one, hc1]; rfl
        generalize cs[q] = x at *
        have hln := itext_c x hbb
        have hfl2 := inL_len hbb
        have hw := fun a ha => WriteString_c a ha m' (bs (inL x)) (by rw [bs_size]; omega)
        have hme : m' ++ (bs (inL x)).data.toList = m ++ (cs.take (q + 1)).flatMap inL := by rw [htk, List.flatMap_append, hm']; simp
        rw [hme] at hw
        rcases hb with ⟨rfl, hm0⟩ | rfl
        · repeat' (first | refine ex_call hln ?_ | refine (ex_row q x rfl hc1) ?_ | refine ex_true (by first | decide | omega | assumption | (with_reducible exact rfl)) ?_ | refine ex_false (by first | decide | omega | assumption | exact (fun h => h rfl)) ?_ | refine ex_dec (fun _ => ?_) (fun _ => ?_) | refine ex_u8 _ rfl (by omega) (by omega) ?_ | refine ex_i64 _ rfl (by omega) (by omega) ?_ | refine ex_u64 _ rfl (by omega) (by omega) ?_ | refine and_mk (by first | omega | (with_reducible rfl) | (show drawOk _ _ _ = true; kernel_rfl)) ?_ | refine and_mk ⟨_, rfl⟩ ?_ | refine ex_is _ (List.length_map _) ?_ | refine ex_is _ List.length_nil ?_ | fail "no step")
          refine ex_callM (CallsM.ren (((hw (.d (.v (.pointer none))) (.inl rfl)).of0)) [1, 2] 4 rfl rfl rfl rfl) ?_
          repeat' (first | refine ex_i64 ((q + 1 : Nat) : Int) (by omega) (by omega) (by omega) ?_ | refine ex_u64 ((q + 1 : Nat) : Int) (by omega) (by omega) (by omega) ?_ | refine ex_u8 ((q + 1 : Nat) : Int) (by omega) (by omega) (by omega) ?_ | refine ex_true (by first | decide | omega | assumption | (with_reducible exact rfl)) ?_ | refine ex_false (by first | decide | omega | assumption | exact (fun h => h rfl)) ?_ | refine ex_dec (fun _ => ?_) (fun _ => ?_) | refine ex_u8 _ rfl (by omega) (by omega) ?_ | refine ex_i64 _ rfl (by omega) (by omega) ?_ | refine ex_u64 _ rfl (by omega) (by omega) ?_ | refine and_mk (by first | omega | (with_reducible rfl) | (show drawOk _ _ _ = true; kernel_rfl)) ?_ | refine and_mk ⟨_, rfl⟩ ?_ | refine ex_is _ (List.length_map _) ?_ | refine ex_is _ List.length_nil ?_ | fail "no step")
          exact ex_round (q + 1, .ptr 1 0, m ++ (cs.take (q + 1)).flatMap inL) ⟨by omega, .inr rfl, rfl⟩ (by show _ - _ < _ - _; omega) (SLe.ren [(0, 0), (1, 1), (4, 2)] ⟨⟨rfl, rfl⟩, ⟨rfl, rfl⟩, ⟨rfl, rfl⟩, ⟨rfl, rfl⟩, ⟨rfl, rfl⟩, trivial⟩ ⟨⟨rfl, rfl⟩, ⟨rfl, rfl⟩, ⟨rfl, rfl⟩, trivial⟩ rfl)
        · repeat' (first | refine ex_call hln ?_ | refine (ex_row q x rfl hc1) ?_ | refine ex_true (by first | decide | omega | assumption | (with_reducible exact rfl)) ?_ | refine ex_false (by first | decide | omega | assumption | exact (fun h => h rfl)) ?_ | refine ex_dec (fun _ => ?_) (fun _ => ?_) | refine ex_u8 _ rfl (by omega) (by omega) ?_ | refine ex_i64 _ rfl (by omega) (by omega) ?_ | refine ex_u64 _ rfl (by omega) (by omega) ?_ | refine and_mk (by first | omega | (with_reducible rfl) | (show drawOk _ _ _ = true; kernel_rfl)) ?_ | refine and_mk ⟨_, rfl⟩ ?_ | refine ex_is _ (List.length_map _) ?_ | refine ex_is _ List.length_nil ?_ | fail "no step")
          refine ex_callM (CallsM.ren (((hw (.ptr 0 0) (.inr rfl)).of0)) [1, 2] 4 rfl rfl rfl rfl) ?_
          repeat' (first | refine ex_i64 ((q + 1 : Nat) : Int) (by omega) (by omega) (by omega) ?_ | refine ex_u64 ((q + 1 : Nat) : Int) (by omega) (by omega) (by omega) ?_ | refine ex_u8 ((q + 1 : Nat) : Int) (by omega) (by omega) (by omega) ?_ | refine ex_true (by first | decide | omega | assumption | (with_reducible exact rfl)) ?_ | refine ex_false (by first | decide | omega | assumption | exact (fun h => h rfl)) ?_ | refine ex_dec (fun _ => ?_) (fun _ => ?_) | refine ex_u8 _ rfl (by omega) (by omega) ?_ | refine ex_i64 _ rfl (by omega) (by omega) ?_ | refine ex_u64 _ rfl (by omega) (by omega) ?_ | refine and_mk (by first | omega | (with_reducible rfl) | (show drawOk _ _ _ = true; kernel_rfl)) ?_ | refine and_mk ⟨_, rfl⟩ ?_ | refine ex_is _ (List.length_map _) ?_ | refine ex_is _ List.length_nil ?_ | fail "no step")
          exact ex_round (q + 1, .ptr 1 0, m ++ (cs.take (q + 1)).flatMap inL) ⟨by omega, .inr rfl, rfl⟩ (by show _ - _ < _ - _; omega) (SLe.ren [(0, 0), (1, 1), (4, 2)] ⟨⟨rfl, rfl⟩, ⟨rfl, rfl⟩, ⟨rfl, rfl⟩, ⟨rfl, rfl⟩, ⟨rfl, rfl⟩, trivial⟩ ⟨⟨rfl, rfl⟩, ⟨rfl, rfl⟩, ⟨rfl, rfl⟩, trivial⟩ rfl)
      · have hq9 : q = cs.length := by omega
        subst hq9
        rw [List.take_length] at hm'
        have hmt : m' = textF fs cs := by rw [hm', hm]; rfl
        rw [← hmt] at hne
        rcases hb with ⟨rfl, hm0⟩ | rfl
        · exact absurd hm0 hne
        · repeat' (first | refine ex_true (by first | decide | omega | assumption | (with_reducible exact rfl)) ?_ | refine ex_false (by first | decide | omega | assumption | exact (fun h => h rfl)) ?_ | refine ex_dec (fun _ => ?_) (fun _ => ?_) | refine ex_u8 _ rfl (by omega) (by omega) ?_ | refine ex_i64 _ rfl (by omega) (by omega) ?_ | refine ex_u64 _ rfl (by omega) (by omega) ?_ | refine and_mk (by first | omega | (with_reducible rfl) | (show drawOk _ _ _ = true; kernel_rfl)) ?_ | refine and_mk ⟨_, rfl⟩ ?_ | refine ex_is _ (List.length_map _) ?_ | refine ex_is _ List.length_nil ?_ | fail "no step")
          refine ex_callM (CallsM.ren (((String_c m' hne).of0)) [1, 2] 3 rfl rfl rfl rfl) ?_
          repeat' (first | refine ex_true (by first | decide | omega | assumption | (with_reducible exact rfl)) ?_ | refine ex_false (by first | decide | omega | assumption | exact (fun h => h rfl)) ?_ | refine ex_dec (fun _ => ?_) (fun _ => ?_) | refine ex_u8 _ rfl (by omega) (by omega) ?_ | refine ex_i64 _ rfl (by omega) (by omega) ?_ | refine ex_u64 _ rfl (by omega) (by omega) ?_ | refine and_mk (by first | omega | (with_reducible rfl) | (show drawOk _ _ _ = true; kernel_rfl)) ?_ | refine and_mk ⟨_, rfl⟩ ?_ | refine ex_is _ (List.length_map _) ?_ | refine ex_is _ List.length_nil ?_ | fail "no step")
          rw [hmt]
          exact TLe.rfl
end Go.Proofs.YtblobabhdmigiaaDoor

namespace Go.Proofs.YtblobabhdmigiaaDoor
set_option linter.unusedVariables false
set_option linter.unusedSimpArgs false
open Go.RowKit
set_option maxRecDepth 100000

theorem dig_u8 (d : Nat) (h : d < 10) : IntKind.u8.wrap (48 + IntKind.u8.wrap (d : Nat)) = ((UInt8.ofNat (48 + d)).toNat : Int) := by
  rw [wrap_un (k := .u8) (n := (d : Int)) rfl (by omega) (by show _ < (256 : Int); omega), wrap_un (k := .u8) rfl (by omega) (by show _ < (256 : Int); omega)]
  rw [UInt8.toNat_ofNat']
  show _ = (((48 + d) % 256 : Nat) : Int)
  omega
theorem bs_cons (c : UInt8) (l : List UInt8) : bs [c] ++ bs l = bs (c :: l) := bs_app [c] l
theorem digits_c (n : Nat) (hn : n < 18446744073709551616) : CallsA Tryd.prog Γ0 46 [c1 (du n)] (.o (c1 (ds (bs (Lib.decDigits n))))) := by
  obtain ⟨T, hT⟩ : ∃ T, Lib.decDigits n = T := ⟨_, rfl⟩
  have hTl : T.length ≤ 20 := hT ▸ dec_len n hn
  rw [hT]
  refine fn_rule (C := ⟨Tryd.prog, layF, Tryd.f46.ntmps, Γ0, 0, [], []⟩) layF_ok mixed Tryd.func46 rfl (by kernel_rfl) rfl rfl rfl ?_
  refine ex_loop (X := Nat × ByteArray) (fun ⟨m, s⟩ => ⟨[(0, Tu m), (3, Tstr s)], [], 0⟩) (fun x => x.1)
    (fun ⟨m, s⟩ => m ≤ n ∧ ∃ l, s = bs l ∧ Lib.decDigits m ++ l = T) (n, bs []) ⟨Nat.le_refl _, [], rfl, by rw [List.append_nil]; exact hT⟩ (SLe.of ⟨⟨rfl, rfl, trivial⟩, trivial⟩) ?_
  rintro ⟨m, s⟩ ⟨hm, l, rfl, hs⟩
  have hsl : (Lib.decDigits m).length + l.length ≤ 20 := by have := congrArg List.length hs; rw [List.length_append] at this; omega
  rw [Lib.decDigits] at hs
  refine ex_dec (fun h1 => ?_) (fun h1 => ?_)
  · rw [dif_neg (by omega)] at hs
    refine ⟨by decide, ?_⟩
    refine ex_is (((m % 10 : Nat) : Int)) (by rw [Int.tmod_eq_emod_of_nonneg (by omega)]; rfl) ?_
    refine ex_is _ rfl ?_
    refine ex_is (((UInt8.ofNat (48 + m % 10)).toNat : Int)) (dig_u8 _ (by omega)) ?_
    refine ⟨[UInt8.ofNat (48 + m % 10)], rfl, ?_⟩
    refine ⟨by rw [bs_size, bs_size, List.length_cons, List.length_nil]; omega, ?_⟩
    refine ⟨by decide, ?_⟩
    refine ex_u64 ((m / 10 : Nat) : Int) (by rw [Int.tdiv_eq_ediv_of_nonneg (by omega)]; rfl) (by omega) (by omega) ?_
    exact ex_round (m / 10, _) ⟨by omega, UInt8.ofNat (48 + m % 10) :: l, bs_cons _ _, by rw [← hs, List.append_assoc]; rfl⟩ (by show m / 10 < m; omega) (SLe.of ⟨⟨rfl, rfl, trivial⟩, trivial⟩)
  · rw [dif_pos (by omega)] at hs
    refine ex_is _ rfl ?_
    refine ex_is (((UInt8.ofNat (48 + m)).toNat : Int)) (dig_u8 _ (by omega)) ?_
    refine ⟨[UInt8.ofNat (48 + m)], rfl, ?_⟩
    refine ⟨by rw [bs_size, bs_size, List.length_cons, List.length_nil]; omega, ?_⟩
    exact TLe.eq (by show Tstr (bs [_] ++ bs l) = Tstr (bs T); rw [bs_app, hs])
theorem rop_c (o : Int) : CallsA Tryd.prog Γ0 7 [c1 (di o)] (.tup [c1 (ds (bs (opF o).1)), gD [di (opF o).2.1, di (opF o).2.2.1, di (opF o).2.2.2]]) := by
  unfold opF
  by_cases h : 0 ≤ o ∧ o < 36
  · rw [if_pos h]
    obtain ⟨k, rfl⟩ : ∃ k : Nat, o = k := ⟨o.toNat, by omega⟩
    have hk : k < 36 := by omega
    have hw : opsL[k]? = some (opsL.getD k noneR) := by
      have hl : opsL.length = 36 := by decide
      rw [List.getD, List.getElem?_eq_getElem (by omega)]; rfl
    have h1 : (opsL.map fun r => [ds (bs r.1)])[k]? = some [ds (bs (opsL.getD k noneR).1)] := by rw [List.getElem?_map, hw]; rfl
    have h2 : (opsL.map fun r => [di r.2.1, di r.2.2.1, di r.2.2.2])[k]? = some [di (opsL.getD k noneR).2.1, di (opsL.getD k noneR).2.2.1, di (opsL.getD k noneR).2.2.2] := by rw [List.getElem?_map, hw]; rfl
    rw [Int.toNat_natCast]
    generalize opsL.getD k noneR = r at *
    refine fn_rule (C := ⟨Tryd.prog, layF, Tryd.f7.ntmps, Γ0, 0, [], []⟩) layF_ok mixed Tryd.func7 rfl (by kernel_rfl) rfl rfl rfl ?_
    repeat' (first | refine ex_true (by first | decide | omega | assumption | (with_reducible exact rfl)) ?_ | refine ex_false (by first | decide | omega | assumption | exact (fun h => h rfl)) ?_ | refine ex_dec (fun _ => ?_) (fun _ => ?_) | refine ex_u8 _ rfl (by omega) (by omega) ?_ | refine ex_i64 _ rfl (by omega) (by omega) ?_ | refine ex_u64 _ rfl (by omega) (by omega) ?_ | refine and_mk (by first | omega | (with_reducible rfl) | (show drawOk _ _ _ = true; kernel_rfl)) ?_ | refine and_mk ⟨_, rfl⟩ ?_ | refine ex_is _ (List.length_map _) ?_ | refine ex_is _ List.length_nil ?_ | fail "no step")
    refine ⟨show k < (opsL.map fun r => [ds (bs r.1)]).length from (by rw [List.length_map]; exact hk), ?_⟩
    repeat' (first | refine ex_true (by first | decide | omega | assumption | (with_reducible exact rfl)) ?_ | refine ex_false (by first | decide | omega | assumption | exact (fun h => h rfl)) ?_ | refine ex_dec (fun _ => ?_) (fun _ => ?_) | refine ex_u8 _ rfl (by omega) (by omega) ?_ | refine ex_i64 _ rfl (by omega) (by omega) ?_ | refine ex_u64 _ rfl (by omega) (by omega) ?_ | refine and_mk (by first | omega | (with_reducible rfl) | (show drawOk _ _ _ = true; kernel_rfl)) ?_ | refine and_mk ⟨_, rfl⟩ ?_ | refine ex_is _ (List.length_map _) ?_ | refine ex_is _ List.length_nil ?_ | fail "no step")
    refine ⟨_, h1, ?_⟩
    repeat' (first | refine ex_true (by first | decide | omega | assumption | (with_reducible exact rfl)) ?_ | refine ex_false (by first | decide | omega | assumption | exact (fun h => h rfl)) ?_ | refine ex_dec (fun _ => ?_) (fun _ => ?_) | refine ex_u8 _ rfl (by omega) (by omega) ?_ | refine ex_i64 _ rfl (by omega) (by omega) ?_ | refine ex_u64 _ rfl (by omega) (by omega) ?_ | refine and_mk (by first | omega | (with_reducible rfl) | (show drawOk _ _ _ = true; kernel_rfl)) ?_ | refine and_mk ⟨_, rfl⟩ ?_ | refine ex_is _ (List.length_map _) ?_ | refine ex_is _ List.length_nil ?_ | fail "no step")
    refine ⟨show k < (opsL.map fun r => [di r.2.1, di r.2.2.1, di r.2.2.2]).length from (by rw [List.length_map]; exact hk), ?_⟩
    repeat' (first | refine ex_true (by first | decide | omega | assumption | (with_reducible exact rfl)) ?_ | refine ex_false (by first | decide | omega | assumption | exact (fun h => h rfl)) ?_ | refine ex_dec (fun _ => ?_) (fun _ => ?_) | refine ex_u8 _ rfl (by omega) (by omega) ?_ | refine ex_i64 _ rfl (by omega) (by omega) ?_ | refine ex_u64 _ rfl (by omega) (by omega) ?_ | refine and_mk (by first | omega | (with_reducible rfl) | (show drawOk _ _ _ = true; kernel_rfl)) ?_ | refine and_mk ⟨_, rfl⟩ ?_ | refine ex_is _ (List.length_map _) ?_ | refine ex_is _ List.length_nil ?_ | fail "no step")
    refine ⟨_, h2, ?_⟩
    repeat' (first | refine ex_true (by first | decide | omega | assumption | (with_reducible exact rfl)) ?_ | refine ex_false (by first | decide | omega | assumption | exact (fun h => h rfl)) ?_ | refine ex_dec (fun _ => ?_) (fun _ => ?_) | refine ex_u8 _ rfl (by omega) (by omega) ?_ | refine ex_i64 _ rfl (by omega) (by omega) ?_ | refine ex_u64 _ rfl (by omega) (by omega) ?_ | refine and_mk (by first | omega | (with_reducible rfl) | (show drawOk _ _ _ = true; kernel_rfl)) ?_ | refine and_mk ⟨_, rfl⟩ ?_ | refine ex_is _ (List.length_map _) ?_ | refine ex_is _ List.length_nil ?_ | fail "no step")
    exact TLe.rfl
  · rw [if_neg h]
    refine fn_rule (C := ⟨Tryd.prog, layF, Tryd.f7.ntmps, Γ0, 0, [], []⟩) layF_ok mixed Tryd.func7 rfl (by kernel_rfl) rfl rfl rfl ?_
    repeat' (first | refine ex_true (by first | decide | omega | assumption | (with_reducible exact rfl)) ?_ | refine ex_false (by first | decide | omega | assumption | exact (fun h => h rfl)) ?_ | refine ex_dec (fun _ => ?_) (fun _ => ?_) | refine ex_u8 _ rfl (by omega) (by omega) ?_ | refine ex_i64 _ rfl (by omega) (by omega) ?_ | refine ex_u64 _ rfl (by omega) (by omega) ?_ | refine and_mk (by first | omega | (with_reducible rfl) | (show drawOk _ _ _ = true; kernel_rfl)) ?_ | refine and_mk ⟨_, rfl⟩ ?_ | refine ex_is _ (List.length_map _) ?_ | refine ex_is _ List.length_nil ?_ | fail "no step")
    all_goals exact TLe.rfl
theorem rdig_c (n : Nat) (h : n < 18446744073709551616) : CallsA Tryd.prog Γ0 46 [c1 (du n)] (Tstr (bs (Lib.decDigits n))) := digits_c n h
theorem rdigits_c (z : Int) (hz : I64 z) : CallsA Tryd.prog Γ0 32 [c1 (di z)] (Tstr (bs (Lib.itoa z))) := by
  obtain ⟨h1, h2⟩ := hz
  unfold Lib.itoa
  by_cases h : z < 0
  · rw [if_pos h]
    have hd := rdig_c z.natAbs (by omega)
    have hl := dec_len z.natAbs (by omega)
    have hs := bs_size (Lib.decDigits z.natAbs)
    have hs2 : (⟨#[45]⟩ : ByteArray).size = 1 := rfl
    have he : (⟨#[45]⟩ : ByteArray) ++ bs (Lib.decDigits z.natAbs) = bs (45 :: Lib.decDigits z.natAbs) := bs_cons 45 _
    refine fn_rule (C := ⟨Tryd.prog, layF, Tryd.f32.ntmps, Γ0, 0, [], []⟩) layF_ok mixed Tryd.func32 rfl (by kernel_rfl) rfl rfl rfl ?_
    repeat' (first | refine ex_call hd ?_ | refine ex_i64 ((z.natAbs : Nat) : Int) (by omega) (by omega) (by omega) ?_ | refine ex_u64 ((z.natAbs : Nat) : Int) (by omega) (by omega) (by omega) ?_ | refine ex_u8 ((z.natAbs : Nat) : Int) (by omega) (by omega) (by omega) ?_ | refine ex_i64 (-(z + 1)) (by omega) (by omega) (by omega) ?_ | refine ex_u64 (-(z + 1)) (by omega) (by omega) (by omega) ?_ | refine ex_u8 (-(z + 1)) (by omega) (by omega) (by omega) ?_ | refine ex_i64 (z + 1) (by omega) (by omega) (by omega) ?_ | refine ex_u64 (z + 1) (by omega) (by omega) (by omega) ?_ | refine ex_u8 (z + 1) (by omega) (by omega) (by omega) ?_ | refine ex_true (by first | decide | omega | assumption | (with_reducible exact rfl)) ?_ | refine ex_false (by first | decide | omega | assumption | exact (fun h => h rfl)) ?_ | refine ex_dec (fun _ => ?_) (fun _ => ?_) | refine ex_u8 _ rfl (by omega) (by omega) ?_ | refine ex_i64 _ rfl (by omega) (by omega) ?_ | refine ex_u64 _ rfl (by omega) (by omega) ?_ | refine and_mk (by first | omega | (with_reducible rfl) | (show drawOk _ _ _ = true; kernel_rfl)) ?_ | refine and_mk ⟨_, rfl⟩ ?_ | refine ex_is _ (List.length_map _) ?_ | refine ex_is _ List.length_nil ?_ | fail "no step")
    exact TLe.eq (by show Tstr ((⟨#[45]⟩ : ByteArray) ++ bs _) = _; rw [he])
  · rw [if_neg h]
    have hd := rdig_c z.toNat (by omega)
    refine fn_rule (C := ⟨Tryd.prog, layF, Tryd.f32.ntmps, Γ0, 0, [], []⟩) layF_ok mixed Tryd.func32 rfl (by kernel_rfl) rfl rfl rfl ?_
    repeat' (first | refine ex_call hd ?_ | refine ex_i64 ((z.toNat : Nat) : Int) (by omega) (by omega) (by omega) ?_ | refine ex_u64 ((z.toNat : Nat) : Int) (by omega) (by omega) (by omega) ?_ | refine ex_u8 ((z.toNat : Nat) : Int) (by omega) (by omega) (by omega) ?_ | refine ex_true (by first | decide | omega | assumption | (with_reducible exact rfl)) ?_ | refine ex_false (by first | decide | omega | assumption | exact (fun h => h rfl)) ?_ | refine ex_dec (fun _ => ?_) (fun _ => ?_) | refine ex_u8 _ rfl (by omega) (by omega) ?_ | refine ex_i64 _ rfl (by omega) (by omega) ?_ | refine ex_u64 _ rfl (by omega) (by omega) ?_ | refine and_mk (by first | omega | (with_reducible rfl) | (show drawOk _ _ _ = true; kernel_rfl)) ?_ | refine and_mk ⟨_, rfl⟩ ?_ | refine ex_is _ (List.length_map _) ?_ | refine ex_is _ List.length_nil ?_ | fail "no step")
    exact TLe.rfl
theorem rline_c (x : IN) (hx : InB x) : CallsA Tryd.prog Γ0 33 [gD (inD x)] (Tstr (bs (lineF x))) := by
  obtain ⟨o, a, b, n⟩ := x
  obtain ⟨ha, hb, hn⟩ := hx
  obtain ⟨hh, hw6⟩ := opF_has o
  have hop := rop_c o
  have hd := rdig_c n hn
  have hda := rdigits_c a ha
  have hdb := rdigits_c b hb
  have hl1 := dec_len n hn
  have hl2 := itoa_len ha
  have hl3 := itoa_len hb
  have hz1 := bs_size (Lib.decDigits n)
  have hz2 := bs_size (Lib.itoa a)
  have hz3 := bs_size (Lib.itoa b)
  have hz4 : (⟨#[32]⟩ : ByteArray).size = 1 := rfl
  have e1 : ∀ w : List UInt8, bs w ++ (⟨#[32]⟩ : ByteArray) = bs (w ++ [32]) := fun w => bs_app w [32]
  change CallsA Tryd.prog Γ0 33 [gD [di o, di a, di b, du n]] _
  unfold lineF
  dsimp only at *
  generalize opF o = r at *
  obtain ⟨w, h, t, p⟩ := r
  have hop : CallsA Tryd.prog Γ0 7 [c1 (di o)] (.tup [c1 (ds (bs w)), gD [di h, di t, di p]]) := hop
  dsimp only at *
  have hws := bs_size w
  rcases w with _ | ⟨c, w⟩
  ·
    refine fn_rule (C := ⟨Tryd.prog, layF, Tryd.f33.ntmps, Γ0, 0, [], []⟩) layF_ok mixed Tryd.func33 rfl (by kernel_rfl) rfl rfl rfl ?_
    repeat' (first | refine ex_call hop ?_ | refine ex_true (by first | decide | omega | assumption | (with_reducible exact rfl)) ?_ | refine ex_false (by first | decide | omega | assumption | exact (fun h => h rfl)) ?_ | refine ex_dec (fun _ => ?_) (fun _ => ?_) | refine ex_u8 _ rfl (by omega) (by omega) ?_ | refine ex_i64 _ rfl (by omega) (by omega) ?_ | refine ex_u64 _ rfl (by omega) (by omega) ?_ | refine and_mk (by first | omega | (with_reducible rfl) | (show drawOk _ _ _ = true; kernel_rfl)) ?_ | refine and_mk ⟨_, rfl⟩ ?_ | refine ex_is _ (List.length_map _) ?_ | refine ex_is _ List.length_nil ?_ | fail "no step")
    exact TLe.rfl
  · change CallsA Tryd.prog Γ0 33 _ (Tstr (bs (if o = 0 then (c :: w) ++ 32 :: Lib.decDigits n else (c :: w) ++ ([a, b].take h).flatMap arg)))
    have hne : bs (c :: w) ≠ ByteArray.empty := fun e => by have := congrArg ByteArray.size e; rw [bs_size] at this; cases this
    generalize c :: w = w at *
    have hs1 := bs_size (w ++ [32])
    rw [List.length_append, List.length_cons, List.length_nil] at hs1
    by_cases h0 : o = 0
    · rw [if_pos h0]
      refine fn_rule (C := ⟨Tryd.prog, layF, Tryd.f33.ntmps, Γ0, 0, [], []⟩) layF_ok mixed Tryd.func33 rfl (by kernel_rfl) rfl rfl rfl ?_
      repeat' (first | refine ex_call hd ?_ | refine ex_call hop ?_ | refine ex_true (by first | decide | omega | assumption | (with_reducible exact rfl)) ?_ | refine ex_false (by first | decide | omega | assumption | exact (fun h => h rfl)) ?_ | refine ex_dec (fun _ => ?_) (fun _ => ?_) | refine ex_u8 _ rfl (by omega) (by omega) ?_ | refine ex_i64 _ rfl (by omega) (by omega) ?_ | refine ex_u64 _ rfl (by omega) (by omega) ?_ | refine and_mk (by first | omega | (with_reducible rfl) | (show drawOk _ _ _ = true; kernel_rfl)) ?_ | refine and_mk ⟨_, rfl⟩ ?_ | refine ex_is _ (List.length_map _) ?_ | refine ex_is _ List.length_nil ?_ | fail "no step")
      rw [e1]
      repeat' (first | refine ex_true (by first | decide | omega | assumption | (with_reducible exact rfl)) ?_ | refine ex_false (by first | decide | omega | assumption | exact (fun h => h rfl)) ?_ | refine ex_dec (fun _ => ?_) (fun _ => ?_) | refine ex_u8 _ rfl (by omega) (by omega) ?_ | refine ex_i64 _ rfl (by omega) (by omega) ?_ | refine ex_u64 _ rfl (by omega) (by omega) ?_ | refine and_mk (by first | omega | (with_reducible rfl) | (show drawOk _ _ _ = true; kernel_rfl)) ?_ | refine and_mk ⟨_, rfl⟩ ?_ | refine ex_is _ (List.length_map _) ?_ | refine ex_is _ List.length_nil ?_ | fail "no step")
      rw [bs_app]
      exact TLe.eq (by rw [List.append_assoc]; rfl)
    · rw [if_neg h0]
      obtain rfl | rfl | rfl : h = 0 ∨ h = 1 ∨ h = 2 := by omega
      ·
        refine fn_rule (C := ⟨Tryd.prog, layF, Tryd.f33.ntmps, Γ0, 0, [], []⟩) layF_ok mixed Tryd.func33 rfl (by kernel_rfl) rfl rfl rfl ?_
        repeat' (first | refine ex_call hdb ?_ | refine ex_call hda ?_ | refine ex_call hop ?_ | refine (ex_false (show ¬ (1 : Int) < 0 by decide)) ?_ | refine (ex_false (show ¬ (0 : Int) < 0 by decide)) ?_ | refine ex_true (by first | decide | omega | assumption | (with_reducible exact rfl)) ?_ | refine ex_false (by first | decide | omega | assumption | exact (fun h => h rfl)) ?_ | refine ex_dec (fun _ => ?_) (fun _ => ?_) | refine ex_u8 _ rfl (by omega) (by omega) ?_ | refine ex_i64 _ rfl (by omega) (by omega) ?_ | refine ex_u64 _ rfl (by omega) (by omega) ?_ | refine and_mk (by first | omega | (with_reducible rfl) | (show drawOk _ _ _ = true; kernel_rfl)) ?_ | refine and_mk ⟨_, rfl⟩ ?_ | refine ex_is _ (List.length_map _) ?_ | refine ex_is _ List.length_nil ?_ | fail "no step")
        exact TLe.eq (by show Tstr (bs w) = Tstr (bs (w ++ [])); rw [List.append_nil])
      ·
        refine fn_rule (C := ⟨Tryd.prog, layF, Tryd.f33.ntmps, Γ0, 0, [], []⟩) layF_ok mixed Tryd.func33 rfl (by kernel_rfl) rfl rfl rfl ?_
        repeat' (first | refine ex_call hdb ?_ | refine ex_call hda ?_ | refine ex_call hop ?_ | refine (ex_false (show ¬ (1 : Int) < 1 by decide)) ?_ | refine (ex_true (show (0 : Int) < 1 by decide)) ?_ | refine (ex_false (show ¬ (0 : Int) < 0 by decide)) ?_ | refine ex_true (by first | decide | omega | assumption | (with_reducible exact rfl)) ?_ | refine ex_false (by first | decide | omega | assumption | exact (fun h => h rfl)) ?_ | refine ex_dec (fun _ => ?_) (fun _ => ?_) | refine ex_u8 _ rfl (by omega) (by omega) ?_ | refine ex_i64 _ rfl (by omega) (by omega) ?_ | refine ex_u64 _ rfl (by omega) (by omega) ?_ | refine and_mk (by first | omega | (with_reducible rfl) | (show drawOk _ _ _ = true; kernel_rfl)) ?_ | refine and_mk ⟨_, rfl⟩ ?_ | refine ex_is _ (List.length_map _) ?_ | refine ex_is _ List.length_nil ?_ | fail "no step")
        rw [e1]
        repeat' (first | refine ex_call hdb ?_ | refine ex_call hda ?_ | refine (ex_false (show ¬ (1 : Int) < 1 by decide)) ?_ | refine (ex_true (show (0 : Int) < 1 by decide)) ?_ | refine ex_true (by first | decide | omega | assumption | (with_reducible exact rfl)) ?_ | refine ex_false (by first | decide | omega | assumption | exact (fun h => h rfl)) ?_ | refine ex_dec (fun _ => ?_) (fun _ => ?_) | refine ex_u8 _ rfl (by omega) (by omega) ?_ | refine ex_i64 _ rfl (by omega) (by omega) ?_ | refine ex_u64 _ rfl (by omega) (by omega) ?_ | refine and_mk (by first | omega | (with_reducible rfl) | (show drawOk _ _ _ = true; kernel_rfl)) ?_ | refine and_mk ⟨_, rfl⟩ ?_ | refine ex_is _ (List.length_map _) ?_ | refine ex_is _ List.length_nil ?_ | fail "no step")
        exact TLe.eq (by show Tstr (bs _ ++ bs _) = _; rw [bs_app, List.append_assoc]; simp [arg])
      ·
        refine fn_rule (C := ⟨Tryd.prog, layF, Tryd.f33.ntmps, Γ0, 0, [], []⟩) layF_ok mixed Tryd.func33 rfl (by kernel_rfl) rfl rfl rfl ?_
        repeat' (first | refine ex_call hdb ?_ | refine ex_call hda ?_ | refine ex_call hop ?_ | refine (ex_true (show (1 : Int) < 2 by decide)) ?_ | refine (ex_true (show (0 : Int) < 2 by decide)) ?_ | refine ex_true (by first | decide | omega | assumption | (with_reducible exact rfl)) ?_ | refine ex_false (by first | decide | omega | assumption | exact (fun h => h rfl)) ?_ | refine ex_dec (fun _ => ?_) (fun _ => ?_) | refine ex_u8 _ rfl (by omega) (by omega) ?_ | refine ex_i64 _ rfl (by omega) (by omega) ?_ | refine ex_u64 _ rfl (by omega) (by omega) ?_ | refine and_mk (by first | omega | (with_reducible rfl) | (show drawOk _ _ _ = true; kernel_rfl)) ?_ | refine and_mk ⟨_, rfl⟩ ?_ | refine ex_is _ (List.length_map _) ?_ | refine ex_is _ List.length_nil ?_ | fail "no step")
        rw [e1]
        repeat' (first | refine ex_call hdb ?_ | refine ex_call hda ?_ | refine (ex_true (show (1 : Int) < 2 by decide)) ?_ | refine (ex_true (show (0 : Int) < 2 by decide)) ?_ | refine ex_true (by first | decide | omega | assumption | (with_reducible exact rfl)) ?_ | refine ex_false (by first | decide | omega | assumption | exact (fun h => h rfl)) ?_ | refine ex_dec (fun _ => ?_) (fun _ => ?_) | refine ex_u8 _ rfl (by omega) (by omega) ?_ | refine ex_i64 _ rfl (by omega) (by omega) ?_ | refine ex_u64 _ rfl (by omega) (by omega) ?_ | refine and_mk (by first | omega | (with_reducible rfl) | (show drawOk _ _ _ = true; kernel_rfl)) ?_ | refine and_mk ⟨_, rfl⟩ ?_ | refine ex_is _ (List.length_map _) ?_ | refine ex_is _ List.length_nil ?_ | fail "no step")
        have hs2 := bs_size (w ++ [32] ++ Lib.itoa a)
        have hs3 := bs_size (w ++ [32] ++ Lib.itoa a ++ [32])
        rw [List.length_append, List.length_append, List.length_cons, List.length_nil] at hs2
        rw [List.length_append, List.length_append, List.length_append, List.length_cons, List.length_nil] at hs3
        rw [bs_app]
        repeat' (first | refine ex_true (by first | decide | omega | assumption | (with_reducible exact rfl)) ?_ | refine ex_false (by first | decide | omega | assumption | exact (fun h => h rfl)) ?_ | refine ex_dec (fun _ => ?_) (fun _ => ?_) | refine ex_u8 _ rfl (by omega) (by omega) ?_ | refine ex_i64 _ rfl (by omega) (by omega) ?_ | refine ex_u64 _ rfl (by omega) (by omega) ?_ | refine and_mk (by first | omega | (with_reducible rfl) | (show drawOk _ _ _ = true; kernel_rfl)) ?_ | refine and_mk ⟨_, rfl⟩ ?_ | refine ex_is _ (List.length_map _) ?_ | refine ex_is _ List.length_nil ?_ | fail "no step")
        rw [e1]
        repeat' (first | refine ex_true (by first | decide | omega | assumption | (with_reducible exact rfl)) ?_ | refine ex_false (by first | decide | omega | assumption | exact (fun h => h rfl)) ?_ | refine ex_dec (fun _ => ?_) (fun _ => ?_) | refine ex_u8 _ rfl (by omega) (by omega) ?_ | refine ex_i64 _ rfl (by omega) (by omega) ?_ | refine ex_u64 _ rfl (by omega) (by omega) ?_ | refine and_mk (by first | omega | (with_reducible rfl) | (show drawOk _ _ _ = true; kernel_rfl)) ?_ | refine and_mk ⟨_, rfl⟩ ?_ | refine ex_is _ (List.length_map _) ?_ | refine ex_is _ List.length_nil ?_ | fail "no step")
        exact TLe.eq (by show Tstr (bs _ ++ bs _) = _; rw [bs_app]; simp [arg])
theorem rText_c (fs : List FN) (cs : List IN) (hf : fs.length ≤ 200) (hc : cs.length ≤ 200) (hfb : ∀ f ∈ fs, FnB f) (hcb : ∀ x ∈ cs, InB x) :
    CallsA Tryd.prog Γ0 15 [gD [.sl 3 (fs.map fnD), .sl 4 (cs.map inD)]] (Tstr (bs (textF fs cs))) := by
  have hfl := flat_len (fun f hm => fnL_len (hfb f hm))
  have hfm : (fs.map fnD).length = fs.length := List.length_map _
  have hcm : (cs.map inD).length = cs.length := List.length_map _
  have e1 : ∀ w : List UInt8, bs w ++ (⟨#[32]⟩ : ByteArray) = bs (w ++ [32]) := fun w => bs_app w [32]
  have e2 : ∀ w : List UInt8, bs w ++ (⟨#[10]⟩ : ByteArray) = bs (w ++ [10]) := fun w => bs_app w [10]
  have e3 : ∀ w : List UInt8, bs w ++ (⟨#[102, 117, 110, 99]⟩ : ByteArray) = bs (w ++ funcS) := fun w => bs_app w funcS
  have z1 : (⟨#[32]⟩ : ByteArray).size = 1 := rfl
  have z2 : (⟨#[10]⟩ : ByteArray).size = 1 := rfl
  have z3 : (⟨#[102, 117, 110, 99]⟩ : ByteArray).size = 4 := rfl
  refine fn_rule (C := ⟨Tryd.prog, layF, Tryd.f15.ntmps, Γ0, 0, [], []⟩) layF_ok mixed Tryd.func15 rfl (by kernel_rfl) rfl rfl rfl ?_
  repeat' (first | refine ex_true (by first | decide | omega | assumption | (with_reducible exact rfl)) ?_ | refine ex_false (by first | decide | omega | assumption | exact (fun h => h rfl)) ?_ | refine ex_dec (fun _ => ?_) (fun _ => ?_) | refine ex_u8 _ rfl (by omega) (by omega) ?_ | refine ex_i64 _ rfl (by omega) (by omega) ?_ | refine ex_u64 _ rfl (by omega) (by omega) ?_ | refine and_mk (by first | omega | (with_reducible rfl) | (show drawOk _ _ _ = true; kernel_rfl)) ?_ | refine and_mk ⟨_, rfl⟩ ?_ | refine ex_is _ (List.length_map _) ?_ | refine ex_is _ List.length_nil ?_ | fail "no step")
  refine ex_loop (X := Nat × List UInt8) (fun ⟨q, m⟩ => ⟨[(1, .o (.c (.ptr 0 0))), (3, Tstr (bs m)), (4, Ti q)], [(0, .obj [.d (.sl 3 (fs.map fnD)), .d (.sl 4 (cs.map inD))])], 1⟩) (fun x => fs.length - x.1)
    (fun ⟨q, m⟩ => q ≤ fs.length ∧ m = (fs.take q).flatMap fnL) (0, []) ⟨Nat.zero_le _, by simp⟩ (SLe.of ⟨⟨rfl, rfl, rfl, trivial⟩, ⟨rfl, trivial⟩⟩) ?_
  rintro ⟨q, m⟩ ⟨hq, hm⟩
  have hq2 : (fs.take q).length ≤ 200 := by rw [List.length_take]; omega
  have hml : m.length ≤ 80 * 200 := by
    rw [hm]
    have := flat_len (l := fs.take q) (g := fnL) (fun f hm => fnL_len (hfb f (List.mem_of_mem_take hm)))
    exact Nat.le_trans this (Nat.mul_le_mul_left _ hq2)
  have hms := bs_size m
  refine ex_is _ hfm ?_
  refine ex_dec (fun h => ?_) (fun h => ?_)
  · have hql : q < fs.length := by omega
    have hc1 : fs[q]? = some fs[q] := at_some hql
    have hb := hfb fs[q] (List.getElem_mem hql)
    have htk : fs.take (q + 1) = fs.take q ++ [fs[q]] := by rw [List.take_add_one, hc1]; rfl
    generalize fs[q] = f at *
    obtain ⟨he, hs, hp⟩ := hb
    have hs4 : (m ++ funcS).length = m.length + 4 := by rw [List.length_append]; rfl
    repeat' (first | refine ex_true (by first | decide | omega | assumption | (with_reducible exact rfl)) ?_ | refine ex_false (by first | decide | omega | assumption | exact (fun h => h rfl)) ?_ | refine ex_dec (fun _ => ?_) (fun _ => ?_) | refine ex_u8 _ rfl (by omega) (by omega) ?_ | refine ex_i64 _ rfl (by omega) (by omega) ?_ | refine ex_u64 _ rfl (by omega) (by omega) ?_ | refine and_mk (by first | omega | (with_reducible rfl) | (show drawOk _ _ _ = true; kernel_rfl)) ?_ | refine and_mk ⟨_, rfl⟩ ?_ | refine ex_is _ (List.length_map _) ?_ | refine ex_is _ List.length_nil ?_ | fail "no step")
    rw [e3]
    refine ex_loop (X := Nat × List UInt8) (fun ⟨k, m'⟩ => ⟨[(1, .o (.c (.ptr 0 0))), (3, Tstr (bs m')), (4, Ti q), (5, Ti k)], [(0, .obj [.d (.sl 3 (fs.map fnD)), .d (.sl 4 (cs.map inD))])], 1⟩) (fun x => 3 - x.1)
      (fun ⟨k, m'⟩ => k ≤ 3 ∧ m' = m ++ funcS ++ ([f.e, f.s, f.p].take k).flatMap arg) (0, m ++ funcS) ⟨Nat.zero_le _, by simp⟩ (SLe.of ⟨⟨rfl, rfl, rfl, rfl, trivial⟩, ⟨rfl, trivial⟩⟩) ?_
    rintro ⟨k, m'⟩ ⟨hk, hm'⟩
    have hal := args_len ([f.e, f.s, f.p].take k) (fun z hz => by
      have := List.mem_of_mem_take hz
      simp at this
      rcases this with rfl | rfl | rfl <;> assumption)
    rw [List.length_take] at hal
    have hml2 : m'.length ≤ 80 * 200 + 100 := by rw [hm', List.length_append, hs4]; simp only [List.length_cons, List.length_nil] at hal; omega
    have hms' := bs_size m'
    have hz4 := bs_size (m' ++ [32])
    rw [List.length_append, List.length_cons, List.length_nil] at hz4
    have round : ∀ z : Int, I64 z → ([f.e, f.s, f.p].take (k + 1)).flatMap arg = ([f.e, f.s, f.p].take k).flatMap arg ++ arg z → m' ++ [32] ++ Lib.itoa z = m ++ funcS ++ ([f.e, f.s, f.p].take (k + 1)).flatMap arg := fun z _ h => by
      rw [h, hm']; simp [arg]
    obtain rfl | rfl | rfl | rfl : k = 0 ∨ k = 1 ∨ k = 2 ∨ k = 3 := by omega
    · have hi := rdigits_c f.e he
      have hl := itoa_len he
      have hz := bs_size (Lib.itoa f.e)
      repeat' (first | refine ex_call hi ?_ | refine (ex_is [di f.e, di f.s, di f.p] rfl) ?_ | refine (ex_row q f rfl hc1) ?_ | refine (ex_true (show (0 : Int) < 3 by decide)) ?_ | refine ex_true (by first | decide | omega | assumption | (with_reducible exact rfl)) ?_ | refine ex_false (by first | decide | omega | assumption | exact (fun h => h rfl)) ?_ | refine ex_dec (fun _ => ?_) (fun _ => ?_) | refine ex_u8 _ rfl (by omega) (by omega) ?_ | refine ex_i64 _ rfl (by omega) (by omega) ?_ | refine ex_u64 _ rfl (by omega) (by omega) ?_ | refine and_mk (by first | omega | (with_reducible rfl) | (show drawOk _ _ _ = true; kernel_rfl)) ?_ | refine and_mk ⟨_, rfl⟩ ?_ | refine ex_is _ (List.length_map _) ?_ | refine ex_is _ List.length_nil ?_ | fail "no step")
      rw [e1]
      repeat' (first | refine ex_call hi ?_ | refine ex_i64 ((1 : Nat) : Int) (by omega) (by omega) (by omega) ?_ | refine ex_u64 ((1 : Nat) : Int) (by omega) (by omega) (by omega) ?_ | refine ex_u8 ((1 : Nat) : Int) (by omega) (by omega) (by omega) ?_ | refine ex_true (by first | decide | omega | assumption | (with_reducible exact rfl)) ?_ | refine ex_false (by first | decide | omega | assumption | exact (fun h => h rfl)) ?_ | refine ex_dec (fun _ => ?_) (fun _ => ?_) | refine ex_u8 _ rfl (by omega) (by omega) ?_ | refine ex_i64 _ rfl (by omega) (by omega) ?_ | refine ex_u64 _ rfl (by omega) (by omega) ?_ | refine and_mk (by first | omega | (with_reducible rfl) | (show drawOk _ _ _ = true; kernel_rfl)) ?_ | refine and_mk ⟨_, rfl⟩ ?_ | refine ex_is _ (List.length_map _) ?_ | refine ex_is _ List.length_nil ?_ | fail "no step")
      rw [bs_app]
      exact ex_round (1, m' ++ [32] ++ Lib.itoa f.e) ⟨by decide, round f.e he (by simp)⟩ (show (3 - 1 : Nat) < 3 - 0 from by decide) (SLe.of ⟨⟨rfl, rfl, rfl, rfl, trivial⟩, ⟨rfl, trivial⟩⟩)
    · have hi := rdigits_c f.s hs
      have hl := itoa_len hs
      have hz := bs_size (Lib.itoa f.s)
      repeat' (first | refine ex_call hi ?_ | refine (ex_is [di f.s, di f.p] rfl) ?_ | refine (ex_row q f rfl hc1) ?_ | refine (ex_true (show (1 : Int) < 3 by decide)) ?_ | refine ex_true (by first | decide | omega | assumption | (with_reducible exact rfl)) ?_ | refine ex_false (by first | decide | omega | assumption | exact (fun h => h rfl)) ?_ | refine ex_dec (fun _ => ?_) (fun _ => ?_) | refine ex_u8 _ rfl (by omega) (by omega) ?_ | refine ex_i64 _ rfl (by omega) (by omega) ?_ | refine ex_u64 _ rfl (by omega) (by omega) ?_ | refine and_mk (by first | omega | (with_reducible rfl) | (show drawOk _ _ _ = true; kernel_rfl)) ?_ | refine and_mk ⟨_, rfl⟩ ?_ | refine ex_is _ (List.length_map _) ?_ | refine ex_is _ List.length_nil ?_ | fail "no step")
      rw [e1]
      repeat' (first | refine ex_call hi ?_ | refine ex_i64 ((2 : Nat) : Int) (by omega) (by omega) (by omega) ?_ | refine ex_u64 ((2 : Nat) : Int) (by omega) (by omega) (by omega) ?_ | refine ex_u8 ((2 : Nat) : Int) (by omega) (by omega) (by omega) ?_ | refine ex_true (by first | decide | omega | assumption | (with_reducible exact rfl)) ?_ | refine ex_false (by first | decide | omega | assumption | exact (fun h => h rfl)) ?_ | refine ex_dec (fun _ => ?_) (fun _ => ?_) | refine ex_u8 _ rfl (by omega) (by omega) ?_ | refine ex_i64 _ rfl (by omega) (by omega) ?_ | refine ex_u64 _ rfl (by omega) (by omega) ?_ | refine and_mk (by first | omega | (with_reducible rfl) | (show drawOk _ _ _ = true; kernel_rfl)) ?_ | refine and_mk ⟨_, rfl⟩ ?_ | refine ex_is _ (List.length_map _) ?_ | refine ex_is _ List.length_nil ?_ | fail "no step")
      rw [bs_app]
      exact ex_round (2, m' ++ [32] ++ Lib.itoa f.s) ⟨by decide, round f.s hs (by simp)⟩ (show (3 - 2 : Nat) < 3 - 1 from by decide) (SLe.of ⟨⟨rfl, rfl, rfl, rfl, trivial⟩, ⟨rfl, trivial⟩⟩)
    · have hi := rdigits_c f.p hp
      have hl := itoa_len hp
      have hz := bs_size (Lib.itoa f.p)
      repeat' (first | refine ex_call hi ?_ | refine (ex_is [di f.p] rfl) ?_ | refine (ex_row q f rfl hc1) ?_ | refine (ex_true (show (2 : Int) < 3 by decide)) ?_ | refine ex_true (by first | decide | omega | assumption | (with_reducible exact rfl)) ?_ | refine ex_false (by first | decide | omega | assumption | exact (fun h => h rfl)) ?_ | refine ex_dec (fun _ => ?_) (fun _ => ?_) | refine ex_u8 _ rfl (by omega) (by omega) ?_ | refine ex_i64 _ rfl (by omega) (by omega) ?_ | refine ex_u64 _ rfl (by omega) (by omega) ?_ | refine and_mk (by first | omega | (with_reducible rfl) | (show drawOk _ _ _ = true; kernel_rfl)) ?_ | refine and_mk ⟨_, rfl⟩ ?_ | refine ex_is _ (List.length_map _) ?_ | refine ex_is _ List.length_nil ?_ | fail "no step")
      rw [e1]
      repeat' (first | refine ex_call hi ?_ | refine ex_i64 ((3 : Nat) : Int) (by omega) (by omega) (by omega) ?_ | refine ex_u64 ((3 : Nat) : Int) (by omega) (by omega) (by omega) ?_ | refine ex_u8 ((3 : Nat) : Int) (by omega) (by omega) (by omega) ?_ | refine ex_true (by first | decide | omega | assumption | (with_reducible exact rfl)) ?_ | refine ex_false (by first | decide | omega | assumption | exact (fun h => h rfl)) ?_ | refine ex_dec (fun _ => ?_) (fun _ => ?_) | refine ex_u8 _ rfl (by omega) (by omega) ?_ | refine ex_i64 _ rfl (by omega) (by omega) ?_ | refine ex_u64 _ rfl (by omega) (by omega) ?_ | refine and_mk (by first | omega | (with_reducible rfl) | (show drawOk _ _ _ = true; kernel_rfl)) ?_ | refine and_mk ⟨_, rfl⟩ ?_ | refine ex_is _ (List.length_map _) ?_ | refine ex_is _ List.length_nil ?_ | fail "no step")
      rw [bs_app]
      exact ex_round (3, m' ++ [32] ++ Lib.itoa f.p) ⟨by decide, round f.p hp (by simp)⟩ (show (3 - 3 : Nat) < 3 - 2 from by decide) (SLe.of ⟨⟨rfl, rfl, rfl, rfl, trivial⟩, ⟨rfl, trivial⟩⟩)
    · repeat' (first | refine (ex_false (show ¬ (3 : Int) < 3 by decide)) ?_ | refine ex_true (by first | decide | omega | assumption | (with_reducible exact rfl)) ?_ | refine ex_false (by first | decide | omega | assumption | exact (fun h => h rfl)) ?_ | refine ex_dec (fun _ => ?_) (fun _ => ?_) | refine ex_u8 _ rfl (by omega) (by omega) ?_ | refine ex_i64 _ rfl (by omega) (by omega) ?_ | refine ex_u64 _ rfl (by omega) (by omega) ?_ | refine and_mk (by first | omega | (with_reducible rfl) | (show drawOk _ _ _ = true; kernel_rfl)) ?_ | refine and_mk ⟨_, rfl⟩ ?_ | refine ex_is _ (List.length_map _) ?_ | refine ex_is _ List.length_nil ?_ | fail "no step")
      rw [e2]
      repeat' (first | refine ex_i64 ((q + 1 : Nat) : Int) (by omega) (by omega) (by omega) ?_ | refine ex_u64 ((q + 1 : Nat) : Int) (by omega) (by omega) (by omega) ?_ | refine ex_u8 ((q + 1 : Nat) : Int) (by omega) (by omega) (by omega) ?_ | refine ex_true (by first | decide | omega | assumption | (with_reducible exact rfl)) ?_ | refine ex_false (by first | decide | omega | assumption | exact (fun h => h rfl)) ?_ | refine ex_dec (fun _ => ?_) (fun _ => ?_) | refine ex_u8 _ rfl (by omega) (by omega) ?_ | refine ex_i64 _ rfl (by omega) (by omega) ?_ | refine ex_u64 _ rfl (by omega) (by omega) ?_ | refine and_mk (by first | omega | (with_reducible rfl) | (show drawOk _ _ _ = true; kernel_rfl)) ?_ | refine and_mk ⟨_, rfl⟩ ?_ | refine ex_is _ (List.length_map _) ?_ | refine ex_is _ List.length_nil ?_ | fail "no step")
      exact ex_round (q + 1, m' ++ [10]) ⟨by omega, by rw [htk, List.flatMap_append, ← hm, hm']; simp [fnL, fnF]⟩ (by show _ - _ < _ - _; omega) (SLe.of ⟨⟨rfl, rfl, rfl, trivial⟩, ⟨rfl, trivial⟩⟩)
  · have hq9 : q = fs.length := by omega
    subst hq9
    rw [List.take_length] at hm
    repeat' (first | refine ex_true (by first | decide | omega | assumption | (with_reducible exact rfl)) ?_ | refine ex_false (by first | decide | omega | assumption | exact (fun h => h rfl)) ?_ | refine ex_dec (fun _ => ?_) (fun _ => ?_) | refine ex_u8 _ rfl (by omega) (by omega) ?_ | refine ex_i64 _ rfl (by omega) (by omega) ?_ | refine ex_u64 _ rfl (by omega) (by omega) ?_ | refine and_mk (by first | omega | (with_reducible rfl) | (show drawOk _ _ _ = true; kernel_rfl)) ?_ | refine and_mk ⟨_, rfl⟩ ?_ | refine ex_is _ (List.length_map _) ?_ | refine ex_is _ List.length_nil ?_ | fail "no step")
    refine ex_loop (X := Nat × List UInt8) (fun ⟨q, m⟩ => ⟨[(1, .o (.c (.ptr 0 0))), (3, Tstr (bs m)), (7, Ti q)], [(0, .obj [.d (.sl 3 (fs.map fnD)), .d (.sl 4 (cs.map inD))])], 1⟩) (fun x => cs.length - x.1)
      (fun ⟨q, m'⟩ => q ≤ cs.length ∧ m' = m ++ (cs.take q).flatMap inL) (0, m) ⟨Nat.zero_le _, by simp⟩ (SLe.of ⟨⟨rfl, rfl, rfl, trivial⟩, ⟨rfl, trivial⟩⟩) ?_
    rintro ⟨q, m'⟩ ⟨hq, hm'⟩
    have hq2 : (cs.take q).length ≤ 200 := by rw [List.length_take]; omega
    have hml2 : m'.length ≤ 80 * 400 := by
      rw [hm', List.length_append]
      have := flat_len (l := cs.take q) (g := inL) (fun f hm => inL_len (hcb f (List.mem_of_mem_take hm)))
      have := Nat.le_trans this (Nat.mul_le_mul_left _ hq2)
      omega
    have hms' := bs_size m'
    refine ex_is _ hcm ?_
    refine ex_dec (fun h2 => ?_) (fun h2 => ?_)
    · have hql : q < cs.length := by omega
      have hc1 : cs[q]? = some cs[q] := at_some hql
      have hbb := hcb cs[q] (List.getElem_mem hql)
      have htk : cs.take (q + 1) = cs.take q ++ [cs[q]] := by rw [List.take_add_one, hc1]; rfl
      generalize cs[q] = x at *
      have hln := rline_c x hbb
      have hfl2 : (lineF x).length + 1 ≤ 80 := by have := inL_len hbb; simpa [inL] using this
      have hz5 := bs_size (lineF x)
      have hz6 := bs_size (m' ++ lineF x)
      rw [List.length_append] at hz6
      repeat' (first | refine ex_call hln ?_ | refine (ex_row q x rfl hc1) ?_ | refine ex_true (by first | decide | omega | assumption | (with_reducible exact rfl)) ?_ | refine ex_false (by first | decide | omega | assumption | exact (fun h => h rfl)) ?_ | refine ex_dec (fun _ => ?_) (fun _ => ?_) | refine ex_u8 _ rfl (by omega) (by omega) ?_ | refine ex_i64 _ rfl (by omega) (by omega) ?_ | refine ex_u64 _ rfl (by omega) (by omega) ?_ | refine and_mk (by first | omega | (with_reducible rfl) | (show drawOk _ _ _ = true; kernel_rfl)) ?_ | refine and_mk ⟨_, rfl⟩ ?_ | refine ex_is _ (List.length_map _) ?_ | refine ex_is _ List.length_nil ?_ | fail "no step")
      rw [bs_app]
      repeat' (first | refine ex_true (by first | decide | omega | assumption | (with_reducible exact rfl)) ?_ | refine ex_false (by first | decide | omega | assumption | exact (fun h => h rfl)) ?_ | refine ex_dec (fun _ => ?_) (fun _ => ?_) | refine ex_u8 _ rfl (by omega) (by omega) ?_ | refine ex_i64 _ rfl (by omega) (by omega) ?_ | refine ex_u64 _ rfl (by omega) (by omega) ?_ | refine and_mk (by first | omega | (with_reducible rfl) | (show drawOk _ _ _ = true; kernel_rfl)) ?_ | refine and_mk ⟨_, rfl⟩ ?_ | refine ex_is _ (List.length_map _) ?_ | refine ex_is _ List.length_nil ?_ | fail "no step")
      rw [e2]
      repeat' (first | refine ex_i64 ((q + 1 : Nat) : Int) (by omega) (by omega) (by omega) ?_ | refine ex_u64 ((q + 1 : Nat) : Int) (by omega) (by omega) (by omega) ?_ | refine ex_u8 ((q + 1 : Nat) : Int) (by omega) (by omega) (by omega) ?_ | refine ex_true (by first | decide | omega | assumption | (with_reducible exact rfl)) ?_ | refine ex_false (by first | decide | omega | assumption | exact (fun h => h rfl)) ?_ | refine ex_dec (fun _ => ?_) (fun _ => ?_) | refine ex_u8 _ rfl (by omega) (by omega) ?_ | refine ex_i64 _ rfl (by omega) (by omega) ?_ | refine ex_u64 _ rfl (by omega) (by omega) ?_ | refine and_mk (by first | omega | (with_reducible rfl) | (show drawOk _ _ _ = true; kernel_rfl)) ?_ | refine and_mk ⟨_, rfl⟩ ?_ | refine ex_is _ (List.length_map _) ?_ | refine ex_is _ List.length_nil ?_ | fail "no step")
      exact ex_round (q + 1, m' ++ lineF x ++ [10]) ⟨by omega, by rw [htk, List.flatMap_append, hm']; simp [inL]⟩ (by show _ - _ < _ - _; omega) (SLe.of ⟨⟨rfl, rfl, rfl, trivial⟩, ⟨rfl, trivial⟩⟩)
    · have hq9 : q = cs.length := by omega
      subst hq9
      rw [List.take_length] at hm'
      repeat' (first | refine ex_true (by first | decide | omega | assumption | (with_reducible exact rfl)) ?_ | refine ex_false (by first | decide | omega | assumption | exact (fun h => h rfl)) ?_ | refine ex_dec (fun _ => ?_) (fun _ => ?_) | refine ex_u8 _ rfl (by omega) (by omega) ?_ | refine ex_i64 _ rfl (by omega) (by omega) ?_ | refine ex_u64 _ rfl (by omega) (by omega) ?_ | refine and_mk (by first | omega | (with_reducible rfl) | (show drawOk _ _ _ = true; kernel_rfl)) ?_ | refine and_mk ⟨_, rfl⟩ ?_ | refine ex_is _ (List.length_map _) ?_ | refine ex_is _ List.length_nil ?_ | fail "no step")
      exact TLe.eq (by show Tstr (bs m') = _; rw [hm', hm]; rfl)
end Go.Proofs.YtblobabhdmigiaaDoor
