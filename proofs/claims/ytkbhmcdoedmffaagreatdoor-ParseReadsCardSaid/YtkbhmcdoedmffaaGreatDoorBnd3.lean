/- Texts that the last one leans on: The types' table of this program, as literals. No condition. Rules for walking code over the abstract state. No condition. A row that is written no more is data wherever it is named. No condition. A walk by itself: tests are split (those that cannot be are left away), reckonings that stay within bounds, ends of drawing regions, calls met by the contracts named. No condition. Short words for steps of a walk (bundle.py puts them in, so that a claim stays small). Condition: none. A function whose first result is a row of its own, kept as a row. No condition. A function whose results keep their names: pointers to objects, rows. No condition. Data that reads as other data; a contract met with such arguments. No condition. A function of data whose result is flat, called with rows that stay with their names. No condition. A name that is given up; a row under a new name. No condition. A function that may panic: the memory it was handed is then given up. Its first state may be told in other words. No condition. General lemmas that this repo's proofs share: the class of worlds that extend a world, a region that draws its order walked once in that class, small closers. No condition. What every law's row needs: from 'the call returns true and only makes memory' to the row's own words; arguments opened by their types. No condition. Plain law of the lexer: lexF, byte by byte; blanks and comments passed over; lines; tokens joined; the limits. No condition.  -/
import Derived.Test.YtkbhmcdoedmffaaGreatDoorRows
import Derived.WalkKit
import Derived.WalkSpells
import Derived.WalkLawsBesides
import Derived.BigQuiet
import Derived.Lib.Hide
import Derived.Handy
import Derived.StillTail
import Derived.Lib.ConvBytes
import Derived.ProofKit
import Derived.SizedLaws
import Derived.OpenShut
import Derived.Shelf.Strings.Builder1
import Derived.Shelf.Strings.Builder2
import Derived.Shelf.Strings.OnBuilder
import Derived.Shelf.Strings.Trim
import Derived.Shelf.Small.Utf8
import Derived.Shelf.Small.Strs
import Derived.Shelf.Small.Wraps
import Derived.Shelf.Strings.BuilderF
import Derived.Shelf.Strings.BuilderK
import Derived.Shelf.Strings.Builder2Cap
import Derived.Shelf.Strconv.Itoa0
import Derived.Shelf.Strconv.Itoa1
import Derived.Shelf.LaysM
import Derived.Shelf.Strconv.Itoa2
import Derived.Shelf.Strconv.Itoa3
import Derived.Shelf.Strconv.Clone
import Derived.Shelf.Strconv.SyntaxError
import Derived.Shelf.LaysC
import Derived.Shelf.Strconv.ToError
import Derived.Shelf.Strconv.Lower
import Derived.Shelf.Strconv.ParseUint10
import Derived.Shelf.Strconv.ParseUint10Empty
import Derived.Shelf.Strconv.ParseUint10Any
import Derived.Shelf.Strconv.RangeError
import Derived.Shelf.Strconv.ToErrorRange
import Derived.Shelf.Strconv.ParseUintEmpty
import Derived.Shelf.Strconv.ParseUint10b64
import Derived.Shelf.Strconv.ParseUint10b32
import Derived.Shelf.Strconv.ParseUint10b16
import Derived.Shelf.Strconv.ParseUint10b8
import Derived.Shelf.Strconv.ParseUint10At
import Derived.Ground.MpProg
import Derived.Shelf.Pu.ParseUintPublic10
import Derived.Shelf.Pu.ErrVarParseUint
import Derived.Shelf.Strings.Search1
import Derived.Shelf.Strings.Search2
import Derived.Shelf.Strings.Cut
import Derived.Shelf.Strings.Shaped
import Derived.Shelf.Strings.Prefix
import Derived.Shelf.Unicode.Decode
import Derived.Shelf.Strings.Runes
import Derived.Shelf.Strings.AsciiSet
import Derived.Shelf.Bits.Mul64
import Derived.Shelf.Strings.Repeat
import Derived.Shelf.Unicode.DecodeSlow
import Derived.Shelf.Unicode.DecodeAny
import Derived.Shelf.Strings.BuilderCap
import Derived.Test.YtkbhmcdoedmffaaGreatDoorProg
import Derived.Shelf.Strings.SlTrimAscii
import Derived.Test.YtkbhmcdoedmffaaGreatDoorBnd1
import Derived.Test.YtkbhmcdoedmffaaGreatDoorBnd2
set_option linter.unusedVariables false
set_option linter.unusedSimpArgs false
set_option maxRecDepth 100000
namespace Go.Proofs.YtkbhmcdoedmffaaGreatDoor

def lay : List (Nat × Lay) := [
  (1, ⟨1, 8, [.nilFunc], .other⟩),
  (2, ⟨1, 8, [.int .i64 0], .int .i64⟩),
  (3, ⟨1, 8, [.int .i64 0], .int .i64⟩),
  (4, ⟨1, 1, [.bool false], .bool⟩),
  (5, ⟨1, 1, [.int .u8 0], .int .u8⟩),
  (6, ⟨1, 1, [.int .u8 0], .int .u8⟩),
  (7, ⟨4, 24, [.int .i64 0, .int .i64 0, .bool false, .int .u8 0], .st [(0, 1, false), (1, 1, false), (2, 1, false), (3, 1, false)]⟩),
  (8, ⟨4, 24, [.int .i64 0, .int .i64 0, .bool false, .int .u8 0], .st [(0, 1, false), (1, 1, false), (2, 1, false), (3, 1, false)]⟩),
  (9, ⟨1, 16, [.string ⟨#[]⟩], .str⟩),
  (10, ⟨1, 16, [.string ⟨#[]⟩], .str⟩),
  (11, ⟨1, 16, [.string ⟨#[]⟩], .str⟩),
  (12, ⟨1, 8, [.int .u64 0], .int .u64⟩),
  (13, ⟨2, 24, [.string ⟨#[]⟩, .int .u64 0], .st [(0, 1, false), (1, 1, false)]⟩),
  (14, ⟨2, 24, [.string ⟨#[]⟩, .int .u64 0], .st [(0, 1, false), (1, 1, false)]⟩),
  (15, ⟨1, 8, [.pointer none], .other⟩),
  (16, ⟨1, 8, [.pointer none], .other⟩),
  (17, ⟨1, 8, [.pointer none], .other⟩),
  (18, ⟨1, 8, [.pointer none], .st [(0, 1, false)]⟩),
  (19, ⟨1, 8, [.pointer none], .st [(0, 1, false)]⟩),
  (20, ⟨1, 16, [.nilIface], .other⟩),
  (21, ⟨1, 4, [.int .i32 0], .int .i32⟩),
  (22, ⟨1, 8, [.pointer none], .other⟩),
  (23, ⟨2, 16, [.int .i64 0, .int .i64 0], .st [(0, 1, false), (1, 1, false)]⟩),
  (24, ⟨2, 16, [.int .i64 0, .int .i64 0], .st [(0, 1, false), (1, 1, false)]⟩),
  (25, ⟨1, 8, [.int .i64 0], .int .i64⟩),
  (27, ⟨1, 8, [.nilFunc], .other⟩),
  (28, ⟨1, 24, [.slice none 0 0], .sl 99⟩),
  (29, ⟨1, 24, [.slice none 0 0], .sl 102⟩),
  (30, ⟨1, 24, [.slice none 0 0], .sl 109⟩),
  (31, ⟨1, 24, [.slice none 0 0], .sl 114⟩),
  (32, ⟨4, 96, [.slice none 0 0, .slice none 0 0, .slice none 0 0, .slice none 0 0], .st [(0, 1, false), (1, 1, false), (2, 1, false), (3, 1, false)]⟩),
  (33, ⟨4, 96, [.slice none 0 0, .slice none 0 0, .slice none 0 0, .slice none 0 0], .st [(0, 1, false), (1, 1, false), (2, 1, false), (3, 1, false)]⟩),
  (34, ⟨2, 16, [.int .i64 0, .int .i64 0], .arr 2 3⟩),
  (36, ⟨1, 8, [.nilFunc], .other⟩),
  (37, ⟨1, 8, [.nilFunc], .other⟩),
  (38, ⟨1, 8, [.nilFunc], .other⟩),
  (39, ⟨1, 8, [.nilFunc], .other⟩),
  (41, ⟨1, 8, [.nilFunc], .other⟩),
  (43, ⟨1, 8, [.nilFunc], .other⟩),
  (44, ⟨1, 8, [.nilFunc], .other⟩),
  (45, ⟨1, 24, [.slice none 0 0], .sl 3⟩),
  (46, ⟨1, 24, [.slice none 0 0], .sl 4⟩),
  (47, ⟨1, 8, [.nilFunc], .other⟩),
  (48, ⟨1, 8, [.nilFunc], .other⟩),
  (49, ⟨1, 24, [.slice none 0 0], .sl 107⟩),
  (50, ⟨1, 24, [.slice none 0 0], .sl 69⟩),
  (51, ⟨1, 24, [.slice none 0 0], .sl 59⟩),
  (52, ⟨1, 24, [.slice none 0 0], .sl 63⟩),
  (53, ⟨4, 96, [.slice none 0 0, .slice none 0 0, .slice none 0 0, .slice none 0 0], .st [(0, 1, false), (1, 1, false), (2, 1, false), (3, 1, false)]⟩),
  (54, ⟨4, 96, [.slice none 0 0, .slice none 0 0, .slice none 0 0, .slice none 0 0], .st [(0, 1, false), (1, 1, false), (2, 1, false), (3, 1, false)]⟩),
  (55, ⟨1, 8, [.nilFunc], .other⟩),
  (56, ⟨1, 8, [.int .i64 0], .int .i64⟩),
  (57, ⟨1, 8, [.int .u64 0], .int .u64⟩),
  (58, ⟨5, 72, [.int .i64 0, .string ⟨#[]⟩, .int .u64 0, .string ⟨#[]⟩, .slice none 0 0], .st [(0, 1, false), (1, 1, false), (2, 1, false), (3, 1, false), (4, 1, false)]⟩),
  (59, ⟨5, 72, [.int .i64 0, .string ⟨#[]⟩, .int .u64 0, .string ⟨#[]⟩, .slice none 0 0], .st [(0, 1, false), (1, 1, false), (2, 1, false), (3, 1, false), (4, 1, false)]⟩),
  (60, ⟨1, 8, [.int .i64 0], .int .i64⟩),
  (61, ⟨1, 24, [.slice none 0 0], .sl 65⟩),
  (62, ⟨8, 104, [.int .i64 0, .int .i64 0, .bool false, .string ⟨#[]⟩, .slice none 0 0, .int .i64 0, .int .i64 0, .slice none 0 0], .st [(0, 1, false), (1, 1, false), (2, 1, false), (3, 1, false), (4, 1, false), (5, 1, false), (6, 1, false), (7, 1, false)]⟩),
  (63, ⟨8, 104, [.int .i64 0, .int .i64 0, .bool false, .string ⟨#[]⟩, .slice none 0 0, .int .i64 0, .int .i64 0, .slice none 0 0], .st [(0, 1, false), (1, 1, false), (2, 1, false), (3, 1, false), (4, 1, false), (5, 1, false), (6, 1, false), (7, 1, false)]⟩),
  (64, ⟨2, 16, [.int .u64 0, .int .i64 0], .st [(0, 1, false), (1, 1, false)]⟩),
  (65, ⟨2, 16, [.int .u64 0, .int .i64 0], .st [(0, 1, false), (1, 1, false)]⟩),
  (66, ⟨1, 24, [.slice none 0 0], .sl 9⟩),
  (67, ⟨1, 24, [.slice none 0 0], .sl 73⟩),
  (68, ⟨3, 64, [.string ⟨#[]⟩, .slice none 0 0, .slice none 0 0], .st [(0, 1, false), (1, 1, false), (2, 1, false)]⟩),
  (69, ⟨3, 64, [.string ⟨#[]⟩, .slice none 0 0, .slice none 0 0], .st [(0, 1, false), (1, 1, false), (2, 1, false)]⟩),
  (70, ⟨1, 8, [.int .i64 0], .int .i64⟩),
  (71, ⟨1, 24, [.slice none 0 0], .sl 159⟩),
  (72, ⟨9, 112, [.string ⟨#[]⟩, .int .i64 0, .int .i64 0, .string ⟨#[]⟩, .string ⟨#[]⟩, .int .i64 0, .int .i64 0, .bool false, .slice none 0 0], .st [(0, 1, false), (1, 1, false), (2, 1, false), (3, 1, false), (4, 1, false), (5, 1, false), (6, 1, false), (7, 1, false), (8, 1, false)]⟩),
  (73, ⟨9, 112, [.string ⟨#[]⟩, .int .i64 0, .int .i64 0, .string ⟨#[]⟩, .string ⟨#[]⟩, .int .i64 0, .int .i64 0, .bool false, .slice none 0 0], .st [(0, 1, false), (1, 1, false), (2, 1, false), (3, 1, false), (4, 1, false), (5, 1, false), (6, 1, false), (7, 1, false), (8, 1, false)]⟩),
  (74, ⟨1, 2, [.int .u16 0], .int .u16⟩),
  (75, ⟨1, 24, [.slice none 0 0], .sl 128⟩),
  (77, ⟨1, 8, [.nilFunc], .other⟩),
  (78, ⟨1, 8, [.nilFunc], .other⟩),
  (79, ⟨1, 8, [.nilFunc], .other⟩),
  (80, ⟨1, 8, [.nilFunc], .other⟩),
  (81, ⟨1, 8, [.nilFunc], .other⟩),
  (82, ⟨3, 24, [.int .i64 0, .int .i64 0, .int .i64 0], .st [(0, 2, true), (2, 1, false)]⟩),
  (83, ⟨3, 24, [.int .i64 0, .int .i64 0, .int .i64 0], .st [(0, 2, true), (2, 1, false)]⟩),
  (84, ⟨1, 8, [.pointer none], .other⟩),
  (85, ⟨4, 48, [.slice none 0 0, .int .i64 0, .int .i64 0, .pointer none], .st [(0, 1, false), (1, 1, false), (2, 1, false), (3, 1, false)]⟩),
  (86, ⟨4, 48, [.slice none 0 0, .int .i64 0, .int .i64 0, .pointer none], .st [(0, 1, false), (1, 1, false), (2, 1, false), (3, 1, false)]⟩),
  (87, ⟨1, 24, [.slice none 0 0], .sl 105⟩),
  (89, ⟨1, 8, [.nilFunc], .other⟩),
  (90, ⟨1, 8, [.pointer none], .other⟩),
  (91, ⟨8, 144, [.slice none 0 0, .int .i64 0, .int .i64 0, .slice none 0 0, .slice none 0 0, .slice none 0 0, .slice none 0 0, .int .i64 0], .st [(0, 1, false), (1, 1, false), (2, 1, false), (3, 4, true), (7, 1, false)]⟩),
  (92, ⟨8, 144, [.slice none 0 0, .int .i64 0, .int .i64 0, .slice none 0 0, .slice none 0 0, .slice none 0 0, .slice none 0 0, .int .i64 0], .st [(0, 1, false), (1, 1, false), (2, 1, false), (3, 4, true), (7, 1, false)]⟩),
  (93, ⟨1, 8, [.nilFunc], .other⟩),
  (94, ⟨1, 8, [.nilFunc], .other⟩),
  (95, ⟨1, 8, [.nilFunc], .other⟩),
  (96, ⟨1, 8, [.nilFunc], .other⟩),
  (97, ⟨1, 8, [.nilFunc], .other⟩),
  (98, ⟨2, 24, [.string ⟨#[]⟩, .int .u64 0], .st [(0, 1, false), (1, 1, false)]⟩),
  (99, ⟨2, 24, [.string ⟨#[]⟩, .int .u64 0], .st [(0, 1, false), (1, 1, false)]⟩),
  (100, ⟨1, 24, [.slice none 0 0], .sl 119⟩),
  (101, ⟨3, 64, [.string ⟨#[]⟩, .slice none 0 0, .slice none 0 0], .st [(0, 1, false), (1, 1, false), (2, 1, false)]⟩),
  (102, ⟨3, 64, [.string ⟨#[]⟩, .slice none 0 0, .slice none 0 0], .st [(0, 1, false), (1, 1, false), (2, 1, false)]⟩),
  (103, ⟨1, 8, [.nilFunc], .other⟩),
  (104, ⟨5, 48, [.int .i64 0, .string ⟨#[]⟩, .int .u64 0, .int .i64 0, .int .i64 0], .st [(0, 1, false), (1, 1, false), (2, 1, false), (3, 1, false), (4, 1, false)]⟩),
  (105, ⟨5, 48, [.int .i64 0, .string ⟨#[]⟩, .int .u64 0, .int .i64 0, .int .i64 0], .st [(0, 1, false), (1, 1, false), (2, 1, false), (3, 1, false), (4, 1, false)]⟩),
  (106, ⟨1, 8, [.nilFunc], .other⟩),
  (107, ⟨2, 24, [.string ⟨#[]⟩, .int .u64 0], .st [(0, 1, false), (1, 1, false)]⟩),
  (108, ⟨5, 72, [.int .i64 0, .string ⟨#[]⟩, .int .u64 0, .string ⟨#[]⟩, .slice none 0 0], .st [(0, 1, false), (1, 1, false), (2, 1, false), (3, 1, false), (4, 1, false)]⟩),
  (109, ⟨5, 72, [.int .i64 0, .string ⟨#[]⟩, .int .u64 0, .string ⟨#[]⟩, .slice none 0 0], .st [(0, 1, false), (1, 1, false), (2, 1, false), (3, 1, false), (4, 1, false)]⟩),
  (110, ⟨1, 8, [.nilFunc], .other⟩),
  (111, ⟨1, 8, [.nilFunc], .other⟩),
  (112, ⟨1, 24, [.slice none 0 0], .sl 156⟩),
  (113, ⟨8, 104, [.int .i64 0, .int .i64 0, .bool false, .string ⟨#[]⟩, .slice none 0 0, .int .i64 0, .int .i64 0, .slice none 0 0], .st [(0, 1, false), (1, 1, false), (2, 1, false), (3, 1, false), (4, 1, false), (5, 1, false), (6, 1, false), (7, 1, false)]⟩),
  (114, ⟨8, 104, [.int .i64 0, .int .i64 0, .bool false, .string ⟨#[]⟩, .slice none 0 0, .int .i64 0, .int .i64 0, .slice none 0 0], .st [(0, 1, false), (1, 1, false), (2, 1, false), (3, 1, false), (4, 1, false), (5, 1, false), (6, 1, false), (7, 1, false)]⟩),
  (115, ⟨1, 8, [.nilFunc], .other⟩),
  (116, ⟨1, 8, [.nilFunc], .other⟩),
  (117, ⟨1, 24, [.slice none 0 0], .sl 158⟩),
  (118, ⟨9, 112, [.string ⟨#[]⟩, .int .i64 0, .int .i64 0, .string ⟨#[]⟩, .string ⟨#[]⟩, .int .i64 0, .int .i64 0, .bool false, .slice none 0 0], .st [(0, 1, false), (1, 1, false), (2, 1, false), (3, 1, false), (4, 1, false), (5, 1, false), (6, 1, false), (7, 1, false), (8, 1, false)]⟩),
  (119, ⟨9, 112, [.string ⟨#[]⟩, .int .i64 0, .int .i64 0, .string ⟨#[]⟩, .string ⟨#[]⟩, .int .i64 0, .int .i64 0, .bool false, .slice none 0 0], .st [(0, 1, false), (1, 1, false), (2, 1, false), (3, 1, false), (4, 1, false), (5, 1, false), (6, 1, false), (7, 1, false), (8, 1, false)]⟩),
  (120, ⟨5, 40, [.int .i64 0, .int .i64 0, .int .i64 0, .int .i64 0, .int .i64 0], .arr 5 3⟩),
  (121, ⟨2, 2, [.bool false, .bool false], .arr 2 4⟩),
  (122, ⟨1, 24, [.slice none 0 0], .sl 66⟩),
  (123, ⟨1, 8, [.pointer none], .other⟩),
  (124, ⟨3, 32, [.string ⟨#[]⟩, .int .i64 0, .int .i64 0], .st [(0, 1, false), (1, 2, true)]⟩),
  (125, ⟨3, 32, [.string ⟨#[]⟩, .int .i64 0, .int .i64 0], .st [(0, 1, false), (1, 2, true)]⟩),
  (126, ⟨1, 8, [.int .i64 0], .int .i64⟩),
  (127, ⟨5, 48, [.int .i64 0, .string ⟨#[]⟩, .int .u64 0, .int .i64 0, .int .i64 0], .st [(0, 1, false), (1, 1, false), (2, 1, false), (3, 2, true)]⟩),
  (128, ⟨5, 48, [.int .i64 0, .string ⟨#[]⟩, .int .u64 0, .int .i64 0, .int .i64 0], .st [(0, 1, false), (1, 1, false), (2, 1, false), (3, 2, true)]⟩),
  (130, ⟨1, 8, [.nilFunc], .other⟩),
  (131, ⟨1, 8, [.nilFunc], .other⟩),
  (132, ⟨1, 8, [.nilFunc], .other⟩),
  (133, ⟨1, 8, [.int .u64 0], .int .u64⟩),
  (135, ⟨1, 8, [.nilFunc], .other⟩),
  (136, ⟨1, 8, [.nilFunc], .other⟩),
  (137, ⟨1, 8, [.pointer none], .other⟩),
  (138, ⟨1, 24, [.slice none 0 0], .sl 5⟩),
  (139, ⟨2, 32, [.pointer none, .slice none 0 0], .st [(0, 1, false), (1, 1, false)]⟩),
  (140, ⟨2, 32, [.pointer none, .slice none 0 0], .st [(0, 1, false), (1, 1, false)]⟩),
  (141, ⟨1, 16, [.nilIface], .other⟩),
  (142, ⟨1, 16, [.nilIface], .other⟩),
  (144, ⟨1, 8, [.nilFunc], .other⟩),
  (145, ⟨1, 8, [.nilFunc], .other⟩),
  (146, ⟨1, 8, [.nilFunc], .other⟩),
  (147, ⟨1, 8, [.nilFunc], .other⟩),
  (148, ⟨1, 8, [.nilFunc], .other⟩),
  (149, ⟨1, 8, [.nilFunc], .other⟩),
  (150, ⟨1, 8, [.nilFunc], .other⟩),
  (151, ⟨1, 8, [.nilFunc], .other⟩),
  (153, ⟨1, 8, [.nilFunc], .other⟩),
  (154, ⟨1, 8, [.nilFunc], .other⟩),
  (155, ⟨1, 8, [.nilFunc], .other⟩),
  (156, ⟨2, 16, [.int .u64 0, .int .i64 0], .st [(0, 1, false), (1, 1, false)]⟩),
  (157, ⟨2, 24, [.string ⟨#[]⟩, .int .i64 0], .st [(0, 1, false), (1, 1, false)]⟩),
  (158, ⟨2, 24, [.string ⟨#[]⟩, .int .i64 0], .st [(0, 1, false), (1, 1, false)]⟩),
  (159, ⟨2, 24, [.string ⟨#[]⟩, .int .i64 0], .st [(0, 1, false), (1, 1, false)]⟩),
  (160, ⟨1, 8, [.nilFunc], .other⟩),
  (162, ⟨1, 8, [.nilFunc], .other⟩),
  (163, ⟨1, 8, [.nilFunc], .other⟩),
  (164, ⟨29, 464, [.string ⟨#[]⟩, .string ⟨#[]⟩, .string ⟨#[]⟩, .string ⟨#[]⟩, .string ⟨#[]⟩, .string ⟨#[]⟩, .string ⟨#[]⟩, .string ⟨#[]⟩, .string ⟨#[]⟩, .string ⟨#[]⟩, .string ⟨#[]⟩, .string ⟨#[]⟩, .string ⟨#[]⟩, .string ⟨#[]⟩, .string ⟨#[]⟩, .string ⟨#[]⟩, .string ⟨#[]⟩, .string ⟨#[]⟩, .string ⟨#[]⟩, .string ⟨#[]⟩, .string ⟨#[]⟩, .string ⟨#[]⟩, .string ⟨#[]⟩, .string ⟨#[]⟩, .string ⟨#[]⟩, .string ⟨#[]⟩, .string ⟨#[]⟩, .string ⟨#[]⟩, .string ⟨#[]⟩], .arr 29 9⟩),
  (165, ⟨1, 4, [.int .u32 0], .int .u32⟩),
  (167, ⟨1, 8, [.nilFunc], .other⟩),
  (169, ⟨1, 8, [.nilFunc], .other⟩),
  (170, ⟨1, 8, [.pointer none], .other⟩),
  (171, ⟨1, 8, [.nilFunc], .other⟩),
  (172, ⟨1, 8, [.nilFunc], .other⟩),
  (173, ⟨1, 8, [.nilFunc], .other⟩),
  (174, ⟨1, 8, [.nilFunc], .other⟩),
  (175, ⟨1, 8, [.nilFunc], .other⟩),
  (176, ⟨1, 8, [.nilFunc], .other⟩),
  (177, ⟨1, 8, [.nilFunc], .other⟩),
  (179, ⟨1, 8, [.nilFunc], .other⟩),
  (181, ⟨1, 8, [.nilFunc], .other⟩),
  (182, ⟨1, 8, [.pointer none], .other⟩),
  (183, ⟨1, 8, [.nilFunc], .other⟩),
  (184, ⟨1, 8, [.nilFunc], .other⟩),
  (185, ⟨1, 8, [.nilFunc], .other⟩),
  (186, ⟨1, 8, [.pointer none], .other⟩),
  (187, ⟨1, 8, [.nilFunc], .other⟩),
  (189, ⟨1, 8, [.nilFunc], .other⟩),
  (190, ⟨1, 8, [.nilFunc], .other⟩),
  (191, ⟨1, 8, [.nilFunc], .other⟩),
  (192, ⟨1, 8, [.nilFunc], .other⟩),
  (193, ⟨1, 8, [.nilFunc], .other⟩),
  (194, ⟨256, 256, [.bool false, .bool false, .bool false, .bool false, .bool false, .bool false, .bool false, .bool false, .bool false, .bool false, .bool false, .bool false, .bool false, .bool false, .bool false, .bool false, .bool false, .bool false, .bool false, .bool false, .bool false, .bool false, .bool false, .bool false, .bool false, .bool false, .bool false, .bool false, .bool false, .bool false, .bool false, .bool false, .bool false, .bool false, .bool false, .bool false, .bool false, .bool false, .bool false, .bool false, .bool false, .bool false, .bool false, .bool false, .bool false, .bool false, .bool false, .bool false, .bool false, .bool false, .bool false, .bool false, .bool false, .bool false, .bool false, .bool false, .bool false, .bool false, .bool false, .bool false, .bool false, .bool false, .bool false, .bool false, .bool false, .bool false, .bool false, .bool false, .bool false, .bool false, .bool false, .bool false, .bool false, .bool false, .bool false, .bool false, .bool false, .bool false, .bool false, .bool false, .bool false, .bool false, .bool false, .bool false, .bool false, .bool false, .bool false, .bool false, .bool false, .bool false, .bool false, .bool false, .bool false, .bool false, .bool false, .bool false, .bool false, .bool false, .bool false, .bool false, .bool false, .bool false, .bool false, .bool false, .bool false, .bool false, .bool false, .bool false, .bool false, .bool false, .bool false, .bool false, .bool false, .bool false, .bool false, .bool false, .bool false, .bool false, .bool false, .bool false, .bool false, .bool false, .bool false, .bool false, .bool false, .bool false, .bool false, .bool false, .bool false, .bool false, .bool false, .bool false, .bool false, .bool false, .bool false, .bool false, .bool false, .bool false, .bool false, .bool false, .bool false, .bool false, .bool false, .bool false, .bool false, .bool false, .bool false, .bool false, .bool false, .bool false, .bool false, .bool false, .bool false, .bool false, .bool false, .bool false, .bool false, .bool false, .bool false, .bool false, .bool false, .bool false, .bool false, .bool false, .bool false, .bool false, .bool false, .bool false, .bool false, .bool false, .bool false, .bool false, .bool false, .bool false, .bool false, .bool false, .bool false, .bool false, .bool false, .bool false, .bool false, .bool false, .bool false, .bool false, .bool false, .bool false, .bool false, .bool false, .bool false, .bool false, .bool false, .bool false, .bool false, .bool false, .bool false, .bool false, .bool false, .bool false, .bool false, .bool false, .bool false, .bool false, .bool false, .bool false, .bool false, .bool false, .bool false, .bool false, .bool false, .bool false, .bool false, .bool false, .bool false, .bool false, .bool false, .bool false, .bool false, .bool false, .bool false, .bool false, .bool false, .bool false, .bool false, .bool false, .bool false, .bool false, .bool false, .bool false, .bool false, .bool false, .bool false, .bool false, .bool false, .bool false, .bool false, .bool false, .bool false, .bool false, .bool false, .bool false, .bool false, .bool false, .bool false, .bool false, .bool false, .bool false, .bool false, .bool false, .bool false, .bool false, .bool false, .bool false, .bool false, .bool false, .bool false, .bool false], .arr 256 4⟩),
  (195, ⟨256, 256, [.bool false, .bool false, .bool false, .bool false, .bool false, .bool false, .bool false, .bool false, .bool false, .bool false, .bool false, .bool false, .bool false, .bool false, .bool false, .bool false, .bool false, .bool false, .bool false, .bool false, .bool false, .bool false, .bool false, .bool false, .bool false, .bool false, .bool false, .bool false, .bool false, .bool false, .bool false, .bool false, .bool false, .bool false, .bool false, .bool false, .bool false, .bool false, .bool false, .bool false, .bool false, .bool false, .bool false, .bool false, .bool false, .bool false, .bool false, .bool false, .bool false, .bool false, .bool false, .bool false, .bool false, .bool false, .bool false, .bool false, .bool false, .bool false, .bool false, .bool false, .bool false, .bool false, .bool false, .bool false, .bool false, .bool false, .bool false, .bool false, .bool false, .bool false, .bool false, .bool false, .bool false, .bool false, .bool false, .bool false, .bool false, .bool false, .bool false, .bool false, .bool false, .bool false, .bool false, .bool false, .bool false, .bool false, .bool false, .bool false, .bool false, .bool false, .bool false, .bool false, .bool false, .bool false, .bool false, .bool false, .bool false, .bool false, .bool false, .bool false, .bool false, .bool false, .bool false, .bool false, .bool false, .bool false, .bool false, .bool false, .bool false, .bool false, .bool false, .bool false, .bool false, .bool false, .bool false, .bool false, .bool false, .bool false, .bool false, .bool false, .bool false, .bool false, .bool false, .bool false, .bool false, .bool false, .bool false, .bool false, .bool false, .bool false, .bool false, .bool false, .bool false, .bool false, .bool false, .bool false, .bool false, .bool false, .bool false, .bool false, .bool false, .bool false, .bool false, .bool false, .bool false, .bool false, .bool false, .bool false, .bool false, .bool false, .bool false, .bool false, .bool false, .bool false, .bool false, .bool false, .bool false, .bool false, .bool false, .bool false, .bool false, .bool false, .bool false, .bool false, .bool false, .bool false, .bool false, .bool false, .bool false, .bool false, .bool false, .bool false, .bool false, .bool false, .bool false, .bool false, .bool false, .bool false, .bool false, .bool false, .bool false, .bool false, .bool false, .bool false, .bool false, .bool false, .bool false, .bool false, .bool false, .bool false, .bool false, .bool false, .bool false, .bool false, .bool false, .bool false, .bool false, .bool false, .bool false, .bool false, .bool false, .bool false, .bool false, .bool false, .bool false, .bool false, .bool false, .bool false, .bool false, .bool false, .bool false, .bool false, .bool false, .bool false, .bool false, .bool false, .bool false, .bool false, .bool false, .bool false, .bool false, .bool false, .bool false, .bool false, .bool false, .bool false, .bool false, .bool false, .bool false, .bool false, .bool false, .bool false, .bool false, .bool false, .bool false, .bool false, .bool false, .bool false, .bool false, .bool false, .bool false, .bool false, .bool false, .bool false, .bool false, .bool false, .bool false, .bool false, .bool false, .bool false, .bool false, .bool false, .bool false, .bool false, .bool false, .bool false], .arr 256 4⟩),
  (197, ⟨1, 8, [.nilFunc], .other⟩),
  (198, ⟨1, 8, [.nilFunc], .other⟩),
  (199, ⟨1, 8, [.pointer none], .other⟩),
  (201, ⟨1, 8, [.nilFunc], .other⟩),
  (202, ⟨1, 8, [.nilFunc], .other⟩),
  (203, ⟨1, 8, [.nilFunc], .other⟩),
  (204, ⟨1, 8, [.nilFunc], .other⟩),
  (206, ⟨1, 8, [.nilFunc], .other⟩),
  (207, ⟨1, 8, [.nilFunc], .other⟩),
  (208, ⟨1, 8, [.nilFunc], .other⟩),
  (209, ⟨1, 8, [.nilFunc], .other⟩),
  (211, ⟨1, 8, [.nilFunc], .other⟩),
  (212, ⟨1, 8, [.nilFunc], .other⟩),
  (213, ⟨1, 8, [.nilFunc], .other⟩),
  (214, ⟨1, 8, [.int .i64 0], .int .i64⟩),
  (215, ⟨1, 8, [.nilFunc], .other⟩),
  (216, ⟨1, 8, [.pointer none], .other⟩),
  (217, ⟨1, 8, [.nilFunc], .other⟩),
  (218, ⟨1, 8, [.nilFunc], .other⟩),
  (219, ⟨1, 8, [.nilFunc], .other⟩),
  (220, ⟨1, 8, [.nilFunc], .other⟩),
  (221, ⟨1, 8, [.nilFunc], .other⟩),
  (222, ⟨1, 8, [.nilFunc], .other⟩),
  (223, ⟨1, 8, [.nilFunc], .other⟩),
  (224, ⟨3, 48, [.string ⟨#[]⟩, .string ⟨#[]⟩, .nilIface], .st [(0, 1, false), (1, 1, false), (2, 1, false)]⟩),
  (225, ⟨3, 48, [.string ⟨#[]⟩, .string ⟨#[]⟩, .nilIface], .st [(0, 1, false), (1, 1, false), (2, 1, false)]⟩),
  (226, ⟨1, 8, [.nilFunc], .other⟩),
  (227, ⟨1, 8, [.nilFunc], .other⟩),
  (228, ⟨256, 256, [.int .u8 0, .int .u8 0, .int .u8 0, .int .u8 0, .int .u8 0, .int .u8 0, .int .u8 0, .int .u8 0, .int .u8 0, .int .u8 0, .int .u8 0, .int .u8 0, .int .u8 0, .int .u8 0, .int .u8 0, .int .u8 0, .int .u8 0, .int .u8 0, .int .u8 0, .int .u8 0, .int .u8 0, .int .u8 0, .int .u8 0, .int .u8 0, .int .u8 0, .int .u8 0, .int .u8 0, .int .u8 0, .int .u8 0, .int .u8 0, .int .u8 0, .int .u8 0, .int .u8 0, .int .u8 0, .int .u8 0, .int .u8 0, .int .u8 0, .int .u8 0, .int .u8 0, .int .u8 0, .int .u8 0, .int .u8 0, .int .u8 0, .int .u8 0, .int .u8 0, .int .u8 0, .int .u8 0, .int .u8 0, .int .u8 0, .int .u8 0, .int .u8 0, .int .u8 0, .int .u8 0, .int .u8 0, .int .u8 0, .int .u8 0, .int .u8 0, .int .u8 0, .int .u8 0, .int .u8 0, .int .u8 0, .int .u8 0, .int .u8 0, .int .u8 0, .int .u8 0, .int .u8 0, .int .u8 0, .int .u8 0, .int .u8 0, .int .u8 0, .int .u8 0, .int .u8 0, .int .u8 0, .int .u8 0, .int .u8 0, .int .u8 0, .int .u8 0, .int .u8 0, .int .u8 0, .int .u8 0, .int .u8 0, .int .u8 0, .int .u8 0, .int .u8 0, .int .u8 0, .int .u8 0, .int .u8 0, .int .u8 0, .int .u8 0, .int .u8 0, .int .u8 0, .int .u8 0, .int .u8 0, .int .u8 0, .int .u8 0, .int .u8 0, .int .u8 0, .int .u8 0, .int .u8 0, .int .u8 0, .int .u8 0, .int .u8 0, .int .u8 0, .int .u8 0, .int .u8 0, .int .u8 0, .int .u8 0, .int .u8 0, .int .u8 0, .int .u8 0, .int .u8 0, .int .u8 0, .int .u8 0, .int .u8 0, .int .u8 0, .int .u8 0, .int .u8 0, .int .u8 0, .int .u8 0, .int .u8 0, .int .u8 0, .int .u8 0, .int .u8 0, .int .u8 0, .int .u8 0, .int .u8 0, .int .u8 0, .int .u8 0, .int .u8 0, .int .u8 0, .int .u8 0, .int .u8 0, .int .u8 0, .int .u8 0, .int .u8 0, .int .u8 0, .int .u8 0, .int .u8 0, .int .u8 0, .int .u8 0, .int .u8 0, .int .u8 0, .int .u8 0, .int .u8 0, .int .u8 0, .int .u8 0, .int .u8 0, .int .u8 0, .int .u8 0, .int .u8 0, .int .u8 0, .int .u8 0, .int .u8 0, .int .u8 0, .int .u8 0, .int .u8 0, .int .u8 0, .int .u8 0, .int .u8 0, .int .u8 0, .int .u8 0, .int .u8 0, .int .u8 0, .int .u8 0, .int .u8 0, .int .u8 0, .int .u8 0, .int .u8 0, .int .u8 0, .int .u8 0, .int .u8 0, .int .u8 0, .int .u8 0, .int .u8 0, .int .u8 0, .int .u8 0, .int .u8 0, .int .u8 0, .int .u8 0, .int .u8 0, .int .u8 0, .int .u8 0, .int .u8 0, .int .u8 0, .int .u8 0, .int .u8 0, .int .u8 0, .int .u8 0, .int .u8 0, .int .u8 0, .int .u8 0, .int .u8 0, .int .u8 0, .int .u8 0, .int .u8 0, .int .u8 0, .int .u8 0, .int .u8 0, .int .u8 0, .int .u8 0, .int .u8 0, .int .u8 0, .int .u8 0, .int .u8 0, .int .u8 0, .int .u8 0, .int .u8 0, .int .u8 0, .int .u8 0, .int .u8 0, .int .u8 0, .int .u8 0, .int .u8 0, .int .u8 0, .int .u8 0, .int .u8 0, .int .u8 0, .int .u8 0, .int .u8 0, .int .u8 0, .int .u8 0, .int .u8 0, .int .u8 0, .int .u8 0, .int .u8 0, .int .u8 0, .int .u8 0, .int .u8 0, .int .u8 0, .int .u8 0, .int .u8 0, .int .u8 0, .int .u8 0, .int .u8 0, .int .u8 0, .int .u8 0, .int .u8 0, .int .u8 0, .int .u8 0, .int .u8 0, .int .u8 0, .int .u8 0, .int .u8 0, .int .u8 0, .int .u8 0, .int .u8 0, .int .u8 0, .int .u8 0, .int .u8 0, .int .u8 0, .int .u8 0, .int .u8 0, .int .u8 0, .int .u8 0, .int .u8 0, .int .u8 0], .arr 256 5⟩),
  (229, ⟨2, 2, [.int .u8 0, .int .u8 0], .st [(0, 1, false), (1, 1, false)]⟩),
  (230, ⟨2, 2, [.int .u8 0, .int .u8 0], .st [(0, 1, false), (1, 1, false)]⟩),
  (231, ⟨32, 32, [.int .u8 0, .int .u8 0, .int .u8 0, .int .u8 0, .int .u8 0, .int .u8 0, .int .u8 0, .int .u8 0, .int .u8 0, .int .u8 0, .int .u8 0, .int .u8 0, .int .u8 0, .int .u8 0, .int .u8 0, .int .u8 0, .int .u8 0, .int .u8 0, .int .u8 0, .int .u8 0, .int .u8 0, .int .u8 0, .int .u8 0, .int .u8 0, .int .u8 0, .int .u8 0, .int .u8 0, .int .u8 0, .int .u8 0, .int .u8 0, .int .u8 0, .int .u8 0], .arr 16 230⟩),
  (232, ⟨1, 8, [.nilFunc], .other⟩),
  (233, ⟨1, 8, [.pointer none], .other⟩),
  (234, ⟨1, 16, [.string ⟨#[]⟩], .st [(0, 1, false)]⟩),
  (235, ⟨1, 16, [.string ⟨#[]⟩], .st [(0, 1, false)]⟩),
  (236, ⟨1, 8, [.nilFunc], .other⟩),
  (237, ⟨24, 24, [.int .u8 0, .int .u8 0, .int .u8 0, .int .u8 0, .int .u8 0, .int .u8 0, .int .u8 0, .int .u8 0, .int .u8 0, .int .u8 0, .int .u8 0, .int .u8 0, .int .u8 0, .int .u8 0, .int .u8 0, .int .u8 0, .int .u8 0, .int .u8 0, .int .u8 0, .int .u8 0, .int .u8 0, .int .u8 0, .int .u8 0, .int .u8 0], .arr 24 5⟩),
  (238, ⟨1, 8, [.nilFunc], .other⟩),
  (239, ⟨1, 8, [.nilFunc], .other⟩),
  (241, ⟨1, 8, [.nilFunc], .other⟩),
  (242, ⟨1, 8, [.nilFunc], .other⟩),
  (243, ⟨20, 160, [.int .u64 0, .int .u64 0, .int .u64 0, .int .u64 0, .int .u64 0, .int .u64 0, .int .u64 0, .int .u64 0, .int .u64 0, .int .u64 0, .int .u64 0, .int .u64 0, .int .u64 0, .int .u64 0, .int .u64 0, .int .u64 0, .int .u64 0, .int .u64 0, .int .u64 0, .int .u64 0], .arr 20 57⟩),
  (244, ⟨65, 65, [.int .u8 0, .int .u8 0, .int .u8 0, .int .u8 0, .int .u8 0, .int .u8 0, .int .u8 0, .int .u8 0, .int .u8 0, .int .u8 0, .int .u8 0, .int .u8 0, .int .u8 0, .int .u8 0, .int .u8 0, .int .u8 0, .int .u8 0, .int .u8 0, .int .u8 0, .int .u8 0, .int .u8 0, .int .u8 0, .int .u8 0, .int .u8 0, .int .u8 0, .int .u8 0, .int .u8 0, .int .u8 0, .int .u8 0, .int .u8 0, .int .u8 0, .int .u8 0, .int .u8 0, .int .u8 0, .int .u8 0, .int .u8 0, .int .u8 0, .int .u8 0, .int .u8 0, .int .u8 0, .int .u8 0, .int .u8 0, .int .u8 0, .int .u8 0, .int .u8 0, .int .u8 0, .int .u8 0, .int .u8 0, .int .u8 0, .int .u8 0, .int .u8 0, .int .u8 0, .int .u8 0, .int .u8 0, .int .u8 0, .int .u8 0, .int .u8 0, .int .u8 0, .int .u8 0, .int .u8 0, .int .u8 0, .int .u8 0, .int .u8 0, .int .u8 0, .int .u8 0], .arr 65 5⟩),
  (245, ⟨1, 8, [.nilFunc], .other⟩),
  (246, ⟨1, 8, [.nilFunc], .other⟩),
  (247, ⟨1, 8, [.nilFunc], .other⟩),
  (248, ⟨32, 32, [.int .u8 0, .int .u8 0, .int .u8 0, .int .u8 0, .int .u8 0, .int .u8 0, .int .u8 0, .int .u8 0, .int .u8 0, .int .u8 0, .int .u8 0, .int .u8 0, .int .u8 0, .int .u8 0, .int .u8 0, .int .u8 0, .int .u8 0, .int .u8 0, .int .u8 0, .int .u8 0, .int .u8 0, .int .u8 0, .int .u8 0, .int .u8 0, .int .u8 0, .int .u8 0, .int .u8 0, .int .u8 0, .int .u8 0, .int .u8 0, .int .u8 0, .int .u8 0], .arr 32 5⟩),
  (249, ⟨64, 64, [.int .u8 0, .int .u8 0, .int .u8 0, .int .u8 0, .int .u8 0, .int .u8 0, .int .u8 0, .int .u8 0, .int .u8 0, .int .u8 0, .int .u8 0, .int .u8 0, .int .u8 0, .int .u8 0, .int .u8 0, .int .u8 0, .int .u8 0, .int .u8 0, .int .u8 0, .int .u8 0, .int .u8 0, .int .u8 0, .int .u8 0, .int .u8 0, .int .u8 0, .int .u8 0, .int .u8 0, .int .u8 0, .int .u8 0, .int .u8 0, .int .u8 0, .int .u8 0, .int .u8 0, .int .u8 0, .int .u8 0, .int .u8 0, .int .u8 0, .int .u8 0, .int .u8 0, .int .u8 0, .int .u8 0, .int .u8 0, .int .u8 0, .int .u8 0, .int .u8 0, .int .u8 0, .int .u8 0, .int .u8 0, .int .u8 0, .int .u8 0, .int .u8 0, .int .u8 0, .int .u8 0, .int .u8 0, .int .u8 0, .int .u8 0, .int .u8 0, .int .u8 0, .int .u8 0, .int .u8 0, .int .u8 0, .int .u8 0, .int .u8 0, .int .u8 0], .arr 64 5⟩),
  (250, ⟨4, 40, [.pointer none, .pointer none, .pointer none, .string ⟨#[]⟩], .st [(0, 1, false), (1, 1, false), (2, 1, false), (3, 1, false)]⟩),
  (251, ⟨4, 40, [.pointer none, .pointer none, .pointer none, .string ⟨#[]⟩], .st [(0, 1, false), (1, 1, false), (2, 1, false), (3, 1, false)]⟩),
  (252, ⟨0, 0, [], .arr 0 16⟩),
  (253, ⟨0, 0, [], .st [(0, 0, true)]⟩),
  (254, ⟨0, 0, [], .st [(0, 0, true)]⟩),
  (255, ⟨1, 1, [.int .u8 0], .int .u8⟩),
  (256, ⟨1, 1, [.int .u8 0], .int .u8⟩),
  (257, ⟨1, 8, [.nilFunc], .other⟩),
  (258, ⟨1, 4, [.int .i32 0], .int .i32⟩),
  (259, ⟨1, 4, [.int .i32 0], .int .i32⟩),
  (260, ⟨11, 48, [.int .u64 0, .int .u64 0, .int .u32 0, .int .u8 0, .int .u8 0, .int .u8 0, .int .u8 0, .nilFunc, .pointer none, .int .i32 0, .int .i32 0], .st [(0, 1, false), (1, 1, false), (2, 1, false), (3, 1, false), (4, 1, false), (5, 1, false), (6, 1, false), (7, 1, false), (8, 1, false), (9, 1, false), (10, 1, false)]⟩),
  (261, ⟨11, 48, [.int .u64 0, .int .u64 0, .int .u32 0, .int .u8 0, .int .u8 0, .int .u8 0, .int .u8 0, .nilFunc, .pointer none, .int .i32 0, .int .i32 0], .st [(0, 1, false), (1, 1, false), (2, 1, false), (3, 1, false), (4, 1, false), (5, 1, false), (6, 1, false), (7, 1, false), (8, 1, false), (9, 1, false), (10, 1, false)]⟩)]
set_option maxRecDepth 100000 in
theorem lay_all : lay.map (fun p => layOf Tryz.prog p.1) = lay.map (fun p => some p.2) := by kernel_rfl
def layF (t : Nat) : Option Lay := findL lay t
theorem layF_ok : LOk Tryz.prog layF := fun t l h => by
  have := List.map_inj_left.1 lay_all (t, l) (findL_mem h)
  exact this
theorem mixed : Tryz.prog.follows .mixedOrders = true := by kernel_rfl
end Go.Proofs.YtkbhmcdoedmffaaGreatDoor

namespace Go.Proofs.YtkbhmcdoedmffaaGreatDoor
open Go.RowKit

abbrev di (n : Int) : D := .v (.int .i64 n)
abbrev du (n : Int) : D := .v (.int .u64 n)
abbrev db (b : Bool) : D := .v (.bool b)
abbrev ds (s : ByteArray) : D := .v (.string s)
abbrev dnil : D := .v (.slice none 0 0)
abbrev Ti (n : Int) : TV := .o (.c (.d (.v (.int .i64 n))))
abbrev Tu (n : Int) : TV := .o (.c (.d (.v (.int .u64 n))))
abbrev Tb (b : Bool) : TV := .o (.c (.d (.v (.bool b))))
abbrev c1 (x : D) : T1 := .c (.d x)
abbrev gD (l : List D) : T1 := .g (l.map .d)
def Γ0 : Glob := ⟨fun _ _ => True, fun _ _ _ => trivial, [], fun _ => none, fun _ h => by cases h⟩

section
variable {p q : Prop} {K : Bool → Prop}
theorem ex_dec [Decidable p] (ht : p → K true) (hf : ¬ p → K false) : ∃ b, decide p = b ∧ K b := by
  by_cases h : p
  · exact ⟨true, decide_eq_true h, ht h⟩
  · exact ⟨false, decide_eq_false h, hf h⟩
theorem ex_true [Decidable p] (h : p) (hk : K true) : ∃ b, decide p = b ∧ K b := ⟨true, decide_eq_true h, hk⟩
theorem ex_false [Decidable p] (h : ¬ p) (hk : K false) : ∃ b, decide p = b ∧ K b := ⟨false, decide_eq_false h, hk⟩
theorem ex_is {α : Type} {e : α} (z : α) {K : α → Prop} (he : e = z) (h : K z) : ∃ z, e = z ∧ K z := ⟨z, he, h⟩
end
theorem wrap_i64' {n : Int} (h1 : -9223372036854775808 ≤ n) (h2 : n ≤ 9223372036854775807) : IntKind.i64.wrap n = n := by rw [IntKind.wrap_i64]; omega
theorem wrap_un {k : IntKind} (hk : k.signed = false) {n : Int} (h1 : 0 ≤ n) (h2 : n < 2 ^ k.bits) : k.wrap n = n := by
  unfold IntKind.wrap
  simp only [hk, Bool.false_and, Bool.false_eq_true, if_false]
  exact Int.emod_eq_of_lt h1 h2
theorem ex_i64 {e : Int} (z : Int) {K : Int → Prop} (he : e = z) (h1 : -9223372036854775808 ≤ z) (h2 : z ≤ 9223372036854775807) (h : K z) : ∃ z, IntKind.i64.wrap e = z ∧ K z := ⟨z, by rw [he]; exact wrap_i64' h1 h2, h⟩
theorem ex_u64 {e : Int} (z : Int) {K : Int → Prop} (he : e = z) (h1 : 0 ≤ z) (h2 : z < 18446744073709551616) (h : K z) : ∃ z, IntKind.u64.wrap e = z ∧ K z := ⟨z, by rw [he]; exact wrap_un (by rfl) h1 h2, h⟩
theorem ex_u8 {e : Int} (z : Int) {K : Int → Prop} (he : e = z) (h1 : 0 ≤ z) (h2 : z < 256) (h : K z) : ∃ z, IntKind.u8.wrap e = z ∧ K z := ⟨z, by rw [he]; exact wrap_un (by rfl) h1 h2, h⟩
theorem ex_row {α : Type} {f : α → List D} {l : List α} {n : Int} (i : Nat) (x : α) (hn : n = i) (hx : l[i]? = some x) {K : List D → Prop} (h : K (f x)) : ∃ r, 0 ≤ n ∧ (l.map f)[n.toNat]? = some r ∧ K r := by
  subst hn
  exact ⟨f x, by omega, by simp [hx], h⟩
theorem ex_app {α : Type} {r1 r2 : List α} {b : Nat} (n m c : Nat) (h1 : r1.length = n) (h2 : r2.length = m) (hc : Nat.ble b c = true) (hb : (n + m) * c ≤ 140737488355328) {K : Prop} (h : K) : (r1.length + r2.length) * b ≤ 140737488355328 ∧ K := ⟨by
  rw [h1, h2]
  exact Nat.le_trans (Nat.mul_le_mul_left _ (Nat.le_of_ble_eq_true hc)) hb, h⟩
theorem ex_chr {s : ByteArray} {n : Int} (i : Nat) (b : UInt8) (hn : n = i) (hb : s.data.toList[i]? = some b) {K : UInt8 → Prop} (h : K b) : ∃ b, 0 ≤ n ∧ s.data.toList[n.toNat]? = some b ∧ K b := by
  subst hn
  exact ⟨b, by omega, by simpa using hb, h⟩
theorem at_some {α : Type} {l : List α} {i : Nat} (h : i < l.length) : l[i]? = some l[i] := List.getElem?_eq_getElem h
section
variable {P : Program} {Γ : Glob}
theorem ex_call {f : FuncId} {xs : List T1} {r : TV} (h : CallsA P Γ f xs r) {K : TV → Prop} (hk : K r) : ∃ r, CallsA P Γ f xs r ∧ K r := ⟨r, h, hk⟩
theorem ex_callM {f : FuncId} {m : List (Nat × Blk)} {nx : Nat} {xs : List T1} {r : TV} {upd : List (Nat × Blk)} {new : List Blk} (h : CallsM P Γ f m nx xs r upd new) {K : TV → List (Nat × Blk) → List Blk → Prop} (hk : K r upd new) : ∃ r upd new, CallsM P Γ f m nx xs r upd new ∧ K r upd new := ⟨r, upd, new, h, hk⟩
end
theorem ex_loop {X : Type} (f : X → St) (μ : X → Nat) (p : X → Prop) (x0 : X) {nx0 : Nat} {st : St} {V : (I : LoopI) → I.X → Prop} (h0 : p x0) (h1 : SLe nx0 (f x0) st) (h2 : ∀ x, p x → V ⟨X, f, μ, p⟩ x) :
    ∃ (I : LoopI) (x0 : I.X), I.p x0 ∧ SLe nx0 (I.f x0) st ∧ ∀ x, I.p x → V I x := ⟨⟨X, f, μ, p⟩, x0, h0, h1, h2⟩
theorem ex_join {X : Type} (f : X → St) (p : X → Prop) {A : JoinI → Prop} {B : (I : JoinI) → I.X → Prop} (h1 : A ⟨X, f, p⟩) (h2 : ∀ x, p x → B ⟨X, f, p⟩ x) : ∃ I : JoinI, A I ∧ ∀ x, I.p x → B I x := ⟨⟨X, f, p⟩, h1, h2⟩
theorem ex_meet {X : Type} {f : X → St} {p : X → Prop} {nx0 : Nat} {st : St} (x : X) (h0 : p x) (h2 : SLe nx0 (f x) st) : ∃ x, p x ∧ SLe nx0 (f x) st := ⟨x, h0, h2⟩
theorem ex_round {X : Type} {f : X → St} {μ : X → Nat} {p : X → Prop} {nx0 : Nat} {st : St} {x : X} (x' : X) (h0 : p x') (h1 : μ x' < μ x) (h2 : SLe nx0 (f x') st) : ∃ x', p x' ∧ μ x' < μ x ∧ SLe nx0 (f x') st := ⟨x', h0, h1, h2⟩
theorem CLe_nil {ι : Nat → Value} {S : Nat → Prop} {w : World} {s : Nat} {v : Value} (h : VC ι S w (.d (.v (.slice none 0 0))) v) : VC ι S w (.d (.sl s [])) v := by
  have h' : Imm S w _ v := h
  cases h'
  exact Imm.nil
theorem TLe.nil {s : Nat} : TLe (.o (.c (.d (.v (.slice none 0 0))))) (.o (.c (.d (.sl s [])))) := fun ι _ _ _ h => CLe_nil (ι := ι) h
theorem flat_end {S : Nat → Prop} {w w' : World} {r : TV} {v : Value} (hs : ∀ b, S b → b < w.heap.size) (hb : Below w.heap.size w w') (hv : V ι0 S w' r v) : ∃ x S', Ending.returned v = .returned x ∧ Below w.heap.size w w' ∧ (∀ b, S b → S' b) ∧ (∀ b, S' b → S b ∨ w.heap.size ≤ b) ∧ (∀ b, S' b → b < w'.heap.size) ∧ V ι0 S' w' r x :=
  ⟨v, S, rfl, hb, fun _ h => h, fun _ h => .inl h, fun b h => Nat.lt_of_lt_of_le (hs b h) hb.size, hv⟩
theorem CallsM.more {P : Program} {Γ : Glob} {f : FuncId} {m m' : List (Nat × Blk)} {nx : Nat} {xs : List T1} {r : TV} {upd : List (Nat × Blk)} {new : List Blk} (h : CallsM P Γ f m nx xs r upd new) (hm : ∀ p ∈ m, p ∈ m') : CallsM P Γ f m' nx xs r upd new :=
  ⟨h.1, fun ι S w vs hs hG hb hd hv => (h.2 ι S w vs hs hG (fun p hp => hb p (hm p hp)) (fun p hp q hq => hd p (hm p hp) q (hm q hq)) hv).mono fun e w' hX => by
    have conv : ∀ (tv : TV) (x : Value) (ι' : Nat → Value) (S' : Nat → Prop) (w' : World), After ι S w nx ⟨tv, m.map (·.1), upd, new⟩ x ι' S' w' → After ι S w nx ⟨tv, m'.map (·.1), upd, new⟩ x ι' S' w' := fun tv x ι' S' w' A =>
      ⟨A.val, A.keep, A.smono, A.sgrow, A.slt, A.os, A.tape, A.output, A.size, A.heap, A.updok, A.newok, A.newblk, A.newdst⟩
    rcases hX with ⟨x, ι', S', he, A⟩ | ⟨v, ι', S', hr, he, A⟩
    · exact .inl ⟨x, ι', S', he, conv _ _ _ _ _ A⟩
    · exact .inr ⟨v, ι', S', hr, he, conv _ _ _ _ _ A⟩⟩
theorem CallsA.of0 {P : Program} {Γ : Glob} {f : FuncId} {xs : List T1} {r : TV} (h : CallsA P Γ0 f xs r) : CallsA P Γ f xs r := ⟨h.1, fun S w vs hS _ hv => h.2 S w vs hS trivial hv⟩
theorem CallsM.of0 {P : Program} {Γ : Glob} {f : FuncId} {m : List (Nat × Blk)} {nx : Nat} {xs : List T1} {r : TV} {upd : List (Nat × Blk)} {new : List Blk} (h : CallsM P Γ0 f m nx xs r upd new) : CallsM P Γ f m nx xs r upd new := ⟨h.1, fun ι S w vs hs _ hb hd hv => h.2 ι S w vs hs trivial hb hd hv⟩
end Go.Proofs.YtkbhmcdoedmffaaGreatDoor

namespace Go.Proofs.YtkbhmcdoedmffaaGreatDoor
open Go.RowKit

def stC (k : Nat) (d : D) : CV → CV
  | .row j => match Nat.beq j k with
    | true => .d d
    | false => .row j
  | x => x
def stT (k : Nat) (d : D) : T1 → T1
  | .c x => .c (stC k d x)
  | .g l => .g (l.map (stC k d))
  | .f h a l => .f h a (l.map (stC k d))
def stV (k : Nat) (d : D) : TV → TV
  | .o x => .o (stT k d x)
  | .tup l => .tup (l.map (stT k d))
  | x => x
def stB (k : Nat) (d : D) : Blk → Blk
  | .obj l t => .obj (l.map (stC k d)) t
  | x => x
def rpC (k : Nat) : CV → Bool
  | .rptr j _ _ _ => Nat.beq j k
  | .mp j => Nat.beq j k
  | .rsl j _ _ _ => Nat.beq j k
  | .ptr j _ => Nat.beq j k
  | _ => false
def rpT (k : Nat) : T1 → Bool
  | .c x => rpC k x
  | .g l => l.any (rpC k)
  | .f _ _ l => l.any (rpC k)
def rpV (k : Nat) : TV → Bool
  | .o x => rpT k x
  | .tup l => l.any (rpT k)
  | _ => false
def rpB (k : Nat) : Blk → Bool
  | .obj l _ => l.any (rpC k)
  | _ => false
def stX (k : Nat) (d : D) (_ : Nat) (x : TV) : TV := match rpV k x with
  | true => .no
  | false => stV k d x
def stM (k : Nat) (d : D) (j : Nat) (x : Blk) : Blk := match Nat.beq j k || rpB k x with
  | true => .dead
  | false => stB k d x
def stillSt (k : Nat) (d : D) (s : St) : St := ⟨s.tm.map fun p => (p.1, stX k d p.1 p.2), s.mem.map fun p => (p.1, stM k d p.1 p.2), s.nx⟩
theorem findL_map {α β : Type} (F : Nat → α → β) : ∀ (l : List (Nat × α)) (t : Nat), findL (l.map fun p => (p.1, F p.1 p.2)) t = (findL l t).map (F t)
  | [], t => rfl
  | (j, v) :: l, t => by
    simp only [List.map_cons, findL]
    split
    · rename_i e; subst e; rfl
    · exact findL_map F l t
section
variable {ι : Nat → Value} {S S' : Nat → Prop} {w : World} {k : Nat} {d : D}
theorem stC_ok (hS : ∀ b, S b → S' b) (hd : Imm S' w d (ι k)) {x : CV} {u : Value} (h : VC ι S w x u) : VC ι S' w (stC k d x) u := by
  cases x with
  | row j =>
    simp only [stC]
    split
    · rename_i hb
      obtain rfl := Nat.eq_of_beq_eq_true hb
      rw [h.1]
      exact hd
    · exact VC.mono (x := .row j) (fun _ _ => rfl) hS (fun _ _ => rfl) h
  | d x => exact VC.mono (x := .d x) (fun _ _ => rfl) hS (fun _ _ => rfl) h
  | ptr j o => exact VC.mono (x := .ptr j o) (fun _ _ => rfl) hS (fun _ _ => rfl) h
  | eptr cs => exact VC.mono (x := .eptr cs) (fun _ _ => rfl) hS (fun _ _ => rfl) h
  | rptr a b c e => exact VC.mono (x := .rptr a b c e) (fun _ _ => rfl) hS (fun _ _ => rfl) h
  | mp j => exact VC.mono (x := .mp j) (fun _ _ => rfl) hS (fun _ _ => rfl) h
  | rsl a b c e => exact VC.mono (x := .rsl a b c e) (fun _ _ => rfl) hS (fun _ _ => rfl) h
theorem stT_ok (hS : ∀ b, S b → S' b) (hd : Imm S' w d (ι k)) {x : T1} {u : Value} (h : V1 ι S w x u) : V1 ι S' w (stT k d x) u := by
  cases x with
  | c x => exact stC_ok hS hd h
  | g l =>
    obtain ⟨us, h1, h2⟩ := h
    exact ⟨us, h1, h2.mono (fun a b hab => stC_ok hS hd hab) |> All2.map_left⟩
  | f g a l =>
    obtain ⟨us, h1, h2⟩ := h
    exact ⟨us, h1, h2.mono (fun a b hab => stC_ok hS hd hab) |> All2.map_left⟩
theorem stV_ok (hS : ∀ b, S b → S' b) (hd : Imm S' w d (ι k)) {x : TV} {u : Value} (h : V ι S w x u) : V ι S' w (stV k d x) u := by
  cases x with
  | no => trivial
  | und => exact h
  | o x => exact stT_ok hS hd h
  | tup l =>
    obtain ⟨us, h1, h2⟩ := h
    exact ⟨us, h1, h2.mono (fun a b hab => stT_ok hS hd hab) |> All2.map_left⟩
  | pan v => exact h
end
theorem SLe.still {nx0 : Nat} {s : St} (k size : Nat) (e : TypeId) (rows : List (List D)) (hk : findL s.mem k = some (.row size e rows)) : SLe nx0 (stillSt k (.sl size rows) s) s := fun E a w he ⟨ι, S, I⟩ => by
  have hb0 := I.blk k _ hk
  have hlt := row_lt hb0
  have hS : ∀ b, S b → giveUp ι S [k] b := fun b hb => .inl hb
  have hd : Imm (giveUp ι S [k]) w (.sl size rows) (ι k) := row_imm hb0 hS (fun g hg => .inr ⟨k, by simp, hg⟩)
  have hmem : ∀ n b, findL (stillSt k (.sl size rows) s).mem n = some b → b.live = true → n ≠ k ∧ ∃ b0, findL s.mem n = some b0 ∧ b0.live = true ∧ b = stB k (.sl size rows) b0 := fun n b hb hl => by
    have hb : findL (s.mem.map fun p => (p.1, stM k (.sl size rows) p.1 p.2)) n = some b := hb
    rw [findL_map (stM k (.sl size rows))] at hb
    obtain ⟨b0, h1, h2⟩ := Option.map_eq_some_iff.1 hb
    unfold stM at h2
    split at h2
    · subst h2; cases hl
    · rename_i hf
      subst h2
      refine ⟨fun h => ?_, b0, h1, ?_, rfl⟩
      · rw [Bool.or_eq_false_iff] at hf
        exact absurd h (Nat.ne_of_beq_eq_false hf.1)
      · cases b0 <;> first | rfl | exact hl
  have hdead : ∀ n b, findL (stillSt k (.sl size rows) s).mem n = some b → b.live = false → b = .dead := fun n b _ hl => by cases b <;> first | rfl | cases hl
  have hS' : ∀ n b, findL s.mem n = some b → b.live = true → n ≠ k → ∀ g, blkOf (ι n) = some g → ¬ giveUp ι S [k] g := fun n b hb hl hn g hg hs => by
    rcases hs with hs | ⟨j, hj, hs⟩
    · have h := I.blk n b hb
      exact (h.sep hl hg).2 hs
    · obtain rfl : j = k := by simpa using hj
      exact hn (I.dst n j b _ g hb hk hl rfl hg hs)
  refine ⟨ι, giveUp ι S [k], I.os, I.tape, I.output, I.size, I.old, fun b hb => ?_, fun b hb => .inl (I.s0 b hb), fun b hb => ?_, fun t tv ht => ?_, fun n b hb => ?_, fun n b hb hl g hg => ?_, fun n n' b b' g hb hb' hl hl' hg hg' => ?_, I.dn, I.sz, E.Γ.mono (fun _ _ => rfl) hS I.gl, I.ik⟩
  · rcases hb with hb | ⟨j, hj, hb⟩
    · exact I.slt b hb
    · obtain rfl : j = k := by simpa using hj
      exact (hlt b hb).1
  · rcases hb with hb | ⟨j, hj, hb⟩
    · exact I.sg b hb
    · obtain rfl : j = k := by simpa using hj
      rcases I.mutb j _ hk rfl b hb with h | h
      · exact .inr (.inr h)
      · exact .inr (.inl h)
  · have ht : findL (s.tm.map fun p => (p.1, stX k (.sl size rows) p.1 p.2)) t = some tv := ht
    rw [findL_map (stX k (.sl size rows))] at ht
    obtain ⟨tv0, h1, h2⟩ := Option.map_eq_some_iff.1 ht
    unfold stX at h2
    split at h2
    · subst h2; trivial
    · subst h2
      exact stV_ok hS hd (I.tms t tv0 h1)
  · cases hl : b.live with
    | false => rw [hdead n b hb hl]; trivial
    | true =>
      obtain ⟨hn, b0, h1, h2, rfl⟩ := hmem n b hb hl
      have h := I.blk n b0 h1
      cases b0 with
      | dead => cases h2
      | obj cells tg =>
        obtain ⟨b2, arr, ty, e1, e2, e3, e4⟩ := h
        exact ⟨b2, arr, ty, e1, e2, All2.map_left (e3.mono fun a b hab => stC_ok hS hd hab), hS' n _ h1 rfl hn b2 (by rw [e1]; rfl)⟩
      | row size' e' rows' =>
        obtain ⟨cs, e1, e2, e3, e4⟩ := h
        exact ⟨cs, e1, e2.mono fun a b hab => Imm.mono (fun _ _ => rfl) hS hab, e3, fun g hg => hS' n _ h1 rfl hn g hg⟩
      | map es =>
        obtain ⟨b2, arr, clock, e1, e2, e3, e4⟩ := h
        exact ⟨b2, arr, clock, e1, e2, e3, hS' n _ h1 rfl hn b2 (by rw [e1]; rfl)⟩
  · obtain ⟨hn, b0, h1, h2, rfl⟩ := hmem n b hb hl
    exact I.mutb n b0 h1 h2 g hg
  · obtain ⟨hn, b0, h1, h2, rfl⟩ := hmem n b hb hl
    obtain ⟨hn', b0', h1', h2', rfl⟩ := hmem n' b' hb' hl'
    exact I.dst n n' b0 b0' g h1 h1' h2 h2' hg hg'
end Go.Proofs.YtkbhmcdoedmffaaGreatDoor

namespace Go.Proofs.YtkbhmcdoedmffaaGreatDoor
open Go.RowKit
theorem and_mk {a b : Prop} (h : a) (k : b) : a ∧ b := ⟨h, k⟩
end Go.Proofs.YtkbhmcdoedmffaaGreatDoor

namespace Go.Proofs.YtkbhmcdoedmffaaGreatDoor
set_option linter.unusedVariables false
set_option linter.unusedSimpArgs false
open Go.RowKit

theorem tT {p : Prop} [Decidable p] {K : Bool → Prop} (k : K true) (h : p := by first | decide | omega | assumption | (with_reducible exact rfl)) : ∃ b, decide p = b ∧ K b := ex_true h k
theorem tF {p : Prop} [Decidable p] {K : Bool → Prop} (k : K false) (h : ¬ p := by first | decide | omega | assumption | exact (fun h => h rfl)) : ∃ b, decide p = b ∧ K b := ex_false h k
theorem t8 {e : Int} {K : Int → Prop} (k : K e) (h1 : 0 ≤ e := by omega) (h2 : e < 256 := by omega) : ∃ z, IntKind.u8.wrap e = z ∧ K z := ex_u8 e rfl h1 h2 k
theorem tI {e : Int} {K : Int → Prop} (k : K e) (h1 : -9223372036854775808 ≤ e := by omega) (h2 : e ≤ 9223372036854775807 := by omega) : ∃ z, IntKind.i64.wrap e = z ∧ K z := ex_i64 e rfl h1 h2 k
theorem tU {e : Int} {K : Int → Prop} (k : K e) (h1 : 0 ≤ e := by omega) (h2 : e < 18446744073709551616 := by omega) : ∃ z, IntKind.u64.wrap e = z ∧ K z := ex_u64 e rfl h1 h2 k
theorem tA {a b : Prop} (k : b) (h : a := by first | omega | (with_reducible rfl) | (show drawOk _ _ _ = true; kernel_rfl)) : a ∧ b := ⟨h, k⟩
theorem tB {a b : Prop} (k : b) (h : a := by exact ⟨_, rfl⟩) : a ∧ b := ⟨h, k⟩
theorem tL {α β : Type} {f : α → β} {l : List α} {K : Nat → Prop} (k : K l.length) : ∃ z, (l.map f).length = z ∧ K z := ⟨_, List.length_map _, k⟩
theorem tN {α : Type} {K : Nat → Prop} (k : K 0) : ∃ z, ([] : List α).length = z ∧ K z := ⟨0, List.length_nil, k⟩
/-- A list of blocks within another. -/
inductive SubL : List (Nat × Blk) → List (Nat × Blk) → Prop where
  | nil {m : List (Nat × Blk)} : SubL [] m
  | cons {a : Nat × Blk} {l m : List (Nat × Blk)} : SubL l m → SubL (a :: l) (a :: m)
  | skip {a : Nat × Blk} {l m : List (Nat × Blk)} : SubL l m → SubL l (a :: m)
theorem SubL.mem {l m : List (Nat × Blk)} (h : SubL l m) : ∀ p ∈ l, p ∈ m := by
  induction h with
  | nil => intro p hp; cases hp
  | cons _ ih =>
    intro p hp
    rcases List.mem_cons.1 hp with rfl | hp
    · exact List.mem_cons_self
    · exact List.mem_cons_of_mem _ (ih p hp)
  | skip _ ih => exact fun p hp => List.mem_cons_of_mem _ (ih p hp)
theorem sC {P : Program} {Γ : Glob} {f : FuncId} {m m' : List (Nat × Blk)} {nx : Nat} {xs : List T1} {r : TV} {upd : List (Nat × Blk)} {new : List Blk} (h : CallsM P Γ f m nx xs r upd new) {K : TV → List (Nat × Blk) → List Blk → Prop} (hk : K r upd new)
    (hs : SubL m m' := by repeat (first | exact SubL.nil | refine SubL.cons ?_ | refine SubL.skip ?_)) : ∃ r upd new, CallsM P Γ f m' nx xs r upd new ∧ K r upd new := ⟨r, upd, new, h.more hs.mem, hk⟩
end Go.Proofs.YtkbhmcdoedmffaaGreatDoor

namespace Go.Proofs.YtkbhmcdoedmffaaGreatDoor
open Go.RowKit

def retOkK (L : Nat → Option Lay) (rs : List ResultVar) (ns : List Nat) (nx : Nat) (r : TV) (upd : List (Nat × Blk)) (new : List Blk) (st : St) : Prop :=
  match rs.map (resC L st) with
  | some (.o (.c (.row k))) :: l => match eatT (findL st.mem) l, subMem (findL st.mem) ns, subMem (findL st.mem) [k] with
    | some (y :: ys, ks), some u, some n => (nodupB [k] && disj ks [k] && (ks.all fun k => Nat.ble nx k) && ([k].all fun k => Nat.ble nx k) && closB nx [k] u && closB nx [k] n) = true ∧ TLe (.tup (.c (.row nx) :: y :: ys)) r ∧ renM (expN nx [k]) u = upd ∧ (n.map fun p => p.2.ren (expN nx [k])) = new
    | _, _, _ => False
  | _ => False
def fnQK (L : Nat → Option Lay) (rs : List ResultVar) (ns : List Nat) (nx : Nat) (r : TV) (upd : List (Nat × Blk)) (new : List Blk) : Exit → St → Prop
  | .normal, st | .ret, st => retOkK L rs ns nx r upd new st
  | _, _ => False
theorem CallsA.toM {P : Program} {Γ : Glob} {f : FuncId} {xs : List T1} {r : TV} (h : CallsA P Γ f xs r) (hx : xs.all T1.pure = true) (hr : r.pure = true) (nx : Nat) : CallsM P Γ f [] nx xs r [] [] :=
  ⟨h.1, fun ι S w vs hs hG _ _ hv => (h.2 S w vs hs hG (hv.mono_mem fun a u ha hau => V1.mono (fun _ _ => rfl) (fun _ h => h) (fun k hk => by rw [T1.pure_men (List.all_eq_true.1 hx a ha) k] at hk; cases hk) hau)).mono fun e w' ⟨x, S', he, hb, hm, hg, hlt, hv⟩ =>
    .inl ⟨x, ι, S', he, ⟨V.mono (fun _ _ => rfl) (fun _ h => h) (fun k hk => by rw [TV.pure_men hr k] at hk; cases hk) hv, fun _ _ => rfl, hm, fun b hb => (hg b hb).elim .inl (fun h => .inr (.inl h)), hlt, hb.os, hb.tape, hb.output, hb.size, fun b hb' _ => hb.block b hb', (fun _ _ h => by simp at h), (fun _ _ h => by simp at h), (fun _ _ h => by simp at h), (fun _ _ _ _ _ h => by simp at h)⟩⟩⟩
end Go.Proofs.YtkbhmcdoedmffaaGreatDoor

namespace Go.Proofs.YtkbhmcdoedmffaaGreatDoor
open Go.RowKit

def refsC1 : CV → List Nat
  | .ptr k _ | .row k | .rptr k _ _ _ | .mp k | .rsl k _ _ _ => [k]
  | _ => []
def refsT : List T1 → List Nat
  | [] => []
  | .c x :: l => refsC1 x ++ refsT l
  | .g x :: l => x.flatMap refsC1 ++ refsT l
  | .f _ _ x :: l => x.flatMap refsC1 ++ refsT l
def retOkR (L : Nat → Option Lay) (rs : List ResultVar) (ns : List Nat) (nx : Nat) (r : TV) (upd : List (Nat × Blk)) (new : List Blk) (st : St) : Prop :=
  match plainT (rs.map (resC L st)) with
  | some ys => forceNs ((reach (findL st.mem) 60 (ns ++ refsT ys) []).filter fun k => Nat.ble nx k) fun src => match subMem (findL st.mem) ns, subMem (findL st.mem) src with
    | some u, some n => (nodupB src && disj [] src && (([] : List Nat).all fun k => Nat.ble nx k) && (src.all fun k => Nat.ble nx k) && closB nx src u && closB nx src n) = true ∧ ((refsT ys).all fun k => Nat.blt k nx || src.any (Nat.beq k)) = true ∧ TLe ((retT ys).ren (expN nx src)) r ∧ renM (expN nx src) u = upd ∧ (n.map fun p => p.2.ren (expN nx src)) = new
    | _, _ => False
  | none => False
def fnQR (L : Nat → Option Lay) (rs : List ResultVar) (ns : List Nat) (nx : Nat) (r : TV) (upd : List (Nat × Blk)) (new : List Blk) : Exit → St → Prop
  | .normal, st | .ret, st => retOkR L rs ns nx r upd new st
  | .panic ch, st => panIs r ch ∧ retOkP ns nx upd new st
  | _, _ => False
theorem results_okR {P : Program} {L : Nat → Option Lay} (hL : LOk P L) {E : Env} {ι : Nat → Value} {S : Nat → Prop} {st : St} {a : Act} {w : World} (I : Inv E ι S (findL st.tm) (findL st.mem) a w) {fn : Func} {ys : List T1}
    (hy : plainT (fn.results.toList.map (resC L st)) = some ys) : ∃ v, (results fn a.tmps).run P w = .ok v w ∧ V ι S w (retT ys) v := by
  have hone : ∀ rv tv, resC L st rv = some tv → ∃ v, (resF a.tmps rv).run P w = .ok v w ∧ V ι S w tv v := fun rv tv hrv => by
    cases rv with
    | tmp t => exact ⟨_, rfl, I.tms t tv hrv⟩
    | cell b t =>
      simp only [resC] at hrv
      split at hrv
      · rename_i l k off hl hb
        split at hrv
        · rename_i cells tg hk
          split at hrv
          · rename_i hle
            obtain ⟨bk, hb1, hb2⟩ := I.tms b _ hb
            obtain ⟨b', arr, ty, h3, h4, h5, _⟩ := I.blk k _ hk
            obtain rfl : bk = b' := by rw [hb1] at h3; cases h3; rfl
            have hlen := h5.len
            have hle' := Nat.le_of_ble_eq_true hle
            have hr := run_load_range (P := P) (layOf_ok (hL _ _ hl)) (w := w) (g := bk) (f := off) (us := (arr.toList.drop off).take l.size) (by simp at hlen ⊢; omega) (fun j u hj => by
              obtain ⟨hj1, _⟩ := drop_take_get hj
              rw [cell_of_row w bk (off + j) arr ty.1 (0, 0) h4]
              simpa using hj1)
            rcases V_ofCells hrv ((h5.drop off).take l.size) with ⟨ha, hV⟩ | ⟨ha, u, hu, hV⟩
            · exact ⟨_, by simp only [resF, hb2]; simp [asAddr, hr.1 ha], hV⟩
            · exact ⟨_, by simp only [resF, hb2]; simp [asAddr, hr.2 ha u hu], hV⟩
          · cases hrv
        · cases hrv
      · cases hrv
  have hvals : ∀ (l : List ResultVar) (ys : List T1), plainT (l.map (resC L st)) = some ys → ∃ vs, All2 (fun rv v => (resF a.tmps rv).run P w = .ok v w) l vs ∧ All2 (fun (a : Option TV) u => ∀ tv, a = some tv → V ι S w tv u) (l.map (resC L st)) vs := fun l => by
    induction l with
    | nil => intro ys _; exact ⟨[], .nil, .nil⟩
    | cons rv l ih =>
      intro ys h
      simp only [List.map_cons] at h
      cases hrv : resC L st rv with
      | none => rw [hrv] at h; simp [plainT] at h
      | some tv =>
        rw [hrv] at h
        cases tv with
        | no => simp [plainT] at h
        | und => simp [plainT] at h
        | tup l => simp [plainT] at h
        | pan v => simp [plainT] at h
        | o x =>
          simp only [plainT] at h
          obtain ⟨ys', h2, -⟩ := Option.map_eq_some_iff.1 h
          obtain ⟨vs, g1, g2⟩ := ih ys' h2
          obtain ⟨v, e1, e2⟩ := hone rv _ hrv
          refine ⟨v :: vs, .cons e1 g1, ?_⟩
          simp only [List.map_cons]
          refine .cons (fun tv htv => ?_) g2
          rw [hrv] at htv; cases htv
          exact e2
  obtain ⟨vs, g1, g2⟩ := hvals _ ys hy
  have hres : (results fn a.tmps).run P w = .ok (if h : vs.toArray.size = 1 then vs.toArray[0] else .tuple vs.toArray) w := by
    have h1 := mapM_run _ _ _ g1
    rw [results_F, Sem.run_bind, Array.mapM_eq_mapM_toList, run_map, h1]
    rfl
  refine ⟨_, hres, ?_⟩
  have hall := plainT_ok (S' := S) (fun b hb => hb) hy g2
  match ys, vs, hall with
  | [y], vs, hall =>
    obtain ⟨v, rfl, hv⟩ := hall.one_left
    exact hv
  | [], vs, hall =>
    obtain rfl := hall.nil_left
    exact ⟨[], rfl, .nil⟩
  | y :: z :: ys, vs, hall =>
    have : ¬ vs.toArray.size = 1 := by have := hall.len; simp at this ⊢; omega
    rw [dif_neg this]
    exact ⟨vs, rfl, hall⟩
end Go.Proofs.YtkbhmcdoedmffaaGreatDoor

namespace Go.Proofs.YtkbhmcdoedmffaaGreatDoor
open Go.RowKit

def DLe (d d' : D) : Prop := ∀ (S : Nat → Prop) (w : World) (u : Value), Imm S w d u → Imm S w d' u
theorem DLe.rfl {d : D} : DLe d d := fun _ _ _ h => h
theorem DLe.nil {s : Nat} : DLe dnil (.sl s []) := fun _ _ _ h => by cases h; exact Imm.nil
end Go.Proofs.YtkbhmcdoedmffaaGreatDoor

namespace Go.Proofs.YtkbhmcdoedmffaaGreatDoor
open Go.RowKit

def flatTV : TV → Bool
  | .o (.c (.d (.v _))) => true
  | .tup l => l.all fun x => match x with
    | .c (.d (.v _)) => true
    | _ => false
  | _ => false
end Go.Proofs.YtkbhmcdoedmffaaGreatDoor

namespace Go.Proofs.YtkbhmcdoedmffaaGreatDoor
open Go.RowKit

theorem SLe.kill {nx0 : Nat} {tm : List (Nat × TV)} {mem : List (Nat × Blk)} {nx nx' : Nat} {t : St} (k : Nat) (h : SLe nx0 ⟨tm, mem, nx⟩ t) : SLe nx0 ⟨tm, (k, .dead) :: mem, nx'⟩ t := fun E a w he hR => by
  obtain ⟨ι, S, I⟩ := h E a w he hR
  have hcase : ∀ n b, findL ((k, Blk.dead) :: mem) n = some b → b.live = true → findL mem n = some b := fun n b hb hl => by
    simp only [findL] at hb
    split at hb
    · cases hb; cases hl
    · exact hb
  refine ⟨ι, S, I.os, I.tape, I.output, I.size, I.old, I.slt, I.s0, I.sg, I.tms, fun n b hb => ?_, fun n b hb hl => I.mutb n b (hcase n b hb hl) hl, fun n n' b b' g hb hb' hl hl' => I.dst n n' b b' g (hcase n b hb hl) (hcase n' b' hb' hl') hl hl', I.dn, I.sz, I.gl, I.ik⟩
  cases hl : b.live with
  | true => exact I.blk n b (hcase n b hb hl)
  | false => cases b <;> first | trivial | cases hl
end Go.Proofs.YtkbhmcdoedmffaaGreatDoor

namespace Go.Proofs.YtkbhmcdoedmffaaGreatDoor
open Go.RowKit

def deadM (ns : List Nat) : List (Nat × Blk) := ns.map fun k => (k, .dead)
def fnQP (L : Nat → Option Lay) (rs : List ResultVar) (ns : List Nat) (nx : Nat) (r : TV) (upd : List (Nat × Blk)) (new : List Blk) : Exit → St → Prop
  | .normal, st | .ret, st => retOkM L rs ns nx r upd new st
  | .panic ch, _ => panIs r ch ∧ upd = deadM ns ∧ new = []
  | _, _ => False
theorem SLe.rfl {nx0 : Nat} {s : St} : SLe nx0 s s := fun _ _ _ _ h => h
theorem fn_ruleP {C : Ctx} {f : FuncId} {fn : Func} {c : Code} (hL : LOk C.P C.L) (hm : C.P.follows .mixedOrders = true) (hf : C.P.funcs[f]? = some fn) (hb : fn.body = some c) (hname : (fn.name == "runtime.NumGoroutine") = false)
    (hn : fn.ntmps = C.n) {xs : List T1} (hx : Nat.ble xs.length C.n = true) {m : List (Nat × Blk)} (hml : (m.all fun p => Nat.blt p.1 C.nx0) = true) {r : TV} {upd : List (Nat × Blk)} {new : List Blk} {st0 : St} (h0 : SLe C.nx0 st0 ⟨argTm 0 xs, m, C.nx0⟩)
    (h : vc C c st0 (fnQP C.L fn.results.toList (m.map (·.1)) C.nx0 r upd new)) : CallsM C.P C.Γ f m C.nx0 xs r upd new := by
  refine ⟨⟨fn, hf, hname, by rw [hb]; rfl⟩, fun ι S w vs hS hG hblk hdst hvs => ?_⟩
  have hxl := Nat.le_of_ble_eq_true hx
  have hlen := hvs.len
  have hmlt : ∀ p ∈ m, p.1 < C.nx0 := fun p hp => Nat.lt_of_succ_le (Nat.le_of_ble_eq_true (List.all_eq_true.1 hml p hp))
  refine calls_of_wp hf hb ?_
  have hR : RS ⟨w, fun g => ∃ p ∈ m, p.2.live = true ∧ blkOf (ι p.1) = some g, S, C.n, C.Γ, ι, C.nx0, []⟩ ⟨argTm 0 xs, m, C.nx0⟩ { tmps := vs.toArray ++ Array.replicate (fn.ntmps - vs.toArray.size) undef, defers := [] } w := by
    refine ⟨ι, S, rfl, rfl, rfl, Nat.le_refl _, fun _ _ _ => rfl, hS, fun _ h => h, fun _ h => .inl h, fun t tv ht => ?_, fun k b hk => hblk _ (findL_mem hk), fun k b hk hl g hg => .inl ⟨(k, b), findL_mem hk, hl, hg⟩, fun k k' b b' g hk hk' hl hl' hg hg' => hdst _ (findL_mem hk) _ (findL_mem hk') g hl hl' hg hg', rfl, ?_, hG, fun _ _ => rfl⟩
    · obtain ⟨x, rfl, _, hx⟩ := argTm_find xs 0 t tv ht
      rw [Nat.sub_zero] at hx
      obtain ⟨u, hu, hv⟩ := hvs.at_left hx
      have hlt := (List.getElem?_eq_some_iff.1 hu).1
      have : (vs.toArray ++ Array.replicate (fn.ntmps - vs.toArray.size) undef).getD t undef = u := by
        simp [Array.getElem?_append, hlt, hu]
        have h2 := (List.getElem?_eq_some_iff.1 hu).2
        exact h2
      show V ι S w (.o x) _
      dsimp only
      rw [this]
      exact hv
    · simp; omega
  refine Code.wp_mono (fun e a w' hq => ?_) (vc_ok hL ⟨rfl, rfl, rfl⟩ hm c _ _ _ w h (h0 _ _ _ rfl hR))
  obtain ⟨st, hR', hq⟩ := hq
  have core := core_after (C := C) (m := m) (upd := upd) (new := new) (ι := ι) (S := S) (w := w) (w' := w') (st := st) (a := a) (dd := []) (en := C.n) hmlt
  have key : retOkM C.L fn.results.toList (m.map (·.1)) C.nx0 r upd new st → a.defers = [] ∧ ∃ v, (results fn a.tmps).run C.P w' = .ok v w' ∧ ((∃ x ι' S', Ending.returned v = .returned x ∧ After ι S w C.nx0 ⟨r, m.map (·.1), upd, new⟩ x ι' S' w') ∨ ∃ v0 ι' S', r = .pan v0 ∧ Ending.returned v = .panicked (panE v0) ∧ After ι S w C.nx0 ⟨.und, m.map (·.1), upd, new⟩ undef ι' S' w') := fun hret => by
    obtain ⟨ι1, S1, I⟩ := hR'
    unfold retOkM at hret
    split at hret
    · rename_i ys ks u n src hy hex
      obtain ⟨hchk, hr, hu, hnw⟩ := hret
      obtain ⟨v, hres, hrows, hval⟩ := results_ok hL I hy
      obtain ⟨ι', S', A⟩ := core ι1 S1 r v ks u n src I hex hchk hu hnw hrows (fun ι' => hr _ _ _ _ (hval ι'))
      exact ⟨I.dn, v, hres, .inl ⟨v, ι', S', rfl, A⟩⟩
    · exact hret.elim
  cases e with
  | normal => exact key hq
  | ret => exact key hq
  | panic ch =>
    obtain ⟨⟨v0, hr0, rfl⟩, hu, hnw⟩ := hq
    obtain ⟨ι1, S1, I⟩ := hR'
    refine ⟨I.dn, .inr ⟨v0, ι, S, hr0, rfl, rfl, fun _ _ => rfl, fun _ h => h, fun _ h => .inl h, fun b hb => Nat.lt_of_lt_of_le (hS b hb) I.size, I.os, I.tape, I.output, I.size, fun b hb hne => I.old b hb fun ⟨p, hp, _, hg⟩ => ?_, fun k b hk => ?_, fun i b hb => ?_, fun i b hb => ?_, fun i j b b' g hb => ?_⟩⟩
    · refine hne p.1 ?_ hg
      rw [hu]
      simp only [deadM, List.map_map, List.mem_map]
      exact ⟨p, hp, rfl⟩
    · have hk : (k, b) ∈ upd := hk
      rw [hu] at hk
      simp only [deadM, List.mem_map] at hk
      obtain ⟨_, _, he⟩ := hk
      cases he
      trivial
    · have hb : new[i]? = some b := hb
      rw [hnw] at hb; simp at hb
    · have hb : new[i]? = some b := hb
      rw [hnw] at hb; simp at hb
    · have hb : new[i]? = some b := hb
      rw [hnw] at hb; simp at hb
  | _ => exact hq.elim
def T1Le (x y : T1) : Prop := ∀ (ι : Nat → Value) (S : Nat → Prop) (w : World) (v : Value), V1 ι S w x v → V1 ι S w y v
theorem T1Le.rfl {x : T1} : T1Le x x := fun _ _ _ _ h => h
theorem T1Le.g {l m : List D} (h : All2 DLe l m) : T1Le (gD l) (gD m) := fun ι S w v ⟨us, hu, hv⟩ => by
  refine ⟨us, hu, ?_⟩
  have hl : l.length = us.length := by have := hv.len; rwa [List.length_map] at this
  refine ⟨by rw [List.length_map, ← h.len]; exact hl, fun i a u ha hu' => ?_⟩
  rw [List.getElem?_map] at ha
  obtain ⟨d', hd', rfl⟩ := Option.map_eq_some_iff.1 ha
  obtain ⟨d, hd, hdd⟩ := h.at_right hd'
  have : VC ι S w (.d d) u := hv.get i _ u (by rw [List.getElem?_map, hd]; rfl) hu'
  exact hdd S w u this
theorem TLe.o {x y : T1} (h : T1Le x y) : TLe (.o x) (.o y) := h
theorem CallsM.argsLe {P : Program} {Γ : Glob} {f : FuncId} {m : List (Nat × Blk)} {nx : Nat} {xs ys : List T1} {r : TV} {upd : List (Nat × Blk)} {new : List Blk} (h : CallsM P Γ f m nx ys r upd new) (hx : All2 T1Le xs ys) : CallsM P Γ f m nx xs r upd new :=
  ⟨h.1, fun ι S w vs hS hG hb hd hv => h.2 ι S w vs hS hG hb hd ⟨by rw [← hx.len]; exact hv.len, fun i a u ha hu => by
    obtain ⟨x, hx', hxx⟩ := hx.at_right ha
    exact hxx ι S w u (hv.get i _ u hx' hu)⟩⟩
end Go.Proofs.YtkbhmcdoedmffaaGreatDoor

namespace Go.Proofs.YtkbhmcdoedmffaaGreatDoor
open Go.RowKit

structure Ext (W : World) where
  w : World
  b : Below W.heap.size W w

instance {W : World} : Nonempty (Ext W) := ⟨⟨W, Below.refl _ _⟩⟩
instance {W : World} : Inhabited (Ext W) := ⟨⟨W, Below.refl _ _⟩⟩

class ExtC (W : outParam World) (w : World) : Prop where
  b : Below W.heap.size W w
class LtC (n m : Nat) : Prop where
  h : n < m
class LeC (n m : Nat) : Prop where
  h : n ≤ m
instance (priority := 2000) (n : Nat) : LeC n n := ⟨Nat.le_refl _⟩
instance (priority := 1900) (n m : Nat) [LeC n m] : LeC n (m + 1) := ⟨Nat.le_succ_of_le LeC.h⟩
instance (priority := 1800) (n m : Nat) [LeC n m] : LeC (n + 1) (m + 1) := ⟨Nat.succ_le_succ LeC.h⟩
instance (n : Nat) (w : World) (o : Obj) [LeC n (w.heap.size + 1)] : LeC n (w.alloc o).heap.size := ⟨by rw [World.size_alloc]; exact LeC.h⟩
instance (n : Nat) (w : World) (a : Addr) (v : Value) [LeC n w.heap.size] : LeC n (w.setCell a v).heap.size := ⟨by simp only [World.setCell, Array.size_modify]; exact LeC.h⟩
instance (n : Nat) (w : World) [LeC n w.heap.size] : LeC n w.drew.heap.size := ⟨(LeC.h : n ≤ w.heap.size)⟩
instance (n : Nat) (W w : World) [h : ExtC W w] [LeC n W.heap.size] : LeC n w.heap.size := ⟨Nat.le_trans LeC.h h.b.size⟩
instance (priority := 2000) (n : Nat) : LtC n (n + 1) := ⟨Nat.lt_succ_self _⟩
instance (priority := 1900) (n m : Nat) [LtC n m] : LtC n (m + 1) := ⟨Nat.lt_succ_of_lt LtC.h⟩
instance (priority := 1800) (n m : Nat) [LtC n m] : LtC (n + 1) (m + 1) := ⟨Nat.succ_lt_succ LtC.h⟩
instance (n : Nat) (w : World) (o : Obj) [LtC n (w.heap.size + 1)] : LtC n (w.alloc o).heap.size := ⟨by rw [World.size_alloc]; exact LtC.h⟩
instance (n : Nat) (w : World) (a : Addr) (v : Value) [LtC n w.heap.size] : LtC n (w.setCell a v).heap.size := ⟨by simp only [World.setCell, Array.size_modify]; exact LtC.h⟩
instance (n : Nat) (w : World) [LtC n w.heap.size] : LtC n w.drew.heap.size := ⟨(LtC.h : n < w.heap.size)⟩
instance (n : Nat) (W w : World) [h : ExtC W w] [LtC n W.heap.size] : LtC n w.heap.size := ⟨Nat.lt_of_lt_of_le LtC.h h.b.size⟩
instance {W : World} (x : Ext W) : ExtC W x.w := ⟨x.b⟩

class AtC (w : World) (b : Nat) (W : outParam World) : Prop where
  h : w.heap[b]? = W.heap[b]?
instance {W w : World} (b : Nat) [h : ExtC W w] [LtC b W.heap.size] : AtC w b W := ⟨h.b.block b LtC.h⟩
def cellOf (W : World) (b o : Nat) : Option Value := W.cell? ⟨b, o, none⟩
def frozenOf (W : World) (b o : Nat) : Bool := W.frozen? ⟨b, o, none⟩
section
variable {P : Program} {ops : Array Oper} {md : Region.Mode} {C : World → Prop}

def backB (md : Region.Mode) (ops : Array Oper) : Bool :=
  (List.range ops.size).all fun i => match ops[i]? with
    | some o => o.after.all fun e => !Region.binds md e || decide (e.on < i)
    | none => true
def tailB (md : Region.Mode) (ops : Array Oper) (n : Nat) : Bool :=
  (List.range ops.size).all fun t => decide (t < n) || (List.range n).all fun i => Region.waitsFor md ops t i
def guardB (ops : Array Oper) (n : Nat) : Bool :=
  (List.range n).all fun i => match ops[i]? with
    | some o => match o.guard with
      | some (j, _) => decide (j < n)
      | none => true
    | none => true

def fullTo (n m : Nat) : Array Bool := ((List.range m).map fun i => decide (i < n)).toArray

end


def bcells (l : List UInt8) : List Value := l.map fun b => .int .u8 (b.toNat : Int)

end Go.Proofs.YtkbhmcdoedmffaaGreatDoor

namespace Go.Proofs.YtkbhmcdoedmffaaGreatDoor
open Go.ChangeShapes Go.WideShapes Go.ChangeAt Go.RowKit

theorem own : ownKnob Tryz.prog.godebug = none := by kernel_rfl
theorem laidOut : laidOutB Tryz.prog = true := by kernel_rfl

section
variable {H : Type} {enc : TypeId × Value → H} {P : Program} {W W' : World}

theorem trodAll_below (hl : laidOutB P = true) (hb : Below W.heap.size W W') : ∀ (ts : List TypeId) (vs : List Value) (ds : List (DataW H)) (ps : List MemPlace), (∀ t ∈ ts, P.readableRec t = true ∧ t < P.types.size) →
    DataW.TrodAll enc P W 0 (fun _ => true) true ts vs ds ps → (∀ x ∈ ps, x.block < W.heap.size) → DataW.TrodAll enc P W' 0 (fun b => decide (b < W.heap.size)) true ts vs ds ps
  | [], [], [], _, _, h, _ => h
  | t :: ts, v :: vs, d :: ds, ps, hr, h, hlt => by
    obtain ⟨p, q, h1, h2, rfl⟩ := h
    have ht := hr t (by simp)
    exact ⟨p, q, Below.trod hl ht.1 ht.2 h1 hb (fun x hx => hlt x (by simp [hx])), trodAll_below hl hb ts vs ds q (fun t' h' => hr t' (by simp [h'])) h2 (fun x hx => hlt x (by simp [hx])), rfl⟩
  | [], [], _ :: _, _, _, h, _ => h.elim
  | [], _ :: _, _, _, _, h, _ => h.elim
  | _ :: _, [], _, _, _, h, _ => h.elim
  | _ :: _, _ :: _, [], _, _, h, _ => h.elim

theorem law_post {f : Func} {s : ChangeSpec} {args : Array Value} {ds : List (DataW H)} {before : List MemPlace} {tb : TypeId} (hl : laidOutB P = true)
    (hW : DataW.Whole enc P f.params.toList s.vars false W args.toList ds [] before) (hsv : s.vars = []) (hr0 : (f.params.toList.all fun t => P.readableRec t && decide (t < P.types.size)) = true)
    (hrt : f.resultTypes = #[tb]) (htb : P.underlying tb = some .bool) (h1 : (s.fn H (ds ++ [])).results = [.lit (.bool true)]) (h2 : (s.fn H (ds ++ [])).args = ds) (h3 : (s.fn H (ds ++ [])).vars = [])
    (hb : Below W.heap.size W W') : s.post enc P f false true false false W args (.bool true) W' := by
  have hr : ∀ t ∈ f.params.toList, P.readableRec t = true ∧ t < P.types.size := fun t ht => by simpa using List.all_eq_true.1 hr0 t ht
  have hlt : ∀ p ∈ before, p.block < W.heap.size := fun p hp => hW.lt p hp
  have hW0 := hW
  obtain ⟨p, q, hA, hV, rfl, _, _⟩ := hW0
  rw [hsv] at hV
  obtain rfl : q = [] := hV
  refine ⟨ds, [], _, [], p, [], hW, ?_, ?_, ?_, hb.frame _, fun h => by cases h⟩
  · rw [h1, hrt]
    exact trodAll_mk1 (shut_bool htb true)
  · rw [h2]
    exact trodAll_below hl hb _ _ _ _ hr hA (fun x hx => hlt x (by simp [hx]))
  · rw [h3, hsv]; rfl
end

section
variable {H : Type} {enc : TypeId × Value → H} {P : Program} {w : World} {base : Nat} {sp : Nat → Bool} {held : Bool}

end
end Go.Proofs.YtkbhmcdoedmffaaGreatDoor

namespace Go.Proofs.YtkbhmcdoedmffaaGreatDoor
abbrev bs (l : List UInt8) : ByteArray := ⟨l.toArray⟩
theorem bs_size (l : List UInt8) : (bs l).size = l.length := by simp [ByteArray.size]
structure TokP where
  k : Nat
  t : List UInt8
  n : Nat
  l : Nat
  c : Nat
def isDig (b : UInt8) : Bool := decide (48 ≤ b.toNat) && decide (b.toNat ≤ 57)
def isLet (b : UInt8) : Bool := (decide (65 ≤ b.toNat) && decide (b.toNat ≤ 90)) || ((decide (97 ≤ b.toNat) && decide (b.toNat ≤ 122)) || decide (b.toNat = 95))
def alnum (b : UInt8) : Bool := isDig b || isLet b
def isHex (b : UInt8) : Bool := isDig b || ((decide (97 ≤ b.toNat) && decide (b.toNat ≤ 102)) || (decide (65 ≤ b.toNat) && decide (b.toNat ≤ 70)))
def hexN (b : UInt8) : Nat := if b.toNat ≤ 57 then b.toNat - 48 else if 97 ≤ b.toNat then b.toNat - 87 else b.toNat - 55
def valF (base : Nat) : Nat → List UInt8 → Option Nat
  | n, [] => some n
  | n, b :: r => if n * base + hexN b < 18446744073709551616 then valF base (n * base + hexN b) r else none
inductive TR where
  | ok (k : Nat) (t : List UInt8) (n : Nat)
  | err (e : Nat)
def numR (s : List UInt8) : Option Nat → TR
  | some n => .ok 1 s n
  | none => .err 5
def sixteen (s : List UInt8) : Bool := [48, 120].isPrefixOf s && (decide (2 < s.length) && (s.drop 2).all isHex)
def numF (s : List UInt8) : TR :=
  if sixteen s then numR s (valF 16 0 (s.drop 2)) else if s.all isDig then numR s (valF 10 0 s) else .err 4
def signsL : List (List UInt8) := [[46, 46], [61, 61], [33, 61], [60, 61], [62, 61], [60, 60], [62, 62], [38, 38], [124, 124], [123], [125], [40], [41], [91], [93], [59], [58], [44], [61], [60], [62], [43], [45], [42], [47], [37], [38], [124], [33]]
def signF (r : List UInt8) : Option (List UInt8) := signsL.find? (·.isPrefixOf r)
def tokF (r : List UInt8) : TR :=
  match r.takeWhile alnum with
  | [] => match signF r with | none => .err 4 | some t => .ok 2 t 0
  | b :: w => if isDig b then numF (b :: w) else if (b :: w).length ≤ 32 then .ok 0 (b :: w) 0 else .err 7
def isCom (r : List UInt8) : Bool := [47, 47].isPrefixOf r
inductive Stp where
  | done
  | go (r : List UInt8) (l c : Nat)
  | tok (k : Nat) (t : List UInt8) (n : Nat)
  | err (e : Nat)
def notNl (b : UInt8) : Bool := b != 10
def TR.stp : TR → Stp
  | .ok k t n => .tok k t n
  | .err e => .err e
def stp (r : List UInt8) (l c : Nat) : Stp :=
  match r with
  | [] => .done
  | b :: r' => if b = 10 then .go r' (l + 1) 1 else if b = 32 ∨ b = 9 ∨ b = 13 then .go r' l (c + 1)
    else if isCom (b :: r') then .go ((b :: r').dropWhile notNl) l (c + ((b :: r').takeWhile notNl).length)
    else (tokF (b :: r')).stp
inductive LR where
  | ok (ts : List TokP)
  | err (l c e : Nat)
def LR.pre (o : List TokP) : LR → LR
  | .ok ts => .ok (o ++ ts)
  | .err l c e => .err l c e
def lexN : Nat → List UInt8 → Nat → Nat → LR
  | 0, _, _, _ => .ok []
  | n + 1, r, l, c => match stp r l c with
    | .done => .ok [⟨3, [], 0, l, c⟩]
    | .go r' l' c' => lexN n r' l' c'
    | .tok k t v => (lexN n (r.drop t.length) l (c + t.length)).pre [⟨k, t, v, l, c⟩]
    | .err e => .err l c e
def lexF (r : List UInt8) (l c : Nat) : LR := lexN (r.length + 1) r l c

theorem takeWhile_split {α} (p : α → Bool) : ∀ l : List α, ∃ X, l = l.takeWhile p ++ X ∧ (∀ c, X[0]? = some c → p c = false)
  | [] => ⟨[], rfl, fun c h => by cases h⟩
  | a :: l => by
    rcases h : p a with _ | _
    · exact ⟨a :: l, by rw [List.takeWhile_cons, h]; rfl, fun c hc => by cases hc; exact h⟩
    · obtain ⟨X, h1, h2⟩ := takeWhile_split p l
      exact ⟨X, by rw [List.takeWhile_cons, h]; show a :: l = a :: (l.takeWhile p ++ X); rw [← h1], h2⟩
theorem takeWhile_all {α} (p : α → Bool) : ∀ l : List α, ∀ c ∈ l.takeWhile p, p c = true
  | [], c, h => by cases h
  | a :: l, c, h => by
    rw [List.takeWhile_cons] at h
    split at h
    · rename_i ha
      rcases List.mem_cons.1 h with rfl | h
      · exact ha
      · exact takeWhile_all p l c h
    · cases h
theorem dropWhile_eq {α} (p : α → Bool) : ∀ l : List α, l.dropWhile p = l.drop (l.takeWhile p).length
  | [] => rfl
  | a :: l => by
    rw [List.dropWhile_cons, List.takeWhile_cons]
    split
    · rw [dropWhile_eq p l]; rfl
    · rfl
theorem signs_len : ∀ t ∈ signsL, 0 < t.length ∧ t.length ≤ 2 ∧ (∀ c ∈ t, alnum c = false) ∧ 10 ∉ t := by decide +kernel
theorem signF_mem {r t : List UInt8} (h : signF r = some t) : t ∈ signsL ∧ ∃ X, r = t ++ X := by
  have h1 := List.find?_some h
  exact ⟨List.mem_of_find?_eq_some h, by obtain ⟨X, hX⟩ := List.isPrefixOf_iff_prefix.1 h1; exact ⟨X, hX.symm⟩⟩
theorem numF_ok {s t : List UInt8} {k n : Nat} (h : numF s = .ok k t n) : k = 1 ∧ t = s := by
  unfold numF at h
  split at h
  · revert h; cases valF 16 0 (s.drop 2) <;> intro h <;> cases h; exact ⟨rfl, rfl⟩
  · split at h
    · revert h; cases valF 10 0 s <;> intro h <;> cases h; exact ⟨rfl, rfl⟩
    · cases h
theorem tokF_ok {r t : List UInt8} {k n : Nat} (h : tokF r = .ok k t n) : (∃ X, r = t ++ X) ∧ t ≠ [] ∧ k < 3 ∧ 10 ∉ t := by
  unfold tokF at h
  split at h
  · split at h
    · cases h
    · rename_i hs
      cases h
      obtain ⟨h1, h2⟩ := signF_mem hs
      have h3 := signs_len t h1
      exact ⟨h2, by intro e; rw [e] at h3; exact absurd h3.1 (by decide), by decide, h3.2.2.2⟩
  · rename_i b w hw
    obtain ⟨X, hX, -⟩ := takeWhile_split alnum r
    have ha : 10 ∉ r.takeWhile alnum := fun hc => absurd (takeWhile_all alnum r 10 hc) (by decide)
    rw [hw] at hX ha
    split at h
    · obtain ⟨rfl, rfl⟩ := numF_ok h
      exact ⟨⟨X, hX⟩, by simp, by decide, ha⟩
    · split at h
      · cases h
        exact ⟨⟨X, hX⟩, by simp, by decide, ha⟩
      · cases h
theorem stp_go {r r' : List UInt8} {l c l' c' : Nat} (h : stp r l c = .go r' l' c') : r'.length < r.length := by
  unfold stp at h
  split at h
  · cases h
  · rename_i b x
    split at h
    · cases h; simp
    · split at h
      · cases h; simp
      · split at h
        · rename_i hc
          cases h
          have hb : b = 47 := by
            have := List.isPrefixOf_iff_prefix.1 hc
            obtain ⟨X, hX⟩ := this
            simp at hX
            exact hX.1.symm
          rw [List.dropWhile_cons, if_pos (by rw [hb]; decide)]
          rw [dropWhile_eq, List.length_drop]
          simp; omega
        · revert h; cases tokF (b :: x) <;> intro h <;> cases h
theorem stp_tok {r t : List UInt8} {l c k n : Nat} (h : stp r l c = .tok k t n) : tokF r = .ok k t n := by
  unfold stp at h
  split at h
  · cases h
  · rename_i b x
    split at h
    · cases h
    · split at h
      · cases h
      · split at h
        · cases h
        · revert h; cases tokF (b :: x) <;> intro h <;> cases h; rfl
theorem lexN_two : ∀ (n m : Nat) (r : List UInt8) (l c : Nat), r.length < n → r.length < m → lexN n r l c = lexN m r l c := by
  intro n
  induction n with
  | zero => intro m r l c h; omega
  | succ n ih =>
    intro m r l c h hm
    obtain ⟨m, rfl⟩ : ∃ k, m = k + 1 := ⟨m - 1, by omega⟩
    rw [lexN, lexN]
    rcases hs : stp r l c with _ | ⟨r', l', c'⟩ | ⟨k, t, v⟩ | e <;> dsimp only
    · have h1 := stp_go hs
      exact ih m r' l' c' (by omega) (by omega)
    · obtain ⟨⟨X, rfl⟩, h2, -⟩ := tokF_ok (stp_tok hs)
      have h3 : 0 < t.length := List.length_pos_iff.2 h2
      rw [List.length_append] at h hm
      rw [ih m ((t ++ X).drop t.length) l (c + t.length) (by simp; omega) (by simp; omega)]
theorem lexF_eq (r : List UInt8) (l c : Nat) : lexF r l c = match stp r l c with
    | .done => .ok [⟨3, [], 0, l, c⟩]
    | .go r' l' c' => lexF r' l' c'
    | .tok k t v => (lexF (r.drop t.length) l (c + t.length)).pre [⟨k, t, v, l, c⟩]
    | .err e => .err l c e := by
  unfold lexF
  rw [lexN]
  rcases hs : stp r l c with _ | ⟨r', l', c'⟩ | ⟨k, t, v⟩ | e <;> dsimp only
  · have h1 := stp_go hs
    exact lexN_two _ _ r' l' c' (by omega) (by omega)
  · obtain ⟨⟨X, rfl⟩, h2, -⟩ := tokF_ok (stp_tok hs)
    have h3 : 0 < t.length := List.length_pos_iff.2 h2
    rw [lexN_two _ (((t ++ X).drop t.length).length + 1) ((t ++ X).drop t.length) l (c + t.length) (by simp; omega) (by simp)]
theorem LR.pre_pre (a b : List TokP) (x : LR) : (x.pre b).pre a = x.pre (a ++ b) := by
  cases x <;> simp [LR.pre]
def skipP (p : Nat × Nat) (b : UInt8) : Nat × Nat := if b = 10 then (p.1 + 1, 1) else (p.1, p.2 + 1)
def blank (b : UInt8) : Bool := decide (b = 32) || (decide (b = 9) || (decide (b = 10) || decide (b = 13)))
theorem skip_line : ∀ (x : List UInt8) (l c : Nat), 10 ∉ x → x.foldl skipP (l, c) = (l, c + x.length)
  | [], l, c, _ => rfl
  | b :: x, l, c, h => by
    rw [List.foldl_cons]
    unfold skipP
    rw [if_neg (fun e => h (by rw [e]; simp))]
    rw [show List.foldl (fun p b => if b = 10 then (p.1 + 1, 1) else (p.1, p.2 + 1)) (l, c + 1) x = x.foldl skipP (l, c + 1) from rfl, skip_line x l (c + 1) (fun e => h (by simp [e]))]
    rw [List.length_cons, Nat.add_assoc, Nat.add_comm 1]
theorem lexF_blank : ∀ (x r : List UInt8) (p : Nat × Nat), (∀ c ∈ x, blank c = true) → lexF (x ++ r) p.1 p.2 = lexF r (x.foldl skipP p).1 (x.foldl skipP p).2
  | [], r, p, _ => rfl
  | b :: x, r, p, h => by
    rw [List.cons_append, lexF_eq, List.foldl_cons]
    have hb := h b (by simp)
    unfold stp
    dsimp only
    by_cases h10 : b = 10
    · rw [if_pos h10]
      dsimp only
      rw [show skipP p b = (p.1 + 1, 1) from by unfold skipP; rw [if_pos h10]]
      exact lexF_blank x r (p.1 + 1, 1) (fun c hc => h c (by simp [hc]))
    · rw [if_neg h10, if_pos (by simp [blank, h10] at hb; rcases hb with hb | hb | hb <;> simp [hb])]
      dsimp only
      rw [show skipP p b = (p.1, p.2 + 1) from by unfold skipP; rw [if_neg h10]]
      exact lexF_blank x r (p.1, p.2 + 1) (fun c hc => h c (by simp [hc]))
theorem isCom_eq {r : List UInt8} (h : isCom r = true) : ∃ X, r = 47 :: 47 :: X := by
  obtain ⟨X, hX⟩ := List.isPrefixOf_iff_prefix.1 h
  exact ⟨X, hX.symm⟩
theorem takeWhile_nl (r : List UInt8) : 10 ∉ r.takeWhile notNl := fun h => absurd (takeWhile_all notNl r 10 h) (by decide)
theorem lexF_com {r : List UInt8} (p : Nat × Nat) (h : isCom r = true) : lexF r p.1 p.2 = lexF (r.dropWhile notNl) ((r.takeWhile notNl).foldl skipP p).1 ((r.takeWhile notNl).foldl skipP p).2 := by
  obtain ⟨X, rfl⟩ := isCom_eq h
  rw [lexF_eq, skip_line _ _ _ (takeWhile_nl _)]
  unfold stp
  dsimp only
  rw [if_neg (by decide), if_neg (by decide), if_pos h]
theorem lexF_tok {r : List UInt8} (l c : Nat) (hr : r ≠ []) (hb : ∀ b, r[0]? = some b → blank b = false) (hc : isCom r = false) : lexF r l c = match tokF r with
    | .ok k t v => (lexF (r.drop t.length) l (c + t.length)).pre [⟨k, t, v, l, c⟩]
    | .err e => .err l c e := by
  rw [lexF_eq]
  rcases r with _ | ⟨b, x⟩
  · exact absurd rfl hr
  have h0 := hb b rfl
  unfold stp
  dsimp only
  rw [if_neg (by intro e; rw [e] at h0; revert h0; decide), if_neg (by rintro (e | e | e) <;> (rw [e] at h0; revert h0; decide)), if_neg (by rw [hc]; decide)]
  cases tokF (b :: x) <;> rfl
theorem lexF_nil (l c : Nat) : lexF [] l c = .ok [⟨3, [], 0, l, c⟩] := by rw [lexF_eq]; rfl
def LR.shift (k : Nat) : LR → LR
  | .ok ts => .ok (ts.map fun t => ⟨t.k, t.t, t.n, t.l + k, t.c⟩)
  | .err l c e => .err (l + k) c e
def Stp.shift (k : Nat) : Stp → Stp
  | .go r l c => .go r (l + k) c
  | x => x
def TokP.key (t : TokP) : Nat × List UInt8 × Nat := (t.k, t.t, t.n)
def blankX (X : List UInt8) : Prop := X = [] ∨ X[0]? = some 32
def tailJ (us : List TokP) : List UInt8 := us.flatMap fun u => 32 :: u.t
def joinF (us : List TokP) : List UInt8 := (tailJ us).drop 1
def GoodTok (u : TokP) : Prop := u.k < 3 ∧ u.t ≠ [] ∧ ∃ r, tokF r = .ok u.k u.t u.n
theorem lexN_good : ∀ (n : Nat) (r : List UInt8) (l c : Nat) (ts : List TokP), r.length < n → lexN n r l c = .ok ts → ∃ us l' c', ts = us ++ [⟨3, [], 0, l', c'⟩] ∧ ∀ u ∈ us, GoodTok u := by
  intro n
  induction n with
  | zero => intro r l c ts h; omega
  | succ n ih =>
    intro r l c ts hlen h
    rw [lexN] at h
    rcases hs : stp r l c with _ | ⟨r', l', c'⟩ | ⟨k, t, v⟩ | e <;> rw [hs] at h <;> dsimp only at h
    · cases h; exact ⟨[], l, c, rfl, fun u h => by cases h⟩
    · exact ih r' l' c' ts (by have := stp_go hs; omega) h
    · have ht := stp_tok hs
      obtain ⟨⟨X, rfl⟩, h2, h3, -⟩ := tokF_ok ht
      have h4 : 0 < t.length := List.length_pos_iff.2 h2
      rw [List.drop_left] at h
      rcases hr : lexN n X l (c + t.length) with ts' | _
      · rw [hr] at h
        have h' : [⟨k, t, v, l, c⟩] ++ ts' = ts := by injection h
        obtain ⟨us, l', c', e1, e2⟩ := ih X l (c + t.length) ts' (by rw [List.length_append] at hlen; omega) hr
        refine ⟨⟨k, t, v, l, c⟩ :: us, l', c', by rw [← h', e1]; rfl, fun u hu => ?_⟩
        rcases List.mem_cons.1 hu with rfl | hu
        · exact ⟨h3, h2, _, ht⟩
        · exact e2 u hu
      · rw [hr] at h; cases h
    · cases h
theorem lexF_good {r : List UInt8} {l c : Nat} {ts : List TokP} (h : lexF r l c = .ok ts) : ∃ us l' c', ts = us ++ [⟨3, [], 0, l', c'⟩] ∧ ∀ u ∈ us, GoodTok u :=
  lexN_good _ r l c ts (by omega) h
def bigW (d : UInt8) (k : Nat) : List UInt8 := 32 :: List.replicate k d
def repN (d : Nat) : Nat → Nat
  | 0 => 0
  | k + 1 => 10 * repN d k + d
def okWord (k : Nat) : Bool := match lexF (bigW 120 k) 1 1 with
  | .ok [t, _] => decide (k ≤ 32) && (t.k == 0 && (t.t == List.replicate k 120 && (t.n == 0 && (t.l == 1 && t.c == 2))))
  | .err l c e => decide (32 < k) && (e == 7 && (l == 1 && c == 2))
  | _ => false
def okNum (d k : Nat) : Bool := match lexF (bigW (UInt8.ofNat (49 + d)) k) 1 1 with
  | .ok [t, _] => decide (k ≤ 20) && (t.n == repN (1 + d) k && decide (repN (1 + d) k < 18446744073709551616))
  | .err l c e => decide (20 ≤ k) && (e == 5 && (l == 1 && c == 2))
  | _ => false
end Go.Proofs.YtkbhmcdoedmffaaGreatDoor

namespace Go.Proofs.YtkbhmcdoedmffaaGreatDoor

structure EX where
  k : Nat
  op : List UInt8
  n : Nat
  nm : List UInt8
  kids : List Int
structure CA where
  n : Nat
  t : Int
structure TY where
  k : Nat
  size : Nat
  little : Bool
  nm : List UInt8
  args : List Int
  ex : Int
  inn : Int
  cases : List CA
structure SB where
  nm : List UInt8
  bits : Nat
structure IT where
  nm : List UInt8
  ty : Int
  der : Nat
  a : List UInt8
  b : List UInt8
  wh : Int
  size : Nat
  little : Bool
  subs : List SB
structure RC where
  nm : List UInt8
  ps : List (List UInt8)
  its : List IT
structure CO where
  nm : List UInt8
  n : Nat
structure PS where
  i : Nat
  xs : List EX
  ts : List TY
inductive PR (α : Type) where
  | ok (v : α) (s : PS)
  | err (i e : Nat)
def PM (α : Type) : Type := PS → PR α
def PM.and {α β : Type} (x : PM α) (f : α → PM β) : PM β := fun s => match x s with
  | .ok v s' => f v s'
  | .err i e => .err i e
def PM.ret {α : Type} (v : α) : PM α := fun s => .ok v s
instance : Monad PM where
  pure := PM.ret
  bind := PM.and
theorem and_ok {α β : Type} {x : PM α} {f : α → PM β} {s s' : PS} {v : α} (h : x s = .ok v s') : (x >>= f) s = f v s' := by show PM.and x f s = _; unfold PM.and; rw [h]
theorem and_err {α β : Type} {x : PM α} {f : α → PM β} {s : PS} {i e : Nat} (h : x s = .err i e) : (x >>= f) s = .err i e := by show PM.and x f s = _; unfold PM.and; rw [h]

abbrev bu (s : String) : List UInt8 := s.toUTF8.toList
def intsL : List (List UInt8 × Nat × Bool) := [([117, 56], 1, false), ([117, 49, 54, 98, 101], 2, false), ([117, 49, 54, 108, 101], 2, true), ([117, 50, 52, 98, 101], 3, false), ([117, 50, 52, 108, 101], 3, true), ([117, 51, 50, 98, 101], 4, false), ([117, 51, 50, 108, 101], 4, true), ([117, 54, 52, 98, 101], 8, false), ([117, 54, 52, 108, 101], 8, true)]
def integerV (w : List UInt8) : Option (Nat × Bool) := (intsL.find? fun p => p.1 == w).map (·.2)
def keysL : List (List UInt8) := [[99, 111, 110, 115, 116], [115, 116, 114, 117, 99, 116], [112, 97, 99, 107], [119, 104, 101, 114, 101], [115, 105, 122, 101, 111, 102], [99, 111, 117, 110, 116, 111, 102], [99, 114, 99, 51, 50], [97, 100, 108, 101, 114, 51, 50], [98, 121, 116, 101, 115], [122, 101, 114, 111], [115, 107, 105, 112], [119, 105, 110, 100, 111, 119], [97, 116], [114, 101, 115, 116], [116, 97, 105, 108], [110, 111, 110, 101], [115, 119, 105, 116, 99, 104], [99, 97, 115, 101], [101, 108, 115, 101]]
def keyV (w : List UInt8) : Bool := keysL.contains w || (integerV w).isSome
def levelsL : List (List UInt8 × Nat) := [([124, 124], 1), ([38, 38], 2), ([61, 61], 3), ([33, 61], 3), ([60], 3), ([60, 61], 3), ([62], 3), ([62, 61], 3), ([124], 4), ([38], 5), ([60, 60], 6), ([62, 62], 6), ([43], 7), ([45], 7), ([42], 8), ([47], 8), ([37], 8)]
def levelV (w : List UInt8) : Nat := ((levelsL.find? fun p => p.1 == w).map (·.2)).getD 0
def typesL : List (List UInt8) := [[98, 121, 116, 101, 115], [122, 101, 114, 111], [115, 107, 105, 112], [119, 105, 110, 100, 111, 119], [97, 116], [114, 101, 115, 116], [116, 97, 105, 108], [110, 111, 110, 101], [115, 119, 105, 116, 99, 104]]
abbrev w_const : List UInt8 := [99, 111, 110, 115, 116]
abbrev w_struct : List UInt8 := [115, 116, 114, 117, 99, 116]
abbrev w_pack : List UInt8 := [112, 97, 99, 107]
abbrev w_where : List UInt8 := [119, 104, 101, 114, 101]
abbrev w_sizeof : List UInt8 := [115, 105, 122, 101, 111, 102]
abbrev w_countof : List UInt8 := [99, 111, 117, 110, 116, 111, 102]
abbrev w_crc32 : List UInt8 := [99, 114, 99, 51, 50]
abbrev w_adler32 : List UInt8 := [97, 100, 108, 101, 114, 51, 50]
abbrev w_bytes : List UInt8 := [98, 121, 116, 101, 115]
abbrev w_zero : List UInt8 := [122, 101, 114, 111]
abbrev w_skip : List UInt8 := [115, 107, 105, 112]
abbrev w_window : List UInt8 := [119, 105, 110, 100, 111, 119]
abbrev w_at : List UInt8 := [97, 116]
abbrev w_rest : List UInt8 := [114, 101, 115, 116]
abbrev w_tail : List UInt8 := [116, 97, 105, 108]
abbrev w_none : List UInt8 := [110, 111, 110, 101]
abbrev w_switch : List UInt8 := [115, 119, 105, 116, 99, 104]
abbrev w_case : List UInt8 := [99, 97, 115, 101]
abbrev w_else : List UInt8 := [101, 108, 115, 101]
abbrev t_bang : List UInt8 := [33]
abbrev t_lpar : List UInt8 := [40]
abbrev t_rpar : List UInt8 := [41]
abbrev t_lsq : List UInt8 := [91]
abbrev t_rsq : List UInt8 := [93]
abbrev t_lcur : List UInt8 := [123]
abbrev t_rcur : List UInt8 := [125]
abbrev t_colon : List UInt8 := [58]
abbrev t_semi : List UInt8 := [59]
abbrev t_comma : List UInt8 := [44]
abbrev t_eq : List UInt8 := [61]
abbrev t_dots : List UInt8 := [46, 46]

section
variable (L : List TokP)
def tk (i : Nat) : TokP := L.getD i ⟨3, [], 0, 0, 0⟩
def isV (i : Nat) (t : List UInt8) : Bool := !decide ((tk L i).k = 3) && decide ((tk L i).t = t)
def namedV (i : Nat) : Bool := decide ((tk L i).k = 0) && !keyV (tk L i).t
def beginsV (i : Nat) : Bool := isV L i t_bang || (isV L i t_lpar || (namedV L i || decide ((tk L i).k = 1)))
def startsV (i : Nat) : Bool := namedV L i || (decide ((tk L i).k = 0) && (typesL.contains (tk L i).t || (integerV (tk L i).t).isSome))
def stepM : PM Unit := fun s => .ok () { s with i := s.i + 1 }
def failM {α : Type} (e : Nat) : PM α := fun s => .err s.i e
def takeM (t : List UInt8) : PM Unit := fun s => if isV L s.i t = true then stepM s else failM 4 s
def nameM : PM (List UInt8) := fun s => if namedV L s.i = true then .ok (tk L s.i).t { s with i := s.i + 1 } else failM 4 s
def numberM : PM Nat := fun s => if (tk L s.i).k = 1 then .ok (tk L s.i).n { s with i := s.i + 1 } else failM 4 s
def roomM (n : Nat) : PM Unit := fun s => if 64 ≤ n then failM 10 s else .ok () s
def enterM (m : Nat) (may : Bool) : PM Unit := fun s => if may = false then failM 4 s else if m = 0 then failM 8 s else .ok () s
def putM (x : EX) : PM Int := fun s => .ok s.xs.length { s with xs := s.xs ++ [x] }
def layM (t : TY) : PM Int := fun s => .ok s.ts.length { s with ts := s.ts ++ [t] }
def atM {α : Type} (p : Nat → Bool) (x y : PM α) : PM α := fun s => if p s.i = true then x s else y s
def unF (m : Nat) (un ex : PM Int) : PM Int :=
  atM (isV L · t_bang) (stepM >>= fun _ => (fun s => enterM m (beginsV L s.i) s) >>= fun _ => un >>= fun k => putM ⟨2, [], 0, [], [k]⟩)
  (atM (isV L · t_lpar) (stepM >>= fun _ => (fun s => enterM m (beginsV L s.i) s) >>= fun _ => ex >>= fun k => takeM L t_rpar >>= fun _ => pure k)
  (atM (namedV L ·) (nameM L >>= fun w => putM ⟨1, [], 0, w, []⟩) (numberM L >>= fun n => putM ⟨0, [], n, [], []⟩)))
def opAt (lv i : Nat) : Bool := decide ((tk L i).k = 2) && decide (levelV (tk L i).t = lv)
def lineN (lv : Nat) (x : PM Int) : Nat → Int → PM Int
  | 0, left => pure left
  | n + 1, left => fun s => if opAt L lv s.i = true then
      (stepM >>= fun _ => x >>= fun right => putM ⟨3, (tk L s.i).t, 0, [], [left, right]⟩ >>= fun k => lineN lv x n k) s
    else .ok left s
def lineJ (un : PM Int) : Nat → PM Int
  | 0 => un
  | j + 1 => lineJ un j >>= fun left => fun s => lineN L (8 - j) (lineJ un j) (L.length - s.i + 1) left s
def unM : Nat → PM Int
  | 0 => unF L 0 (failM 8) (failM 8)
  | m + 1 => unF L (m + 1) (unM m) (lineJ L (unM m) 8)
def exprM (m : Nat) : PM Int := lineJ L (unM L m) 8
def bracketM (m : Nat) : PM Int := takeM L t_lsq >>= fun _ => exprM L m >>= fun k => takeM L t_rsq >>= fun _ => pure k
def tyP (k : Nat) : TY := ⟨k, 0, false, [], [], -1, -1, []⟩
def arrayM (m : Nat) (t : TY) : PM Int := layM t >>= fun k => atM (isV L · t_lsq) (bracketM L m >>= fun x => layM { tyP 5 with ex := x, inn := k }) (pure k)
def argsN (m : Nat) : Nat → List Int → PM (List Int)
  | 0, l => pure l
  | n + 1, l => atM (isV L · t_comma) (stepM >>= fun _ => (fun s => if beginsV L s.i = true then roomM l.length s else .ok () s) >>= fun _ => exprM L m >>= fun x => argsN m n (l ++ [x])) (pure l)
def refM (m : Nat) : PM TY := nameM L >>= fun w => atM (isV L · t_lpar)
  (stepM >>= fun _ => exprM L m >>= fun x => (fun s => argsN L m (L.length - s.i + 1) [x] s) >>= fun l => takeM L t_rpar >>= fun _ => pure { tyP 10 with nm := w, args := l })
  (pure { tyP 10 with nm := w })
def innerM (m : Nat) (kd : PM Int) : PM Int := (fun s => enterM m (startsV L s.i) s) >>= fun _ => kd
def casesN (m : Nat) (kd : PM Int) : Nat → List CA → PM (List CA)
  | 0, l => pure l
  | n + 1, l => atM (isV L · w_case) (roomM l.length >>= fun _ => stepM >>= fun _ => numberM L >>= fun c => takeM L t_colon >>= fun _ => innerM L m kd >>= fun k => takeM L t_semi >>= fun _ => casesN m kd n (l ++ [⟨c, k⟩])) (pure l)
def choiceM (m : Nat) (kd : PM Int) : PM Int :=
  takeM L t_lpar >>= fun _ => exprM L m >>= fun x => takeM L t_rpar >>= fun _ => takeM L t_lcur >>= fun _ =>
  (fun s => casesN L m kd (L.length - s.i + 1) [] s) >>= fun cs =>
  atM (isV L · w_else) (stepM >>= fun _ => takeM L t_colon >>= fun _ => innerM L m kd >>= fun k => takeM L t_semi >>= fun _ => pure k) (pure (-1)) >>= fun k =>
  takeM L t_rcur >>= fun _ => layM { tyP 9 with ex := x, inn := k, cases := cs }
def sizedV (w : List UInt8) : Option Nat := if w = w_bytes then some 1 else if w = w_zero then some 2 else if w = w_skip then some 3 else if w = w_window then some 7 else if w = w_at then some 8 else none
def wordM (m : Nat) (kd : PM Int) (w : List UInt8) : PM Int :=
  match sizedV w with
  | some k => bracketM L m >>= fun x => (if k = 7 ∨ k = 8 then innerM L m kd else pure (-1)) >>= fun i => layM { tyP k with ex := x, inn := i }
  | none =>
    if w = w_rest then innerM L m kd >>= fun i => layM { tyP 6 with inn := i } else
    if w = w_tail then layM (tyP 4) else
    if w = w_none then layM (tyP 11) else
    if w = w_switch then choiceM L m kd else
    arrayM L m { tyP 0 with size := ((integerV w).getD (0, false)).1, little := ((integerV w).getD (0, false)).2 }
def kindF (m : Nat) (kd : PM Int) : PM Int :=
  atM (namedV L ·) (refM L m >>= fun t => arrayM L m t) (atM (startsV L ·) (fun s => (stepM >>= fun _ => wordM L m kd (tk L s.i).t) s) (failM 4))
def kindM : Nat → PM Int
  | 0 => kindF L 0 (failM 8)
  | m + 1 => kindF L (m + 1) (kindM m)
def derOf (w : List UInt8) : Nat := if w = w_sizeof then 1 else if w = w_countof then 2 else if w = w_crc32 then 3 else if w = w_adler32 then 4 else 0
def derivedM : PM (Nat × List UInt8 × List UInt8) :=
  atM (fun i => !decide ((tk L i).k = 3) && !decide (derOf (tk L i).t = 0))
    (fun s => (stepM >>= fun _ => takeM L t_lpar >>= fun _ => nameM L >>= fun a =>
      (if 3 ≤ derOf (tk L s.i).t then takeM L t_dots >>= fun _ => nameM L else pure []) >>= fun b => takeM L t_rpar >>= fun _ => pure (derOf (tk L s.i).t, a, b)) s)
    (failM 4)
def fieldM : PM IT :=
  nameM L >>= fun w => takeM L t_colon >>= fun _ => kindM L 32 >>= fun t =>
  atM (isV L · t_eq) (stepM >>= fun _ => derivedM L) (pure (0, [], [])) >>= fun d =>
  atM (isV L · w_where) (stepM >>= fun _ => exprM L 32) (pure (-1)) >>= fun x =>
  takeM L t_semi >>= fun _ => pure ⟨w, t, d.1, d.2.1, d.2.2, x, 0, false, []⟩
def subsN : Nat → List SB → PM (List SB)
  | 0, l => pure l
  | n + 1, l => (fun s => if namedV L s.i = true then roomM l.length s else .ok () s) >>= fun _ => nameM L >>= fun w => takeM L t_colon >>= fun _ => numberM L >>= fun b => takeM L t_semi >>= fun _ =>
      atM (namedV L ·) (subsN n (l ++ [⟨w, min b 1048576⟩])) (pure (l ++ [⟨w, min b 1048576⟩]))
def packM : PM IT :=
  takeM L w_pack >>= fun _ => fun s => match (if (tk L s.i).k = 0 then integerV (tk L s.i).t else none) with
    | none => failM 4 s
    | some (z, lt) => (stepM >>= fun _ => takeM L t_lcur >>= fun _ => (fun s => subsN L (L.length - s.i + 1) [] s) >>= fun l => takeM L t_rcur >>= fun _ => pure (⟨[], -1, 0, [], [], -1, z, lt, l⟩ : IT)) s
def parsN : Nat → List (List UInt8) → PM (List (List UInt8))
  | 0, l => pure l
  | n + 1, l => atM (isV L · t_comma) (stepM >>= fun _ => (fun s => if namedV L s.i = true then roomM l.length s else .ok () s) >>= fun _ => nameM L >>= fun x => parsN n (l ++ [x])) (pure l)
def itemsN : Nat → List IT → PM (List IT)
  | 0, l => pure l
  | n + 1, l => atM (fun i => isV L i w_pack || namedV L i) (roomM l.length >>= fun _ => atM (isV L · w_pack) (packM L) (fieldM L) >>= fun x => itemsN n (l ++ [x])) (pure l)
def recordM : PM RC :=
  takeM L w_struct >>= fun _ => nameM L >>= fun w =>
  atM (isV L · t_lpar) (stepM >>= fun _ => nameM L >>= fun x => (fun s => parsN L (L.length - s.i + 1) [x] s) >>= fun l => takeM L t_rpar >>= fun _ => pure l) (pure []) >>= fun ps =>
  takeM L t_lcur >>= fun _ => (fun s => itemsN L (L.length - s.i + 1) [] s) >>= fun is => takeM L t_rcur >>= fun _ => pure ⟨w, ps, is⟩
def constM : PM CO := takeM L w_const >>= fun _ => nameM L >>= fun w => takeM L t_eq >>= fun _ => numberM L >>= fun n => takeM L t_semi >>= fun _ => pure ⟨w, n⟩
def wholeN : Nat → List CO → List RC → PM (List CO × List RC)
  | 0, cs, rs => pure (cs, rs)
  | n + 1, cs, rs => atM (isV L · w_const) (roomM cs.length >>= fun _ => constM L >>= fun c => wholeN n (cs ++ [c]) rs)
    (atM (isV L · w_struct) (roomM rs.length >>= fun _ => recordM L >>= fun r => wholeN n cs (rs ++ [r]))
    (atM (fun i => decide ((tk L i).k = 3)) (pure (cs, rs)) (failM 4)))
end
inductive FR where
  | ok (cs : List CO) (rs : List RC) (xs : List EX) (ts : List TY)
  | err (l c e : Nat)
def fileV : LR → FR
  | .err l c e => .err l c e
  | .ok L => match wholeN L (L.length + 1) [] [] ⟨0, [], []⟩ with
    | .ok (cs, rs) s => .ok cs rs s.xs s.ts
    | .err i e => .err (tk L i).l (tk L i).c e
end Go.Proofs.YtkbhmcdoedmffaaGreatDoor

namespace Go.Proofs.YtkbhmcdoedmffaaGreatDoor

def TokOk (L : List TokP) : Prop := 0 < L.length ∧ ∀ i, i + 1 = L.length → (tk L i).k = 3
structure SOk (L : List TokP) (c : Nat) (s : PS) : Prop where
  i : s.i < L.length
  x : s.xs.length + c ≤ s.i
  t : s.ts.length + c ≤ s.i
def Up (L : List TokP) {α : Type} (x : PM α) (a b : Nat) : Prop := ∀ s c, SOk L (c + a) s → match x s with
  | .ok _ s' => SOk L (c + b) s' ∧ s.i ≤ s'.i
  | .err i e => s.i ≤ i ∧ i < L.length ∧ 0 < e ∧ e ≤ 10
section
variable {L : List TokP}
theorem SOk.less {c d : Nat} {s : PS} (h : SOk L c s) (hd : d ≤ c) : SOk L d s := ⟨h.i, by have := h.x; omega, by have := h.t; omega⟩
theorem Up.and {α β : Type} {x : PM α} {f : α → PM β} {a b c : Nat} (hx : Up L x a b) (hf : ∀ v, Up L (f v) b c) : Up L (x >>= f) a c := fun s d h => by
  have h1 := hx s d h
  show match PM.and x f s with
    | .ok _ s' => SOk L (d + c) s' ∧ s.i ≤ s'.i
    | .err i e => s.i ≤ i ∧ i < L.length ∧ 0 < e ∧ e ≤ 10
  unfold PM.and
  revert h1
  cases x s with
  | err i e => exact id
  | ok v s1 =>
    rintro ⟨h1, h2⟩
    have h3 := hf v s1 d h1
    revert h3
    dsimp only
    cases f v s1 with
    | err i e => rintro ⟨h3, h4⟩; exact ⟨by omega, h4⟩
    | ok w s2 => rintro ⟨h3, h4⟩; exact ⟨h3, by omega⟩
theorem Up.pure {α : Type} (v : α) (a : Nat) : Up L (pure v) a a := fun _ _ h => ⟨h, Nat.le_refl _⟩
theorem Up.less {α : Type} {x : PM α} {a b : Nat} (h : Up L x a b) {a' b' : Nat} (n : Nat) (ha : a + n ≤ a') (hb : b' ≤ b + n) : Up L x a' b' := fun s c hs => by
  have h1 := h s (c + n) (hs.less (by omega))
  revert h1
  cases x s with
  | err i e => exact id
  | ok v s1 => rintro ⟨h1, h2⟩; exact ⟨h1.less (by omega), h2⟩
theorem Up.fail {α : Type} {e : Nat} (h0 : 0 < e) (h1 : e ≤ 10) (a b : Nat) : Up L (failM e : PM α) a b := fun _ _ h => ⟨Nat.le_refl _, h.i, h0, h1⟩
theorem Up.look {α : Type} {f : PS → PM α} {a b : Nat} (h : ∀ s, Up L (f s) a b) : Up L (fun s => f s s) a b := fun s c hs => h s s c hs
theorem Up.at {α : Type} {p : Nat → Bool} {x y : PM α} {a b : Nat} (hx : Up L x a b) (hy : Up L y a b) : Up L (atM p x y) a b := fun s c hs => by
  unfold atM
  by_cases h : p s.i = true
  · rw [if_pos h]; exact hx s c hs
  · rw [if_neg h]; exact hy s c hs
theorem stepP_ok (hL : TokOk L) {s : PS} {c : Nat} (h : SOk L c s) (hk : (tk L s.i).k ≠ 3) : SOk L (c + 1) { s with i := s.i + 1 } := by
  have h1 := h.x
  have h2 := h.t
  have h3 := h.i
  have h4 := hL.2 s.i
  exact ⟨by show s.i + 1 < _; by_cases he : s.i + 1 = L.length; exact absurd (h4 he) hk; omega, by show s.xs.length + (c + 1) ≤ s.i + 1; omega, by show s.ts.length + (c + 1) ≤ s.i + 1; omega⟩
theorem Up.step {α : Type} (hL : TokOk L) {p : Nat → Bool} {f : Unit → PM α} {y : PM α} {a b : Nat} (hp : ∀ i, p i = true → (tk L i).k ≠ 3) (hx : Up L (f ()) (a + 1) b) (hy : Up L y a b) : Up L (atM p (stepM >>= f) y) a b := fun s c hs => by
  unfold atM
  by_cases h : p s.i = true
  · rw [if_pos h]
    have := hx { s with i := s.i + 1 } c (stepP_ok hL hs (hp _ h))
    show match f () { s with i := s.i + 1 } with
      | .ok _ s' => SOk L (c + b) s' ∧ s.i ≤ s'.i
      | .err i e => s.i ≤ i ∧ i < L.length ∧ 0 < e ∧ e ≤ 10
    revert this
    cases f () { s with i := s.i + 1 } with
    | err i e => rintro ⟨h3, h4⟩; exact ⟨Nat.le_of_succ_le h3, h4⟩
    | ok w s2 => rintro ⟨h3, h4⟩; exact ⟨h3, Nat.le_of_succ_le h4⟩
  · rw [if_neg h]; exact hy s c hs
theorem isV_k {i : Nat} {t : List UInt8} (h : isV L i t = true) : (tk L i).k ≠ 3 := by
  unfold isV at h
  rw [Bool.and_eq_true] at h
  simpa using h.1
theorem namedV_k {i : Nat} (h : namedV L i = true) : (tk L i).k ≠ 3 := by
  unfold namedV at h
  rw [Bool.and_eq_true] at h
  have := of_decide_eq_true h.1
  omega
theorem startsV_k {i : Nat} (h : startsV L i = true) : (tk L i).k ≠ 3 := by
  unfold startsV at h
  rw [Bool.or_eq_true] at h
  rcases h with h | h
  · exact namedV_k h
  · rw [Bool.and_eq_true] at h
    have := of_decide_eq_true h.1
    omega
theorem Up.take (hL : TokOk L) (t : List UInt8) (a : Nat) : Up L (takeM L t) a (a + 1) := fun s c hs => by
  unfold takeM
  by_cases h : isV L s.i t = true
  · rw [if_pos h]; exact ⟨stepP_ok hL hs (isV_k h), Nat.le_succ _⟩
  · rw [if_neg h]; exact ⟨Nat.le_refl _, hs.i, by decide, by decide⟩
theorem Up.name (hL : TokOk L) (a : Nat) : Up L (nameM L) a (a + 1) := fun s c hs => by
  unfold nameM
  by_cases h : namedV L s.i = true
  · rw [if_pos h]; exact ⟨stepP_ok hL hs (namedV_k h), Nat.le_succ _⟩
  · rw [if_neg h]; exact ⟨Nat.le_refl _, hs.i, by decide, by decide⟩
theorem Up.number (hL : TokOk L) (a : Nat) : Up L (numberM L) a (a + 1) := fun s c hs => by
  unfold numberM
  by_cases h : (tk L s.i).k = 1
  · rw [if_pos h]; exact ⟨stepP_ok hL hs (by omega), Nat.le_succ _⟩
  · rw [if_neg h]; exact ⟨Nat.le_refl _, hs.i, by decide, by decide⟩
theorem Up.room (n a : Nat) : Up L (roomM n) a a := fun s c hs => by
  unfold roomM
  by_cases h : 64 ≤ n
  · rw [if_pos h]; exact ⟨Nat.le_refl _, hs.i, by decide, by decide⟩
  · rw [if_neg h]; exact ⟨hs, Nat.le_refl _⟩
theorem Up.enter (m : Nat) (b : Bool) (a : Nat) : Up L (enterM m b) a a := fun s c hs => by
  unfold enterM
  by_cases h : b = false
  · rw [if_pos h]; exact ⟨Nat.le_refl _, hs.i, by decide, by decide⟩
  · rw [if_neg h]
    by_cases h2 : m = 0
    · rw [if_pos h2]; exact ⟨Nat.le_refl _, hs.i, by decide, by decide⟩
    · rw [if_neg h2]; exact ⟨hs, Nat.le_refl _⟩
theorem Up.put (x : EX) (a : Nat) : Up L (putM x) (a + 1) a := fun s c hs =>
  ⟨⟨hs.i, by have := hs.x; show (s.xs ++ [x]).length + _ ≤ s.i; rw [List.length_append, List.length_singleton]; omega, by have := hs.t; show s.ts.length + _ ≤ s.i; omega⟩, Nat.le_refl _⟩
theorem Up.lay (x : TY) (a : Nat) : Up L (layM x) (a + 1) a := fun s c hs =>
  ⟨⟨hs.i, by have := hs.x; show s.xs.length + _ ≤ s.i; omega, by have := hs.t; show (s.ts ++ [x]).length + _ ≤ s.i; rw [List.length_append, List.length_singleton]; omega⟩, Nat.le_refl _⟩
theorem Up.roomIf (p : Nat → Bool) (n a : Nat) : Up L (fun s => if p s.i = true then roomM n s else .ok () s) a a := fun s c hs => by
  dsimp only
  by_cases h : p s.i = true
  · rw [if_pos h]; exact Up.room n a s c hs
  · rw [if_neg h]; exact ⟨hs, Nat.le_refl _⟩
theorem Up.roomStep {α : Type} (hL : TokOk L) {p : Nat → Bool} {n : Nat} {f : Unit → PM α} {y : PM α} {a b : Nat} (hp : ∀ i, p i = true → (tk L i).k ≠ 3) (hx : Up L (f ()) (a + 1) b) (hy : Up L y a b) : Up L (atM p (roomM n >>= fun _ => stepM >>= f) y) a b := fun s c hs => by
  have h1 := Up.step hL hp hx hy s c hs
  unfold atM at h1 ⊢
  by_cases h : p s.i = true
  · rw [if_pos h] at h1 ⊢
    by_cases hr : 64 ≤ n
    · rw [and_err (i := s.i) (e := 10) (by unfold roomM; rw [if_pos hr]; rfl)]
      exact ⟨Nat.le_refl _, hs.i, by decide, by decide⟩
    · rw [and_ok (s' := s) (v := ()) (by unfold roomM; rw [if_neg hr])]
      exact h1
  · rw [if_neg h] at h1 ⊢
    exact h1
theorem up_un (hL : TokOk L) (m : Nat) {un ex : PM Int} (h1 : Up L un 0 0) (h2 : Up L ex 0 0) : Up L (unF L m un ex) 0 0 := by
  unfold unF
  refine Up.step hL (fun i h => isV_k h) ?_ (Up.step hL (fun i h => isV_k h) ?_ (Up.at ?_ ?_))
  · exact (Up.look fun s => Up.enter _ _ _).and fun _ => (h1.less 1 (by omega) (Nat.le_refl _)).and fun k => Up.put _ _
  · exact (Up.look fun s => Up.enter _ _ _).and fun _ => (h2.less 1 (by omega) (Nat.le_refl _)).and fun k => (Up.take hL _ _).and fun _ => (Up.pure _ _).less 0 (Nat.le_refl _) (by omega)
  · exact (Up.name hL 0).and fun w => Up.put _ _
  · exact (Up.number hL 0).and fun w => Up.put _ _
theorem up_line (hL : TokOk L) (lv : Nat) {x : PM Int} (hx : Up L x 0 0) : ∀ n left, Up L (lineN L lv x n left) 0 0
  | 0, left => Up.pure _ _
  | n + 1, left => by
    refine Up.look (f := fun s => fun s' => if opAt L lv s'.i = true then (stepM >>= fun _ => x >>= fun right => putM ⟨3, (tk L s.i).t, 0, [], [left, right]⟩ >>= fun k => lineN L lv x n k) s' else .ok left s') fun s => ?_
    refine Up.step hL (p := fun i => opAt L lv i) (fun i h => ?_) ?_ (Up.pure left 0)
    · unfold opAt at h
      rw [Bool.and_eq_true] at h
      have := of_decide_eq_true h.1
      omega
    · exact (hx.less 1 (by omega) (Nat.le_refl _)).and fun r => (Up.put _ 0).and fun k => up_line hL lv hx n k
theorem up_lineJ (hL : TokOk L) {un : PM Int} (hx : Up L un 0 0) : ∀ j, Up L (lineJ L un j) 0 0
  | 0 => hx
  | j + 1 => (up_lineJ hL hx j).and fun left => Up.look fun s => up_line hL _ (up_lineJ hL hx j) _ _
theorem up_unM (hL : TokOk L) : ∀ m, Up L (unM L m) 0 0
  | 0 => up_un hL 0 (Up.fail (by decide) (by decide) _ _) (Up.fail (by decide) (by decide) _ _)
  | m + 1 => up_un hL _ (up_unM hL m) (up_lineJ hL (up_unM hL m) 8)
theorem up_expr (hL : TokOk L) (m a : Nat) : Up L (exprM L m) a a := (up_lineJ hL (up_unM hL m) 8).less a (by omega) (by omega)
theorem up_bracket (hL : TokOk L) (m a : Nat) : Up L (bracketM L m) a (a + 2) := (Up.take hL _ a).and fun _ => (up_expr hL m _).and fun k => (Up.take hL _ _).and fun _ => Up.pure _ _
theorem up_array (hL : TokOk L) (m : Nat) (t : TY) : Up L (arrayM L m t) 1 0 :=
  (Up.lay t 0).and fun k => Up.at ((up_bracket hL m 0).and fun x => (Up.lay _ 0).less 1 (Nat.le_refl _) (by omega)) (Up.pure _ _)
theorem up_args (hL : TokOk L) (m : Nat) : ∀ n l, Up L (argsN L m n l) 0 0
  | 0, l => Up.pure _ _
  | n + 1, l => Up.step hL (fun i h => isV_k h) ((Up.roomIf (beginsV L ·) _ _).and fun _ => (up_expr hL m 1).and fun x => (up_args hL m n (l ++ [x])).less 0 (by omega) (Nat.le_refl _)) (Up.pure _ _)
theorem up_ref (hL : TokOk L) (m : Nat) : Up L (refM L m) 0 1 :=
  (Up.name hL 0).and fun w => Up.step hL (fun i h => isV_k h) ((up_expr hL m _).and fun x => (Up.look fun s => (up_args hL m _ _).less 2 (by omega) (Nat.le_refl _)).and fun l => (Up.take hL _ _).and fun _ => (Up.pure _ _).less 0 (Nat.le_refl _) (by omega)) (Up.pure _ _)
theorem up_inner (m : Nat) {kd : PM Int} (h : Up L kd 0 0) (a : Nat) : Up L (innerM L m kd) a a :=
  (Up.look fun s => Up.enter _ _ _).and fun _ => h.less a (by omega) (by omega)
theorem up_cases (hL : TokOk L) (m : Nat) {kd : PM Int} (h : Up L kd 0 0) : ∀ n l, Up L (casesN L m kd n l) 0 0
  | 0, l => Up.pure _ _
  | n + 1, l => Up.roomStep hL (fun i h => isV_k h) ((Up.number hL 1).and fun c => (Up.take hL t_colon _).and fun _ => (up_inner m h _).and fun k => (Up.take hL t_semi _).and fun _ => (up_cases hL m h n (l ++ [⟨c, k⟩])).less 0 (by omega) (Nat.le_refl _)) (Up.pure _ _)
theorem up_choice (hL : TokOk L) (m : Nat) {kd : PM Int} (h : Up L kd 0 0) (a : Nat) : Up L (choiceM L m kd) a a := by
  unfold choiceM
  exact (Up.take hL _ _).and fun _ => (up_expr hL m _).and fun x => (Up.take hL _ _).and fun _ => (Up.take hL _ _).and fun _ => (Up.look fun s => (up_cases hL m h _ _).less (a + 3) (by omega) (Nat.le_refl _)).and fun cs =>
    (Up.step hL (fun i h => isV_k h) ((Up.take hL _ _).and fun _ => (up_inner m h _).and fun k => (Up.take hL _ _).and fun _ => (Up.pure _ _).less 0 (Nat.le_refl _) (b' := 0 + (a + 3)) (by omega)) (Up.pure _ _)).and fun k =>
    (Up.take hL _ _).and fun _ => (Up.lay _ a).less 3 (by omega) (by omega)
theorem up_word (hL : TokOk L) (m : Nat) {kd : PM Int} (h : Up L kd 0 0) (w : List UInt8) : Up L (wordM L m kd w) 1 0 := by
  unfold wordM
  split
  · rename_i k _
    refine (up_bracket hL m _).and fun x => ?_
    by_cases hk : k = 7 ∨ k = 8
    · rw [if_pos hk]; exact (up_inner m h _).and fun i => (Up.lay _ 0).less 2 (by omega) (by omega)
    · rw [if_neg hk]; exact (Up.pure _ _).and fun i => (Up.lay _ 0).less 2 (by omega) (by omega)
  · repeat' split
    · exact (up_inner m h _).and fun i => Up.lay _ 0
    · exact Up.lay _ 0
    · exact Up.lay _ 0
    · exact (up_choice hL m h 0).less 1 (Nat.le_refl _) (by omega)
    · exact up_array hL m _
theorem up_kindF (hL : TokOk L) (m : Nat) {kd : PM Int} (h : Up L kd 0 0) : Up L (kindF L m kd) 0 0 := by
  unfold kindF
  refine Up.at ((up_ref hL m).and fun t => up_array hL m t) (Up.look (f := fun s => atM (startsV L ·) (stepM >>= fun _ => wordM L m kd (tk L s.i).t) (failM 4)) fun s => ?_)
  exact Up.step hL (fun i h => startsV_k h) (up_word hL m h _) (Up.fail (by decide) (by decide) _ _)
theorem up_kind (hL : TokOk L) : ∀ m, Up L (kindM L m) 0 0
  | 0 => up_kindF hL 0 (Up.fail (by decide) (by decide) _ _)
  | m + 1 => up_kindF hL _ (up_kind hL m)
theorem up_derived (hL : TokOk L) (a : Nat) : Up L (derivedM L) a a := by
  unfold derivedM
  refine Up.look (f := fun s => atM (fun i => !decide ((tk L i).k = 3) && !decide (derOf (tk L i).t = 0)) (stepM >>= fun _ => takeM L t_lpar >>= fun _ => nameM L >>= fun a =>
      (if 3 ≤ derOf (tk L s.i).t then takeM L t_dots >>= fun _ => nameM L else pure []) >>= fun b => takeM L t_rpar >>= fun _ => pure (derOf (tk L s.i).t, a, b)) (failM 4)) fun s => ?_
  refine Up.step hL (fun i h => ?_) ((Up.take hL _ _).and fun _ => (Up.name hL _).and fun w => ?_) (Up.fail (by decide) (by decide) _ _)
  · rw [Bool.and_eq_true] at h
    simpa using h.1
  · by_cases hd : 3 ≤ derOf (tk L s.i).t
    · rw [if_pos hd]
      exact ((Up.take hL _ _).and fun _ => Up.name hL _).and fun b => (Up.take hL _ _).and fun _ => (Up.pure _ _).less 0 (Nat.le_refl _) (by omega)
    · rw [if_neg hd]
      exact (Up.pure _ _).and fun b => (Up.take hL _ _).and fun _ => (Up.pure _ _).less 0 (Nat.le_refl _) (by omega)
theorem up_field (hL : TokOk L) : Up L (fieldM L) 0 0 := by
  unfold fieldM
  exact (Up.name hL 0).and fun w => (Up.take hL _ _).and fun _ => ((up_kind hL 32).less 2 (by omega) (Nat.le_refl _)).and fun t =>
    (Up.step hL (fun i h => isV_k h) ((up_derived hL _).less 0 (Nat.le_refl _) (b' := 2) (by omega)) (Up.pure _ _)).and fun d =>
    (Up.step hL (fun i h => isV_k h) ((up_expr hL 32 _).less 0 (Nat.le_refl _) (b' := 2) (by omega)) (Up.pure _ _)).and fun x =>
    (Up.take hL _ _).and fun _ => (Up.pure _ _).less 0 (Nat.le_refl _) (by omega)
theorem up_subs (hL : TokOk L) : ∀ n l, Up L (subsN L n l) 0 0
  | 0, l => Up.pure _ _
  | n + 1, l => by
    rw [subsN]
    exact (Up.roomIf (namedV L ·) _ _).and fun _ => (Up.name hL _).and fun w => (Up.take hL _ _).and fun _ => (Up.number hL _).and fun b => (Up.take hL _ _).and fun _ =>
      Up.at ((up_subs hL n _).less 4 (by omega) (by omega)) ((Up.pure _ _).less 0 (Nat.le_refl _) (by omega))
theorem up_pack (hL : TokOk L) : Up L (packM L) 0 0 := by
  unfold packM
  refine (Up.take hL _ _).and fun _ => ?_
  intro s c hs
  dsimp only
  by_cases hk : (tk L s.i).k = 0
  · rw [if_pos hk]
    cases integerV (tk L s.i).t with
    | none => exact ⟨Nat.le_refl _, hs.i, by decide, by decide⟩
    | some p =>
      obtain ⟨z, lt⟩ := p
      have := Up.step (L := L) hL (p := fun i => decide ((tk L i).k = 0)) (f := fun _ => takeM L t_lcur >>= fun _ => (fun s => subsN L (L.length - s.i + 1) [] s) >>= fun l => takeM L t_rcur >>= fun _ => pure (⟨[], -1, 0, [], [], -1, z, lt, l⟩ : IT)) (y := failM 4) (a := 1) (b := 0) (fun i h => by have := of_decide_eq_true h; omega)
        ((Up.take hL t_lcur 2).and fun _ => (Up.look fun s => (up_subs hL (L.length - s.i + 1) []).less (a' := 3) (b' := 3) 3 (by omega) (by omega)).and fun l => (Up.take hL t_rcur 3).and fun _ => (Up.pure (⟨[], -1, 0, [], [], -1, z, lt, l⟩ : IT) 4).less (b' := 0) 0 (Nat.le_refl _) (by omega)) (Up.fail (by decide) (by decide) _ _) s c hs
      unfold atM at this
      rw [if_pos (decide_eq_true hk)] at this
      exact this
  · rw [if_neg hk]; exact ⟨Nat.le_refl _, hs.i, by decide, by decide⟩
theorem up_pars (hL : TokOk L) : ∀ n l, Up L (parsN L n l) 0 0
  | 0, l => Up.pure _ _
  | n + 1, l => Up.step hL (fun i h => isV_k h) ((Up.roomIf (namedV L ·) _ _).and fun _ => (Up.name hL _).and fun x => (up_pars hL n (l ++ [x])).less 2 (by omega) (by omega)) (Up.pure _ _)
theorem up_items (hL : TokOk L) : ∀ n l, Up L (itemsN L n l) 0 0
  | 0, l => Up.pure _ _
  | n + 1, l => Up.at ((Up.room _ _).and fun _ => (Up.at (up_pack hL) (up_field hL)).and fun x => up_items hL n _) (Up.pure _ _)
theorem up_record (hL : TokOk L) : Up L (recordM L) 0 0 := by
  unfold recordM
  exact (Up.take hL _ _).and fun _ => (Up.name hL _).and fun w =>
    (Up.step hL (fun i h => isV_k h) ((Up.name hL _).and fun x => (Up.look fun s => (up_pars hL _ _).less 4 (by omega) (Nat.le_refl _)).and fun l => (Up.take hL _ _).and fun _ => (Up.pure _ _).less 0 (Nat.le_refl _) (b' := 2) (by omega)) (Up.pure _ _)).and fun ps =>
    (Up.take hL _ _).and fun _ => (Up.look fun s => (up_items hL _ _).less 3 (by omega) (Nat.le_refl _)).and fun is => (Up.take hL _ _).and fun _ => (Up.pure _ _).less 0 (Nat.le_refl _) (by omega)
theorem up_const (hL : TokOk L) : Up L (constM L) 0 0 := by
  unfold constM
  exact (Up.take hL _ _).and fun _ => (Up.name hL _).and fun w => (Up.take hL _ _).and fun _ => (Up.number hL _).and fun n => (Up.take hL _ _).and fun _ => (Up.pure _ _).less 0 (Nat.le_refl _) (by omega)
theorem up_whole (hL : TokOk L) : ∀ n cs rs, Up L (wholeN L n cs rs) 0 0
  | 0, cs, rs => Up.pure _ _
  | n + 1, cs, rs => Up.at ((Up.room _ _).and fun _ => (up_const hL).and fun c => up_whole hL n _ _) (Up.at ((Up.room _ _).and fun _ => (up_record hL).and fun c => up_whole hL n _ _) (Up.at (Up.pure _ _) (Up.fail (by decide) (by decide) _ _)))
end
end Go.Proofs.YtkbhmcdoedmffaaGreatDoor

namespace Go.Proofs
open Go.Shelf
def Tryz.lays161_ren : Go.Shelf.Ren := ⟨fun | 161 => 79 | 231 => 99 | 227 => 100 | 233 => 101 | 235 => 102 | 228 => 119 | 197 => 120 | 151 => 121 | 260 => 137 | 152 => 138 | 137 => 144 | 119 => 145 | 224 => 124 | 225 => 123 | 217 => 122 | 266 => 139 | n => n, fun | 9 => 9 | 4 => 4 | 3 => 3 | 5 => 5 | 117 => 196 | 116 => 195 | 0 => 0 | 124 => 199 | 105 => 210 | 21 => 21 | 119 => 228 | 46 => 133 | 139 => 231 | 138 => 230 | n => n, fun | 3 => 4 | 4 => 5 | n => n⟩
theorem Tryz.lays161 : Go.Proofs.Lays.n161 Tryz.prog Tryz.lays161_ren := {
  mixed := by kernel_rfl
  f119 := Tryz.func145.trans (congrArg some (by kernel_rfl))
  f137 := Tryz.func144.trans (congrArg some (by kernel_rfl))
  f151 := Tryz.func121.trans (congrArg some (by kernel_rfl))
  f152 := Tryz.func138.trans (congrArg some (by kernel_rfl))
  f161 := Tryz.func79.trans (congrArg some (by kernel_rfl))
  f197 := Tryz.func120.trans (congrArg some (by kernel_rfl))
  f217 := Tryz.func122.trans (congrArg some (by kernel_rfl))
  f224 := Tryz.func124.trans (congrArg some (by kernel_rfl))
  f225 := Tryz.func123.trans (congrArg some (by kernel_rfl))
  f227 := Tryz.func100.trans (congrArg some (by kernel_rfl))
  f228 := Tryz.func119.trans (congrArg some (by kernel_rfl))
  f231 := Tryz.func99.trans (congrArg some (by kernel_rfl))
  f233 := Tryz.func101.trans (congrArg some (by kernel_rfl))
  f235 := Tryz.func102.trans (congrArg some (by kernel_rfl))
  f260 := Tryz.func137.trans (congrArg some (by kernel_rfl))
  f266 := Tryz.func139.trans (congrArg some (by kernel_rfl))
  t0 := Tryz.underlying0
  a0 := Tryz.isAgg0
  z0 := Tryz.sizeOf0
  v0 := Tryz.zeroValue0
  t3 := Tryz.underlying3
  a3 := Tryz.isAgg3
  z3 := Tryz.sizeOf3
  v3 := Tryz.zeroValue3
  t4 := Tryz.underlying4
  a4 := Tryz.isAgg4
  z4 := Tryz.sizeOf4
  v4 := Tryz.zeroValue4
  t5 := Tryz.underlying5
  a5 := Tryz.isAgg5
  z5 := Tryz.sizeOf5
  v5 := Tryz.zeroValue5
  t9 := Tryz.underlying9
  a9 := Tryz.isAgg9
  z9 := Tryz.sizeOf9
  v9 := Tryz.zeroValue9
  t21 := Tryz.underlying21
  a21 := Tryz.isAgg21
  z21 := Tryz.sizeOf21
  v21 := Tryz.zeroValue21
  t46 := Tryz.underlying133
  a46 := Tryz.isAgg133
  z46 := Tryz.sizeOf133
  v46 := Tryz.zeroValue133
  t105 := Tryz.underlying210
  a105 := Tryz.isAgg210
  z105 := Tryz.sizeOf210
  v105 := Tryz.zeroValue210
  t116 := Tryz.underlying195
  a116 := Tryz.isAgg195
  z116 := Tryz.sizeOf195
  t117 := Tryz.underlying196
  a117 := Tryz.isAgg196
  z117 := Tryz.sizeOf196
  v117 := Tryz.zeroValue196
  t119 := Tryz.underlying228
  a119 := Tryz.isAgg228
  z119 := Tryz.sizeOf228
  t124 := Tryz.underlying199
  a124 := Tryz.isAgg199
  z124 := Tryz.sizeOf199
  v124 := Tryz.zeroValue199
  t138 := Tryz.underlying230
  a138 := Tryz.isAgg230
  z138 := Tryz.sizeOf230
  v138 := Tryz.zeroValue230
  t139 := Tryz.underlying231
  a139 := Tryz.isAgg231
  z139 := Tryz.sizeOf231
  v139 := Tryz.zeroValue231
  g3 := by kernel_rfl
  g4 := by kernel_rfl }
def Tryz.laysC245_ren : Go.Shelf.Ren := ⟨fun | 245 => 106 | 279 => 129 | 280 => 130 | 281 => 131 | 282 => 132 | 316 => 141 | 171 => 143 | 205 => 142 | 243 => 146 | 246 => 147 | 283 => 148 | 284 => 149 | 285 => 150 | 286 => 151 | 129 => 153 | 317 => 152 | 318 => 154 | 319 => 155 | 320 => 156 | 337 => 157 | 338 => 158 | n => n, fun | 9 => 9 | 3 => 3 | 75 => 142 | 167 => 214 | 4 => 4 | 168 => 216 | 210 => 225 | 37 => 138 | 0 => 0 | 127 => 170 | 145 => 235 | 143 => 233 | 2 => 2 | 171 => 237 | 53 => 57 | 5 => 5 | 173 => 240 | 212 => 243 | 51 => 165 | 20 => 20 | 213 => 244 | 46 => 133 | 232 => 248 | 233 => 249 | 80 => 146 | n => n, fun | 15 => 2 | 16 => 3 | 17 => 6 | 18 => 7 | 19 => 8 | n => n⟩
theorem Tryz.laysC245 : Go.Proofs.LaysC.n245 Tryz.prog Tryz.laysC245_ren := {
  mixed := by kernel_rfl
  f129 := Tryz.func153.trans (congrArg some (by kernel_rfl))
  f171 := Tryz.func143.trans (congrArg some (by kernel_rfl))
  f205 := Tryz.func142.trans (congrArg some (by kernel_rfl))
  f243 := Tryz.func146.trans (congrArg some (by kernel_rfl))
  f245 := Tryz.func106.trans (congrArg some (by kernel_rfl))
  f246 := Tryz.func147.trans (congrArg some (by kernel_rfl))
  f279 := Tryz.func129.trans (congrArg some (by kernel_rfl))
  f280 := Tryz.func130.trans (congrArg some (by kernel_rfl))
  f281 := Tryz.func131.trans (congrArg some (by kernel_rfl))
  f282 := Tryz.func132.trans (congrArg some (by kernel_rfl))
  f283 := Tryz.func148.trans (congrArg some (by kernel_rfl))
  f284 := Tryz.func149.trans (congrArg some (by kernel_rfl))
  f285 := Tryz.func150.trans (congrArg some (by kernel_rfl))
  f286 := Tryz.func151.trans (congrArg some (by kernel_rfl))
  f316 := Tryz.func141.trans (congrArg some (by kernel_rfl))
  f317 := Tryz.func152.trans (congrArg some (by kernel_rfl))
  f318 := Tryz.func154.trans (congrArg some (by kernel_rfl))
  f319 := Tryz.func155.trans (congrArg some (by kernel_rfl))
  f320 := Tryz.func156.trans (congrArg some (by kernel_rfl))
  f337 := Tryz.func157.trans (congrArg some (by kernel_rfl))
  f338 := Tryz.func158.trans (congrArg some (by kernel_rfl))
  t0 := Tryz.underlying0
  a0 := Tryz.isAgg0
  z0 := Tryz.sizeOf0
  v0 := Tryz.zeroValue0
  t2 := Tryz.underlying2
  a2 := Tryz.isAgg2
  z2 := Tryz.sizeOf2
  v2 := Tryz.zeroValue2
  t3 := Tryz.underlying3
  a3 := Tryz.isAgg3
  z3 := Tryz.sizeOf3
  v3 := Tryz.zeroValue3
  t4 := Tryz.underlying4
  a4 := Tryz.isAgg4
  z4 := Tryz.sizeOf4
  v4 := Tryz.zeroValue4
  t5 := Tryz.underlying5
  a5 := Tryz.isAgg5
  z5 := Tryz.sizeOf5
  v5 := Tryz.zeroValue5
  t9 := Tryz.underlying9
  a9 := Tryz.isAgg9
  z9 := Tryz.sizeOf9
  v9 := Tryz.zeroValue9
  t20 := Tryz.underlying20
  a20 := Tryz.isAgg20
  z20 := Tryz.sizeOf20
  v20 := Tryz.zeroValue20
  t37 := Tryz.underlying138
  a37 := Tryz.isAgg138
  z37 := Tryz.sizeOf138
  v37 := Tryz.zeroValue138
  t46 := Tryz.underlying133
  a46 := Tryz.isAgg133
  z46 := Tryz.sizeOf133
  v46 := Tryz.zeroValue133
  t51 := Tryz.underlying165
  a51 := Tryz.isAgg165
  z51 := Tryz.sizeOf165
  v51 := Tryz.zeroValue165
  t53 := Tryz.underlying57
  a53 := Tryz.isAgg57
  z53 := Tryz.sizeOf57
  v53 := Tryz.zeroValue57
  t75 := Tryz.underlying142
  a75 := Tryz.isAgg142
  z75 := Tryz.sizeOf142
  v75 := Tryz.zeroValue142
  t127 := Tryz.underlying170
  a127 := Tryz.isAgg170
  z127 := Tryz.sizeOf170
  v127 := Tryz.zeroValue170
  t143 := Tryz.underlying233
  a143 := Tryz.isAgg233
  z143 := Tryz.sizeOf233
  v143 := Tryz.zeroValue233
  t145 := Tryz.underlying235
  a145 := Tryz.isAgg235
  z145 := Tryz.sizeOf235
  v145 := Tryz.zeroValue235
  t167 := Tryz.underlying214
  a167 := Tryz.isAgg214
  z167 := Tryz.sizeOf214
  v167 := Tryz.zeroValue214
  t168 := Tryz.underlying216
  a168 := Tryz.isAgg216
  z168 := Tryz.sizeOf216
  v168 := Tryz.zeroValue216
  t171 := Tryz.underlying237
  a171 := Tryz.isAgg237
  z171 := Tryz.sizeOf237
  v171 := Tryz.zeroValue237
  t173 := Tryz.underlying240
  a173 := Tryz.isAgg240
  z173 := Tryz.sizeOf240
  v173 := Tryz.zeroValue240
  t210 := Tryz.underlying225
  a210 := Tryz.isAgg225
  z210 := Tryz.sizeOf225
  v210 := Tryz.zeroValue225
  t212 := Tryz.underlying243
  a212 := Tryz.isAgg243
  z212 := Tryz.sizeOf243
  v212 := Tryz.zeroValue243
  t213 := Tryz.underlying244
  a213 := Tryz.isAgg244
  z213 := Tryz.sizeOf244
  t232 := Tryz.underlying248
  a232 := Tryz.isAgg248
  z232 := Tryz.sizeOf248
  v232 := Tryz.zeroValue248
  t233 := Tryz.underlying249
  a233 := Tryz.isAgg249
  z233 := Tryz.sizeOf249
  v233 := Tryz.zeroValue249
  g15 := by kernel_rfl
  g16 := by kernel_rfl
  g17 := by kernel_rfl
  g18 := by kernel_rfl
  g19 := by kernel_rfl
  t80 := Tryz.underlying146
  a80 := Tryz.isAgg146
  z80 := Tryz.sizeOf146
  v80 := Tryz.zeroValue146
  i0 := by kernel_rfl
  i2 := by kernel_rfl
  i3 := by kernel_rfl
  i4 := by kernel_rfl
  i5 := by kernel_rfl
  i9 := by kernel_rfl
  i20 := by kernel_rfl
  i37 := by kernel_rfl
  i46 := by kernel_rfl
  i51 := by kernel_rfl
  i53 := by kernel_rfl
  i75 := by kernel_rfl
  i80 := by kernel_rfl
  i127 := by kernel_rfl
  i143 := by kernel_rfl
  i145 := by kernel_rfl
  i167 := by kernel_rfl
  i168 := by kernel_rfl
  i171 := by kernel_rfl
  i173 := by kernel_rfl
  i210 := by kernel_rfl
  i212 := by kernel_rfl
  i232 := by kernel_rfl
  i233 := by kernel_rfl
  m15 := by kernel_rfl
  m16 := by kernel_rfl
  m17 := by kernel_rfl
  m18 := by kernel_rfl
  m19 := by kernel_rfl
  c0 := by kernel_rfl
  c2 := by kernel_rfl
  c3 := by kernel_rfl
  c4 := by kernel_rfl
  c5 := by kernel_rfl
  c9 := by kernel_rfl
  c20 := by kernel_rfl
  c37 := by kernel_rfl
  c46 := by kernel_rfl
  c51 := by kernel_rfl
  c53 := by kernel_rfl
  c75 := by kernel_rfl
  c80 := by kernel_rfl
  c127 := by kernel_rfl
  c143 := by kernel_rfl
  c145 := by kernel_rfl
  c167 := by kernel_rfl
  c168 := by kernel_rfl
  c171 := by kernel_rfl
  c173 := by kernel_rfl
  c210 := by kernel_rfl
  c212 := by kernel_rfl
  c213 := by kernel_rfl
  c232 := by kernel_rfl
  c233 := by kernel_rfl }
def Tryz.lays321_ren : Go.Shelf.Ren := ⟨fun | 321 => 127 | n => n, fun | 5 => 5 | n => n, fun | n => n⟩
theorem Tryz.lays321 : Go.Proofs.Lays.n321 Tryz.prog Tryz.lays321_ren := {
  mixed := by kernel_rfl
  f321 := Tryz.func127.trans (congrArg some (by kernel_rfl))
  t5 := Tryz.underlying5
  a5 := Tryz.isAgg5
  z5 := Tryz.sizeOf5
  v5 := Tryz.zeroValue5 }
open Go.RowKit in
theorem Tryz.internal_strconv_lower (c : Int) (w : World) :
    Calls Tryz.prog 127 #[.int .u8 c] w fun e w' => e = .returned (.int .u8 (bits .or .u8 c 32)) ∧ w' = w := Any.internal_strconv_lower Tryz.lays321 c w
open Go.RowKit in
theorem Tryz.strconv_toError_range (fn s : ByteArray) (base bits : Int) (ev : Value) (w : World) (hlim : s.size ≤ 281474976710656) (hv : w.cell? ⟨3, 0, none⟩ = some ev) (hev : ev = .nilIface ∨ ∃ te pe, ev = .iface te pe) :
    Calls Tryz.prog 106 #[.string fn, .string s, .int .i64 base, .int .i64 bits, .iface 214 (.int .i64 1)] w fun e w' => ∃ N, e = .returned (.iface 216 (.pointer (some ⟨N, 0, none⟩))) ∧ w.heap.size ≤ N ∧ w'.heap[N]? = some (.cells #[.string fn, .string s, ev] 225 (0, 0)) ∧ Below w.heap.size w w' := Any.strconv_toError_range Tryz.laysC245 fn s base bits ev w hlim hv hev
def Tryz.lays145_ren : Go.Shelf.Ren := ⟨fun | 145 => 58 | 220 => 80 | 219 => 103 | 217 => 122 | 225 => 123 | 224 => 124 | 267 => 125 | 266 => 139 | 314 => 140 | n => n, fun | 9 => 9 | 4 => 4 | 59 => 161 | 3 => 3 | 5 => 5 | 46 => 133 | 146 => 166 | 51 => 165 | n => n, fun | 1 => 1 | n => n⟩
theorem Tryz.lays145 : Go.Proofs.Lays.n145 Tryz.prog Tryz.lays145_ren := {
  mixed := by kernel_rfl
  f145 := Tryz.func58.trans (congrArg some (by kernel_rfl))
  f217 := Tryz.func122.trans (congrArg some (by kernel_rfl))
  f219 := Tryz.func103.trans (congrArg some (by kernel_rfl))
  f220 := Tryz.func80.trans (congrArg some (by kernel_rfl))
  f224 := Tryz.func124.trans (congrArg some (by kernel_rfl))
  f225 := Tryz.func123.trans (congrArg some (by kernel_rfl))
  f266 := Tryz.func139.trans (congrArg some (by kernel_rfl))
  f267 := Tryz.func125.trans (congrArg some (by kernel_rfl))
  f314 := Tryz.func140.trans (congrArg some (by kernel_rfl))
  t3 := Tryz.underlying3
  a3 := Tryz.isAgg3
  z3 := Tryz.sizeOf3
  v3 := Tryz.zeroValue3
  t4 := Tryz.underlying4
  a4 := Tryz.isAgg4
  z4 := Tryz.sizeOf4
  v4 := Tryz.zeroValue4
  t5 := Tryz.underlying5
  a5 := Tryz.isAgg5
  z5 := Tryz.sizeOf5
  v5 := Tryz.zeroValue5
  t9 := Tryz.underlying9
  a9 := Tryz.isAgg9
  z9 := Tryz.sizeOf9
  v9 := Tryz.zeroValue9
  t46 := Tryz.underlying133
  a46 := Tryz.isAgg133
  z46 := Tryz.sizeOf133
  v46 := Tryz.zeroValue133
  t51 := Tryz.underlying165
  a51 := Tryz.isAgg165
  z51 := Tryz.sizeOf165
  v51 := Tryz.zeroValue165
  t59 := Tryz.underlying161
  a59 := Tryz.isAgg161
  z59 := Tryz.sizeOf161
  v59 := Tryz.zeroValue161
  t146 := Tryz.underlying166
  a146 := Tryz.isAgg166
  z146 := Tryz.sizeOf166
  v146 := Tryz.zeroValue166
  g1 := by kernel_rfl }
open Go.RowKit Go.Lib in
theorem Tryz.strings_Cut (s sep : ByteArray) (m : Int) (w : World) (hs : s.size < 4294967281) (hm : w.cell? ⟨1, 0, none⟩ = some (.int .i64 m)) :
    Calls Tryz.prog 58 #[.string s, .string sep] w fun e w' => e = .returned (.tuple #[.string ⟨(Lib.cut s.data.toList sep.data.toList).1.toArray⟩, .string ⟨(Lib.cut s.data.toList sep.data.toList).2.1.toArray⟩, .bool (Lib.cut s.data.toList sep.data.toList).2.2]) ∧ ∃ n, w' = w.drewN n := Any.strings_Cut Tryz.lays145 s sep m w hs hm
def Tryz.laysM145_ren : Go.Shelf.Ren := ⟨fun | 145 => 58 | 220 => 80 | 219 => 103 | 217 => 122 | 225 => 123 | 224 => 124 | 267 => 125 | 266 => 139 | 314 => 140 | n => n, fun | 9 => 9 | 4 => 4 | 59 => 161 | 3 => 3 | 5 => 5 | 46 => 133 | 146 => 166 | 51 => 165 | n => n, fun | 1 => 1 | n => n⟩
theorem Tryz.laysM145 : Go.Proofs.LaysM.n145 Tryz.prog Tryz.laysM145_ren := {
  mixed := by kernel_rfl
  f145 := Tryz.func58.trans (congrArg some (by kernel_rfl))
  f217 := Tryz.func122.trans (congrArg some (by kernel_rfl))
  f219 := Tryz.func103.trans (congrArg some (by kernel_rfl))
  f220 := Tryz.func80.trans (congrArg some (by kernel_rfl))
  f224 := Tryz.func124.trans (congrArg some (by kernel_rfl))
  f225 := Tryz.func123.trans (congrArg some (by kernel_rfl))
  f266 := Tryz.func139.trans (congrArg some (by kernel_rfl))
  f267 := Tryz.func125.trans (congrArg some (by kernel_rfl))
  f314 := Tryz.func140.trans (congrArg some (by kernel_rfl))
  t3 := Tryz.underlying3
  a3 := Tryz.isAgg3
  z3 := Tryz.sizeOf3
  v3 := Tryz.zeroValue3
  t4 := Tryz.underlying4
  a4 := Tryz.isAgg4
  z4 := Tryz.sizeOf4
  v4 := Tryz.zeroValue4
  t5 := Tryz.underlying5
  a5 := Tryz.isAgg5
  z5 := Tryz.sizeOf5
  v5 := Tryz.zeroValue5
  t9 := Tryz.underlying9
  a9 := Tryz.isAgg9
  z9 := Tryz.sizeOf9
  v9 := Tryz.zeroValue9
  t46 := Tryz.underlying133
  a46 := Tryz.isAgg133
  z46 := Tryz.sizeOf133
  v46 := Tryz.zeroValue133
  t51 := Tryz.underlying165
  a51 := Tryz.isAgg165
  z51 := Tryz.sizeOf165
  v51 := Tryz.zeroValue165
  t59 := Tryz.underlying161
  a59 := Tryz.isAgg161
  z59 := Tryz.sizeOf161
  v59 := Tryz.zeroValue161
  t146 := Tryz.underlying166
  a146 := Tryz.isAgg166
  z146 := Tryz.sizeOf166
  v146 := Tryz.zeroValue166
  g1 := by kernel_rfl
  i3 := by kernel_rfl
  i4 := by kernel_rfl
  i5 := by kernel_rfl
  i9 := by kernel_rfl
  i46 := by kernel_rfl
  i51 := by kernel_rfl
  i59 := by kernel_rfl
  i146 := by kernel_rfl
  m1 := by kernel_rfl
  s1_3 := fun w h => Go.Proofs.cell_of_shapedOpen_int (zero := #[.int .i64 0]) (t := 3) h (of_decide_eq_true (by kernel_rfl)) (by kernel_rfl) rfl (by kernel_rfl) (by kernel_rfl) Tryz.underlying3 }
open Go.RowKit Go.Lib in
def Tryz.lays206_ren : Go.Shelf.Ren := ⟨fun | 206 => 62 | n => n, fun | 9 => 9 | 4 => 4 | 3 => 3 | n => n, fun | n => n⟩
theorem Tryz.lays206 : Go.Proofs.Lays.n206 Tryz.prog Tryz.lays206_ren := {
  mixed := by kernel_rfl
  f206 := Tryz.func62.trans (congrArg some (by kernel_rfl))
  t3 := Tryz.underlying3
  a3 := Tryz.isAgg3
  z3 := Tryz.sizeOf3
  v3 := Tryz.zeroValue3
  t4 := Tryz.underlying4
  a4 := Tryz.isAgg4
  z4 := Tryz.sizeOf4
  v4 := Tryz.zeroValue4
  t9 := Tryz.underlying9
  a9 := Tryz.isAgg9
  z9 := Tryz.sizeOf9
  v9 := Tryz.zeroValue9 }
open Go.RowKit Go.Lib in
theorem Tryz.stringslite_HasPrefix (s p : ByteArray) (w : World) :
    Calls Tryz.prog 62 #[.string s, .string p] w fun e w' => e = .returned (.bool (Lib.hasPrefix s.data.toList p.data.toList)) ∧ w' = w := Any.stringslite_HasPrefix Tryz.lays206 s p w
def Tryz.lays99_ren : Go.Shelf.Ren := ⟨fun | 99 => 42 | 206 => 62 | n => n, fun | 9 => 9 | 4 => 4 | 3 => 3 | n => n, fun | n => n⟩
theorem Tryz.lays99 : Go.Proofs.Lays.n99 Tryz.prog Tryz.lays99_ren := {
  mixed := by kernel_rfl
  f99 := Tryz.func42.trans (congrArg some (by kernel_rfl))
  f206 := Tryz.func62.trans (congrArg some (by kernel_rfl))
  t3 := Tryz.underlying3
  a3 := Tryz.isAgg3
  z3 := Tryz.sizeOf3
  v3 := Tryz.zeroValue3
  t4 := Tryz.underlying4
  a4 := Tryz.isAgg4
  z4 := Tryz.sizeOf4
  v4 := Tryz.zeroValue4
  t9 := Tryz.underlying9
  a9 := Tryz.isAgg9
  z9 := Tryz.sizeOf9
  v9 := Tryz.zeroValue9 }
open Go.RowKit Go.Lib in
theorem Tryz.strings_HasPrefix (s p : ByteArray) (w : World) :
    Calls Tryz.prog 42 #[.string s, .string p] w fun e w' => e = .returned (.bool (Lib.hasPrefix s.data.toList p.data.toList)) ∧ w' = w := Any.strings_HasPrefix Tryz.lays99 s p w
end Go.Proofs

namespace Go.Proofs.YtkbhmcdoedmffaaGreatDoor
open Go.RowKit

def ErrAt (w : World) (b : Nat) : Prop := ∃ ev, w.cell? ⟨b, 0, none⟩ = some ev ∧ (ev = .nilIface ∨ ∃ te pe, ev = .iface te pe)
theorem one_arg {S : Nat → Prop} {w : World} {a : T1} {vs : List Value} (h : All2 (V1 ι0 S w) [a] vs) : ∃ u, vs = [u] ∧ V1 ι0 S w a u := by
  obtain ⟨u, rfl, e⟩ := h.one_left
  exact ⟨u, rfl, e⟩
theorem two_args {S : Nat → Prop} {w : World} {a b : T1} {vs : List Value} (h : All2 (V1 ι0 S w) [a, b] vs) : ∃ u v, vs = [u, v] ∧ V1 ι0 S w a u ∧ V1 ι0 S w b v := by
  obtain ⟨u, vs, rfl, e0, h⟩ := h.cons_left
  obtain ⟨v, rfl, e1⟩ := h.one_left
  exact ⟨u, v, rfl, e0, e1⟩
theorem open_v {S : Nat → Prop} {w : World} {v u : Value} (h : V1 ι0 S w (c1 (.v v)) u) : u = v := by
  have h' : Imm S w _ u := h
  cases h'; rfl
theorem three_args {S : Nat → Prop} {w : World} {a b c : T1} {vs : List Value} (h : All2 (V1 ι0 S w) [a, b, c] vs) : ∃ u v x, vs = [u, v, x] ∧ V1 ι0 S w a u ∧ V1 ι0 S w b v ∧ V1 ι0 S w c x := by
  obtain ⟨u, vs, rfl, e0, h⟩ := h.cons_left
  obtain ⟨v, x, rfl, e1, e2⟩ := two_args h
  exact ⟨u, v, x, rfl, e0, e1, e2⟩
def signsAt (w : World) (g : Nat) : Prop := ∀ j l, signsL[j]? = some l → w.cell? ⟨g, j, none⟩ = some (.string (bs l))
def ΓL : Glob := ⟨fun S w => (ErrAt w 2 ∧ S 2) ∧ (ErrAt w 3 ∧ S 3) ∧ (∃ m, w.cell? ⟨1, 0, none⟩ = some (.int .i64 m) ∧ S 1) ∧ signsAt w 0 ∧ S 0,
  fun {S S' w w'} hw hS ⟨⟨⟨ev, h1, h2⟩, h3⟩, ⟨⟨er, h4, h5⟩, h6⟩, ⟨m, h7, h8⟩, h9, h10⟩ => ⟨⟨⟨ev, by rw [cell_same (hw _ h3)]; exact h1, h2⟩, hS _ h3⟩, ⟨⟨er, by rw [cell_same (hw _ h6)]; exact h4, h5⟩, hS _ h6⟩, ⟨m, by rw [cell_same (hw _ h8)]; exact h7, hS _ h8⟩, fun j l hj => by rw [cell_same (hw _ h10)]; exact h9 j l hj, hS _ h10⟩,
  [], fun g => match Nat.beq g 0 with
    | true => some (signsL.map fun l => ds (bs l))
    | false => none,
  fun {S w g cs} hG hg => by
    split at hg
    · rename_i hb
      obtain rfl := Nat.eq_of_beq_eq_true hb
      cases hg
      obtain ⟨-, -, -, h9, h10⟩ := hG
      refine ⟨fun j => .string (bs (signsL.getD j [])), fun _ => h10, fun j d hj => ?_⟩
      rw [List.getElem?_map] at hj
      obtain ⟨l, h1, rfl⟩ := Option.map_eq_some_iff.1 hj
      have : signsL.getD j [] = l := by rw [List.getD, h1]; rfl
      dsimp only
      rw [this]
      exact ⟨h9 j l h1, Imm.v rfl⟩
    · cases hg⟩
theorem CallsA.gL {f : FuncId} {xs : List T1} {r : TV} (h : CallsA Tryz.prog Γ0 f xs r) : CallsA Tryz.prog ΓL f xs r := ⟨h.1, fun S w vs hS _ hv => h.2 S w vs hS trivial hv⟩
theorem trimLeft_c (Γ : Glob) (r cs : List UInt8) (hcs : cs.length < 4294967281) (ha : (cs.all fun b => decide (b.toNat < 128)) = true) :
    CallsA Tryz.prog Γ 79 [c1 (ds (bs r)), c1 (ds (bs cs))] (Tstr (bs (r.dropWhile (cs.contains ·)))) :=
  ⟨⟨_, Tryz.func79, by kernel_rfl, rfl⟩, fun S w vs hS hG hvs => by
    obtain ⟨u, v, rfl, e1, e2⟩ := two_args hvs
    obtain rfl := open_v e1
    obtain rfl := open_v e2
    refine (Any.strings_TrimLeft_laid Tryz.lays161 (by kernel_rfl) (bs r) (bs cs) w (by rw [bs_size]; exact hcs) (fun j b hb => of_decide_eq_true (List.all_eq_true.1 ha b (List.mem_of_getElem? hb)))).mono fun e w' ⟨he, hb⟩ => ?_
    subst he
    exact flat_end hS hb (Imm.v rfl)⟩
theorem prefix_c (Γ : Glob) (r p : List UInt8) : CallsA Tryz.prog Γ 42 [c1 (ds (bs r)), c1 (ds (bs p))] (Tb (Lib.hasPrefix r p)) :=
  ⟨⟨_, Tryz.func42, by kernel_rfl, rfl⟩, fun S w vs hS hG hvs => by
    obtain ⟨u, v, rfl, e1, e2⟩ := two_args hvs
    obtain rfl := open_v e1
    obtain rfl := open_v e2
    refine (Tryz.strings_HasPrefix (bs r) (bs p) w).mono fun e w' ⟨he, hb⟩ => ?_
    subst he; subst hb
    exact flat_end hS (Below.refl _ _) (Imm.v rfl)⟩
theorem lprefix_c (Γ : Glob) (r p : List UInt8) : CallsA Tryz.prog Γ 62 [c1 (ds (bs r)), c1 (ds (bs p))] (Tb (Lib.hasPrefix r p)) :=
  ⟨⟨_, Tryz.func62, by kernel_rfl, rfl⟩, fun S w vs hS hG hvs => by
    obtain ⟨u, v, rfl, e1, e2⟩ := two_args hvs
    obtain rfl := open_v e1
    obtain rfl := open_v e2
    refine (Tryz.stringslite_HasPrefix (bs r) (bs p) w).mono fun e w' ⟨he, hb⟩ => ?_
    subst he; subst hb
    exact flat_end hS (Below.refl _ _) (Imm.v rfl)⟩
theorem cut_c (r p : List UInt8) (hr : r.length < 4294967281) : CallsA Tryz.prog ΓL 58 [c1 (ds (bs r)), c1 (ds (bs p))] (.tup [c1 (ds (bs (Lib.cut r p).1)), c1 (ds (bs (Lib.cut r p).2.1)), c1 (db (Lib.cut r p).2.2)]) :=
  ⟨⟨_, Tryz.func58, by kernel_rfl, rfl⟩, fun S w vs hS hG hvs => by
    obtain ⟨u, v, rfl, e1, e2⟩ := two_args hvs
    obtain rfl := open_v e1
    obtain rfl := open_v e2
    obtain ⟨-, -, ⟨m, hm, -⟩, -⟩ := hG
    refine (Tryz.strings_Cut (bs r) (bs p) m w (by rw [bs_size]; exact hr) hm).mono fun e w' ⟨he, n, hb⟩ => ?_
    subst he; subst hb
    exact flat_end hS ((Below.refl _ _).trans ⟨rfl, rfl, rfl, Nat.le_refl _, fun _ _ => rfl⟩) ⟨[_, _, _], rfl, .cons (Imm.v rfl) (.cons (Imm.v rfl) (.cons (Imm.v rfl) .nil))⟩⟩
theorem ext_drop (r : List UInt8) (n : Nat) (h : n ≤ r.length) : (bs r).extract (n : Int).toNat ((bs r).size : Int).toNat = bs (r.drop n) := by
  apply ByteArray.ext
  rw [ByteArray.data_extract, Int.toNat_natCast, Int.toNat_natCast, bs_size]
  apply Array.ext'
  simp only [List.extract_toArray, List.extract_eq_take_drop]
  exact List.take_of_length_le (by simp)
theorem ext_take (r : List UInt8) (n : Nat) : (bs r).extract (0 : Int).toNat (n : Int).toNat = bs (r.take n) := by
  apply ByteArray.ext
  rw [ByteArray.data_extract, Int.toNat_natCast]
  apply Array.ext'
  simp [List.extract_eq_take_drop]
end Go.Proofs.YtkbhmcdoedmffaaGreatDoor

namespace Go.Proofs.YtkbhmcdoedmffaaGreatDoor
open Go.RowKit

theorem u8_all {p q : UInt8 → Bool} (h : ∀ n : Fin 256, p (UInt8.ofNat n.val) = q (UInt8.ofNat n.val)) (b : UInt8) : p b = q b := by
  have := h ⟨b.toNat, b.toNat_lt⟩
  rwa [show UInt8.ofNat (⟨b.toNat, b.toNat_lt⟩ : Fin 256).val = b by simp] at this
def digS : List UInt8 := [48, 49, 50, 51, 52, 53, 54, 55, 56, 57]
def hexS : List UInt8 := [48, 49, 50, 51, 52, 53, 54, 55, 56, 57, 97, 98, 99, 100, 101, 102, 65, 66, 67, 68, 69, 70]
def runS : List UInt8 := [65, 66, 67, 68, 69, 70, 71, 72, 73, 74, 75, 76, 77, 78, 79, 80, 81, 82, 83, 84, 85, 86, 87, 88, 89, 90, 97, 98, 99, 100, 101, 102, 103, 104, 105, 106, 107, 108, 109, 110, 111, 112, 113, 114, 115, 116, 117, 118, 119, 120, 121, 122, 95, 48, 49, 50, 51, 52, 53, 54, 55, 56, 57]
def blankS : List UInt8 := [32, 9, 10, 13]
theorem digS_eq (b : UInt8) : digS.contains b = isDig b := u8_all (p := digS.contains) (q := isDig) (by decide +kernel) b
theorem hexS_eq (b : UInt8) : hexS.contains b = isHex b := u8_all (p := hexS.contains) (q := isHex) (by decide +kernel) b
theorem runS_eq (b : UInt8) : runS.contains b = alnum b := u8_all (p := runS.contains) (q := alnum) (by decide +kernel) b
theorem blankS_eq (b : UInt8) : blankS.contains b = blank b := u8_all (p := blankS.contains) (q := blank) (by decide +kernel) b
theorem drop_len (p : UInt8 → Bool) : ∀ l : List UInt8, (l.dropWhile p).length + (l.takeWhile p).length = l.length
  | [] => rfl
  | a :: l => by
    rw [List.dropWhile_cons, List.takeWhile_cons]
    have := drop_len p l
    split <;> simp <;> omega
theorem take_all (p : UInt8 → Bool) : ∀ l : List UInt8, (l.takeWhile p).length = l.length ↔ l.all p = true
  | [] => by simp
  | a :: l => by
    have := take_all p l
    have h9 : (l.takeWhile p).length ≤ l.length := by have := drop_len p l; omega
    rw [List.takeWhile_cons, List.all_cons]
    split
    · rename_i h
      rw [h, Bool.true_and, List.length_cons, List.length_cons, ← this]
      omega
    · rename_i h
      simp [h]
theorem run_c (cs : List UInt8) (p : UInt8 → Bool) (hp : ∀ b, cs.contains b = p b) (hcs : cs.length < 4294967281) (ha : (cs.all fun b => decide (b.toNat < 128)) = true) (r : List UInt8) (hr : r.length ≤ 16384) :
    CallsA Tryz.prog Γ0 57 [c1 (ds (bs r)), c1 (ds (bs cs))] (Ti ((r.takeWhile p).length : Nat)) := by
  have hd := drop_len p r
  have hpe : (fun b => cs.contains b) = p := funext hp
  have ht := trimLeft_c Γ0 r cs hcs ha
  rw [hpe] at ht
  refine fn_rule (C := ⟨Tryz.prog, layF, Tryz.f57.ntmps, Γ0, 0, [], []⟩) layF_ok mixed Tryz.func57 rfl (by kernel_rfl) rfl rfl rfl ?_
  refine ex_call (ht) ?_
  refine ex_i64 ((r.takeWhile p).length : Nat) (by rw [bs_size, bs_size]; omega) (by omega) (by omega) ?_
  exact TLe.rfl
theorem runD_c (r : List UInt8) (hr : r.length ≤ 16384) : CallsA Tryz.prog Γ0 57 [c1 (ds (bs r)), c1 (ds (bs digS))] (Ti ((r.takeWhile isDig).length : Nat)) := run_c digS isDig digS_eq (by decide) (by decide) r hr
theorem runH_c (r : List UInt8) (hr : r.length ≤ 16384) : CallsA Tryz.prog Γ0 57 [c1 (ds (bs r)), c1 (ds (bs hexS))] (Ti ((r.takeWhile isHex).length : Nat)) := run_c hexS isHex hexS_eq (by decide) (by decide) r hr
theorem runR_c (r : List UInt8) (hr : r.length ≤ 16384) : CallsA Tryz.prog Γ0 57 [c1 (ds (bs r)), c1 (ds (bs runS))] (Ti ((r.takeWhile alnum).length : Nat)) := run_c runS alnum runS_eq (by decide) (by decide) r hr
theorem runB_c (r : List UInt8) (hr : r.length ≤ 16384) : CallsA Tryz.prog Γ0 57 [c1 (ds (bs r)), c1 (ds (bs blankS))] (Ti ((r.takeWhile blank).length : Nat)) := run_c blankS blank blankS_eq (by decide) (by decide) r hr
abbrev Sc (r : List UInt8) (p : Nat × Nat) : Blk := .obj [.d (ds (bs r)), .d (di (p.1 : Nat)), .d (di (p.2 : Nat))]
theorem byteRows_ln (l : List UInt8) : (byteRows l).length = l.length := by simp [byteRows]
theorem ex_byte {bs : List UInt8} {n : Int} (i : Nat) (x : UInt8) (hn : n = i) (hx : bs[i]? = some x) {K : List D → Prop} (h : K [.v (.int .u8 x.toNat)]) : ∃ r, 0 ≤ n ∧ (byteRows bs)[n.toNat]? = some r ∧ K r := by
  subst hn
  exact ⟨_, by omega, by simp [byteRows, hx], h⟩
theorem skip_c (r : List UInt8) (p : Nat × Nat) (n : Nat) (hr : r.length ≤ 16384) (hn : n ≤ r.length) (hp1 : p.1 ≤ 100000) (hp2 : p.2 ≤ 100000) :
    CallsM Tryz.prog Γ0 39 [(0, Sc r p)] 1 [.c (.ptr 0 0), c1 (di n)] (.tup []) [(0, Sc (r.drop n) ((r.take n).foldl skipP p))] [] := by
  obtain ⟨T, hT⟩ : ∃ T, r.take n = T := ⟨_, rfl⟩
  have hTl : T.length = n := by rw [← hT, List.length_take]; omega
  rw [hT]
  obtain ⟨Q, hQ⟩ : ∃ Q, T.foldl skipP p = Q := ⟨_, rfl⟩
  rw [hQ]
  have hrs := bs_size r
  refine fn_ruleM (C := ⟨Tryz.prog, layF, Tryz.f39.ntmps, Γ0, 1, [], []⟩) layF_ok mixed Tryz.func39 rfl (by kernel_rfl) rfl rfl rfl ?_
  refine ⟨by omega, by omega, by omega, ?_⟩
  rw [ext_take, hT]
  refine ex_is n (by rw [byteRows_ln]; exact hTl) ?_
  refine ex_loop (X := Nat × Nat × Nat) (fun ⟨q, u, v⟩ => ⟨[(0, .o (.c (.ptr 0 0))), (1, Ti n), (12, .o (c1 (.sl 1 (byteRows T)))), (13, Ti n), (14, Ti q)], [(0, .obj [.d (ds (bs r)), .d (di (u : Nat)), .d (di (v : Nat))])], 1⟩) (fun x => n - x.1)
    (fun ⟨q, u, v⟩ => q ≤ n ∧ u ≤ p.1 + q ∧ v ≤ p.2 + q + 1 ∧ (T.drop q).foldl skipP (u, v) = Q) (0, p.1, p.2) ⟨Nat.zero_le _, Nat.le_refl _, by show p.2 ≤ _; omega, hQ⟩ (SLe.of ⟨⟨rfl, rfl, rfl, rfl, rfl, trivial⟩, ⟨rfl, trivial⟩⟩) ?_
  rintro ⟨q, u, v⟩ ⟨hq, hu, hv, hs⟩
  refine ex_dec (fun h => ?_) (fun h => ?_)
  · have hql : q < T.length := by omega
    have hc : T[q]? = some T[q] := at_some hql
    rw [List.drop_eq_getElem_cons hql, List.foldl_cons] at hs
    generalize T[q] = c at *
    refine ex_byte q c rfl hc ?_
    refine ex_i64 (((v + 1 : Nat) : Int)) (by first | rfl | omega | simp) (by omega) (by omega) ?_
    refine ex_chr 0 10 rfl rfl ?_
    refine ex_dec (fun h2 => ?_) (fun h2 => ?_)
    · have hc10 : c = 10 := UInt8.toNat_inj.1 (Int.ofNat_inj.1 h2)
      rw [show skipP (u, v) c = (u + 1, 1) from if_pos hc10] at hs
      refine ex_i64 (((u + 1 : Nat) : Int)) (by first | rfl | omega | simp) (by omega) (by omega) ?_
      refine ex_i64 (((q + 1 : Nat) : Int)) (by first | rfl | omega | simp) (by omega) (by omega) ?_
      exact ex_round (q + 1, u + 1, 1) ⟨by omega, by omega, by omega, hs⟩ (by show _ - _ < _ - _; omega) (SLe.of ⟨⟨rfl, rfl, rfl, rfl, rfl, trivial⟩, ⟨rfl, trivial⟩⟩)
    · have hc10 : c ≠ 10 := fun e => h2 (by rw [e])
      rw [show skipP (u, v) c = (u, v + 1) from if_neg hc10] at hs
      refine ex_i64 (((q + 1 : Nat) : Int)) (by first | rfl | omega | simp) (by omega) (by omega) ?_
      exact ex_round (q + 1, u, v + 1) ⟨by omega, by omega, by omega, hs⟩ (by show _ - _ < _ - _; omega) (SLe.of ⟨⟨rfl, rfl, rfl, rfl, rfl, trivial⟩, ⟨rfl, trivial⟩⟩)
  · rw [List.drop_eq_nil_of_le (by omega), List.foldl_nil] at hs
    subst hs
    refine ⟨by omega, by omega, by omega, ?_⟩
    rw [ext_drop r n hn]
    exact ⟨rfl, TLe.rfl, rfl, rfl⟩
theorem cutpre_c (r p : List UInt8) : CallsA Tryz.prog Γ0 104 [c1 (ds (bs r)), c1 (ds (bs p))] (.tup [c1 (ds (bs (if Lib.hasPrefix r p then r.drop p.length else r))), c1 (db (Lib.hasPrefix r p))]) := by
  have hin : CallsA Tryz.prog Γ0 126 [c1 (ds (bs r)), c1 (ds (bs p))] (.tup [c1 (ds (bs (if Lib.hasPrefix r p then r.drop p.length else r))), c1 (db (Lib.hasPrefix r p))]) := by
    have hrs := bs_size r
    have hps := bs_size p
    refine fn_rule (C := ⟨Tryz.prog, layF, Tryz.f126.ntmps, Γ0, 0, [], []⟩) layF_ok mixed Tryz.func126 rfl (by kernel_rfl) rfl rfl rfl ?_
    refine ex_call (lprefix_c Γ0 r p) ?_
    rcases h : Lib.hasPrefix r p with _ | _
    · repeat' (first | refine tT ?_ | refine tF ?_ | refine ex_dec (fun _ => ?_) (fun _ => ?_) | refine t8 ?_ | refine tI ?_ | refine tU ?_ | refine tA ?_ | refine tB ?_ | refine tL ?_ | refine tN ?_ | fail "no step")
      exact TLe.rfl
    · have hl : p.length ≤ r.length := by
        obtain ⟨X, rfl⟩ := List.isPrefixOf_iff_prefix.1 h
        rw [List.length_append]; omega
      repeat' (first | refine tT ?_ | refine tF ?_ | refine ex_dec (fun _ => ?_) (fun _ => ?_) | refine t8 ?_ | refine tI ?_ | refine tU ?_ | refine tA ?_ | refine tB ?_ | refine tL ?_ | refine tN ?_ | fail "no step")
      rw [hps, ext_drop r p.length hl]
      exact TLe.rfl
  refine fn_rule (C := ⟨Tryz.prog, layF, Tryz.f104.ntmps, Γ0, 0, [], []⟩) layF_ok mixed Tryz.func104 rfl (by kernel_rfl) rfl rfl rfl ?_
  refine ex_call (hin) ?_
  exact TLe.rfl
theorem size_pos {l : List UInt8} (h : l ≠ []) : bs l ≠ ByteArray.empty := fun e => h (by
  have := congrArg ByteArray.size e
  rw [bs_size] at this
  exact List.length_eq_zero_iff.1 this)
def digF (s : List UInt8) : List UInt8 × Nat := if sixteen s then (s.drop 2, 16) else if s.all isDig then (s, 10) else ([], 0)
theorem digits_c (s : List UInt8) (hs : s.length ≤ 16384) : CallsA Tryz.prog Γ0 81 [c1 (ds (bs s))] (.tup [c1 (ds (bs (digF s).1)), c1 (di ((digF s).2 : Nat))]) := by
  have hsz := bs_size s
  have h1 := runD_c s hs
  have ha := take_all isDig s
  have hcut := cutpre_c s [48, 120]
  unfold digF sixteen
  rw [show [48, 120].isPrefixOf s = Lib.hasPrefix s [48, 120] from rfl]
  have hA : if s.all isDig then (s.takeWhile isDig).length = s.length else (s.takeWhile isDig).length ≠ s.length := by
    split
    · rename_i h; exact ha.2 h
    · rename_i h; exact fun e => h (ha.1 e)
  rcases hp : Lib.hasPrefix s [48, 120] with _ | _ <;> rw [hp] at hcut
  · rcases hd : s.all isDig with _ | _ <;> rw [hd] at hA <;> simp only [if_true, if_false, Bool.false_eq_true] at hA
    all_goals
      refine fn_rule (C := ⟨Tryz.prog, layF, Tryz.f81.ntmps, Γ0, 0, [], []⟩) layF_ok mixed Tryz.func81 rfl (by kernel_rfl) rfl rfl rfl ?_
      repeat' (first | refine ex_call h1 ?_ | refine ex_call hcut ?_ | refine tT ?_ | refine tF ?_ | refine ex_dec (fun _ => ?_) (fun _ => ?_) | refine t8 ?_ | refine tI ?_ | refine tU ?_ | refine tA ?_ | refine tB ?_ | refine tL ?_ | refine tN ?_ | fail "no step")
      exact TLe.rfl
  · obtain ⟨x, hx⟩ : ∃ x, s.drop 2 = x := ⟨_, rfl⟩
    have hcut : CallsA Tryz.prog Γ0 104 [c1 (ds (bs s)), c1 (ds (bs [48, 120]))] (.tup [c1 (ds (bs x)), c1 (db true)]) := hx ▸ hcut
    have hxl : x.length = s.length - 2 := by rw [← hx, List.length_drop]
    have h2 := runH_c x (by omega)
    have ha2 := take_all isHex x
    have hxs := bs_size x
    rw [hx]
    have hA2 : if x.all isHex then (x.takeWhile isHex).length = x.length else (x.takeWhile isHex).length ≠ x.length := by
      split
      · rename_i h; exact ha2.2 h
      · rename_i h; exact fun e => h (ha2.1 e)
    rcases x with _ | ⟨c, y⟩
    · rw [show (decide (2 < s.length)) = false from decide_eq_false (by simp at hxl; omega)]
      rcases hd : s.all isDig with _ | _ <;> rw [hd] at hA <;> simp only [if_true, if_false, Bool.false_eq_true] at hA
      all_goals
        refine fn_rule (C := ⟨Tryz.prog, layF, Tryz.f81.ntmps, Γ0, 0, [], []⟩) layF_ok mixed Tryz.func81 rfl (by kernel_rfl) rfl rfl rfl ?_
        repeat' (first | refine ex_call h1 ?_ | refine ex_call hcut ?_ | refine tT ?_ | refine tF ?_ | refine ex_dec (fun _ => ?_) (fun _ => ?_) | refine t8 ?_ | refine tI ?_ | refine tU ?_ | refine tA ?_ | refine tB ?_ | refine tL ?_ | refine tN ?_ | fail "no step")
        exact TLe.rfl
    · have hne := size_pos (l := c :: y) (by simp)
      rw [show (decide (2 < s.length)) = true from decide_eq_true (by simp at hxl; omega)]
      generalize c :: y = x at *
      rcases he : x.all isHex with _ | _ <;> rw [he] at hA2 <;> simp only [if_true, if_false, Bool.false_eq_true] at hA2
      · rcases hd : s.all isDig with _ | _ <;> rw [hd] at hA <;> simp only [if_true, if_false, Bool.false_eq_true] at hA
        all_goals
          refine fn_rule (C := ⟨Tryz.prog, layF, Tryz.f81.ntmps, Γ0, 0, [], []⟩) layF_ok mixed Tryz.func81 rfl (by kernel_rfl) rfl rfl rfl ?_
          repeat' (first | refine ex_call h2 ?_ | refine ex_call h1 ?_ | refine ex_call hcut ?_ | refine tT ?_ | refine tF ?_ | refine ex_dec (fun _ => ?_) (fun _ => ?_) | refine t8 ?_ | refine tI ?_ | refine tU ?_ | refine tA ?_ | refine tB ?_ | refine tL ?_ | refine tN ?_ | fail "no step")
          all_goals first | exact TLe.rfl | exact absurd ‹_› hne
      ·
        refine fn_rule (C := ⟨Tryz.prog, layF, Tryz.f81.ntmps, Γ0, 0, [], []⟩) layF_ok mixed Tryz.func81 rfl (by kernel_rfl) rfl rfl rfl ?_
        repeat' (first | refine ex_call h2 ?_ | refine ex_call h1 ?_ | refine ex_call hcut ?_ | refine tT ?_ | refine tF ?_ | refine ex_dec (fun _ => ?_) (fun _ => ?_) | refine t8 ?_ | refine tI ?_ | refine tU ?_ | refine tA ?_ | refine tB ?_ | refine tL ?_ | refine tN ?_ | fail "no step")
        all_goals first | exact TLe.rfl | exact absurd ‹_› hne
end Go.Proofs.YtkbhmcdoedmffaaGreatDoor

namespace Go.Proofs.YtkbhmcdoedmffaaGreatDoor
open Go.RowKit

def passL (r : List UInt8) : Nat := if isCom r then (r.takeWhile notNl).length else (r.takeWhile blank).length
def passN : Nat → List UInt8 → Nat × Nat → List UInt8 × (Nat × Nat)
  | 0, r, p => (r, p)
  | n + 1, r, p => if passL r = 0 then (r, p) else passN n (r.drop (passL r)) ((r.take (passL r)).foldl skipP p)
def passF (r : List UInt8) (p : Nat × Nat) : List UInt8 × (Nat × Nat) := passN (r.length + 1) r p
theorem take_len (p : UInt8 → Bool) : ∀ l : List UInt8, l.take (l.takeWhile p).length = l.takeWhile p
  | [] => rfl
  | a :: l => by
    rw [List.takeWhile_cons]
    split
    · rw [List.length_cons, List.take_succ_cons, take_len p l]
    · rfl
theorem passL_le (r : List UInt8) : passL r ≤ r.length := by
  unfold passL
  have h1 := drop_len notNl r
  have h2 := drop_len blank r
  split <;> omega
def Bd (p : Nat × Nat) (n : Nat) : Prop := 1 ≤ p.1 ∧ 1 ≤ p.2 ∧ p.1 + n ≤ 16385 ∧ p.2 + n ≤ 16385
theorem skip_bd : ∀ (x : List UInt8) (p : Nat × Nat) (n : Nat), Bd p (x.length + n) → Bd (x.foldl skipP p) n
  | [], p, n, h => by rw [List.length_nil, Nat.zero_add] at h; exact h
  | b :: x, p, n, h => by
    rw [List.foldl_cons]
    refine skip_bd x _ n ?_
    obtain ⟨h1, h2, h3, h4⟩ := h
    rw [List.length_cons] at h3 h4
    unfold skipP
    split
    · exact ⟨by show 1 ≤ p.1 + 1; omega, by show 1 ≤ 1; omega, by show p.1 + 1 + _ ≤ _; omega, by show 1 + _ ≤ _; omega⟩
    · exact ⟨by show 1 ≤ p.1; omega, by show 1 ≤ p.2 + 1; omega, by show p.1 + _ ≤ _; omega, by show p.2 + 1 + _ ≤ _; omega⟩
theorem pass_step (r : List UInt8) (p : Nat × Nat) : lexF r p.1 p.2 = lexF (r.drop (passL r)) ((r.take (passL r)).foldl skipP p).1 ((r.take (passL r)).foldl skipP p).2 := by
  unfold passL
  split
  · rename_i h
    rw [take_len, ← dropWhile_eq]
    exact lexF_com p h
  · rw [take_len, ← dropWhile_eq]
    obtain ⟨X, hX, -⟩ := takeWhile_split blank r
    have hd : r.dropWhile blank = X := by
      rw [dropWhile_eq]
      conv => lhs; arg 2; rw [hX]
      rw [List.drop_left]
    rw [hd]
    conv => lhs; rw [hX]
    exact lexF_blank _ X p (takeWhile_all blank r)
def Due (r : List UInt8) : Prop := isCom r = false ∧ ∀ b, r[0]? = some b → blank b = false
theorem due_of {r : List UInt8} (h : passL r = 0) : Due r := by
  unfold passL at h
  split at h
  · rename_i hc
    obtain ⟨X, rfl⟩ := isCom_eq hc
    rw [List.takeWhile_cons, if_pos (by decide)] at h
    cases h
  · rename_i hc
    refine ⟨by simpa using hc, fun b hb => ?_⟩
    rcases r with _ | ⟨a, r⟩
    · cases hb
    · cases hb
      rw [List.takeWhile_cons] at h
      split at h
      · cases h
      · rename_i hn; simpa using hn
theorem passN_facts : ∀ (n : Nat) (r : List UInt8) (p : Nat × Nat), r.length < n → Bd p r.length →
    lexF r p.1 p.2 = lexF (passN n r p).1 (passN n r p).2.1 (passN n r p).2.2 ∧ Due (passN n r p).1 ∧ Bd (passN n r p).2 (passN n r p).1.length ∧ (passN n r p).1.length ≤ r.length := by
  intro n
  induction n with
  | zero => intro r p h; omega
  | succ n ih =>
    intro r p hl hb
    rw [passN]
    split
    · rename_i h; exact ⟨rfl, due_of h, hb, Nat.le_refl _⟩
    · rename_i h
      have hle := passL_le r
      have hd : (r.drop (passL r)).length = r.length - passL r := List.length_drop ..
      have ht : (r.take (passL r)).length = passL r := by rw [List.length_take]; omega
      obtain ⟨e1, e2, e3, e4⟩ := ih (r.drop (passL r)) ((r.take (passL r)).foldl skipP p) (by omega) (by rw [hd]; refine skip_bd _ _ _ ?_; rw [ht]; rw [show passL r + (r.length - passL r) = r.length by omega]; exact hb)
      exact ⟨by rw [pass_step r p]; exact e1, e2, e3, by omega⟩
theorem cut_nl : ∀ r : List UInt8, Lib.index r [10] = if 10 ∈ r then ((r.takeWhile notNl).length : Int) else -1
  | [] => rfl
  | a :: r => by
    rw [Lib.index, cut_nl r]
    by_cases h : a = 10
    · subst h
      rw [show ([10] : List UInt8).isPrefixOf (10 :: r) = true from rfl, if_pos rfl, if_pos (by simp)]
      rfl
    · have h' : ¬ (10 : UInt8) = a := fun e => h e.symm
      have hp : ([10] : List UInt8).isPrefixOf (a :: r) = false := by simp [List.isPrefixOf, h']
      have hn : notNl a = true := by simp [notNl, h]
      rw [hp, if_neg (by decide), List.takeWhile_cons, if_pos hn]
      by_cases h2 : 10 ∈ r
      · have h4 : ¬ (((r.takeWhile notNl).length : Int) == -1) = true := by simp <;> omega
        rw [if_pos h2, if_neg h4, if_pos (show (10 : UInt8) ∈ a :: r by simp [h2]), List.length_cons]; rfl
      · rw [if_neg h2, if_pos (show ((-1 : Int) == -1) = true from rfl), if_neg (show ¬ (10 : UInt8) ∈ a :: r by simp [h2, h'])]
theorem cut_fst (r : List UInt8) : (Lib.cut r [10]).1 = r.takeWhile notNl := by
  unfold Lib.cut
  rw [cut_nl]
  by_cases h : 10 ∈ r
  · rw [if_pos h, if_pos (by omega)]
    exact take_len notNl r
  · rw [if_neg h, if_neg (by omega)]
    show r = _
    have : (r.takeWhile notNl).length = r.length := (take_all notNl r).2 (by rw [List.all_eq_true]; intro c hc; simp [notNl]; intro e; exact h (e ▸ hc))
    conv => lhs; rw [← List.take_length (l := r), ← this]
    exact take_len notNl r
theorem pass_c (r : List UInt8) (p : Nat × Nat) (hb : Bd p r.length) :
    CallsM Tryz.prog ΓL 37 [(0, Sc r p)] 1 [.c (.ptr 0 0)] (.tup []) [(0, Sc (passF r p).1 (passF r p).2)] [] := by
  obtain ⟨R, hR⟩ : ∃ R, passF r p = R := ⟨_, rfl⟩
  rw [hR]
  refine fn_ruleM (C := ⟨Tryz.prog, layF, Tryz.f37.ntmps, ΓL, 1, [], []⟩) layF_ok mixed Tryz.func37 rfl (by kernel_rfl) rfl rfl rfl ?_
  refine ex_loop (X := Nat × List UInt8 × Nat × Nat) (fun ⟨m, x, u, v⟩ => ⟨[(0, .o (.c (.ptr 0 0)))], [(0, .obj [.d (ds (bs x)), .d (di (u : Nat)), .d (di (v : Nat))])], 1⟩) (fun x => x.1)
    (fun ⟨m, x, u, v⟩ => x.length < m ∧ Bd (u, v) x.length ∧ passN m x (u, v) = R) (r.length + 1, r, p) ⟨Nat.lt_succ_self _, hb, hR⟩ (SLe.of ⟨⟨rfl, trivial⟩, ⟨rfl, trivial⟩⟩) ?_
  rintro ⟨m, x, u, v⟩ ⟨hm, hbd, hs⟩
  obtain ⟨m, rfl⟩ : ∃ k, m = k + 1 := ⟨m - 1, by omega⟩
  obtain ⟨h1, h2, h3, h4⟩ := hbd
  dsimp only at h1 h2 h3 h4
  have hle := passL_le x
  have hsk := fun n hn => (skip_c x (u, v) n (by omega) hn (by show u ≤ _; omega) (by show v ≤ _; omega)).of0 (Γ := ΓL)
  rw [passN] at hs
  refine ex_call ((runB_c x (by omega)).gL) ?_
  refine ex_call (prefix_c ΓL x [47, 47]) ?_
  have fin : ∀ k : Nat, k = passL x → k ≠ 0 → (m, x.drop k, (x.take k).foldl skipP (u, v)).2.1.length < m ∧ Bd ((x.take k).foldl skipP (u, v)) (x.drop k).length ∧ passN m (x.drop k) ((x.take k).foldl skipP (u, v)) = R := by
    intro k hk h0
    subst hk
    rw [if_neg h0] at hs
    have hd : (x.drop (passL x)).length = x.length - passL x := List.length_drop ..
    have ht : (x.take (passL x)).length = passL x := by rw [List.length_take]; omega
    exact ⟨by show (x.drop (passL x)).length < m; omega, by rw [hd]; refine skip_bd _ _ _ ?_; rw [ht, show passL x + (x.length - passL x) = x.length by omega]; exact ⟨h1, h2, h3, h4⟩, hs⟩
  rcases hc : isCom x with _ | _
  · rw [show Lib.hasPrefix x [47, 47] = false from hc]
    have hp : passL x = (x.takeWhile blank).length := by unfold passL; rw [hc]; rfl
    rw [← hp]
    repeat' (first | refine tT ?_ | refine tF ?_ | refine ex_dec (fun _ => ?_) (fun _ => ?_) | refine t8 ?_ | refine tI ?_ | refine tU ?_ | refine tA ?_ | refine tB ?_ | refine tL ?_ | refine tN ?_ | fail "no step")
    · rename_i h0
      rw [if_pos (by omega)] at hs
      subst hs
      exact ⟨rfl, TLe.rfl, rfl, rfl⟩
    · refine ex_callM (hsk (passL x) hle) ?_
      exact ex_round (m, x.drop (passL x), (x.take (passL x)).foldl skipP (u, v)) (fin (passL x) rfl (by omega)) (Nat.lt_succ_self _) (SLe.of ⟨⟨rfl, trivial⟩, ⟨rfl, trivial⟩⟩)
  · rw [show Lib.hasPrefix x [47, 47] = true from hc]
    have hp : passL x = (x.takeWhile notNl).length := by unfold passL; rw [hc]; rfl
    have hp0 : passL x ≠ 0 := fun e => by
      have := (due_of e).1
      rw [hc] at this
      cases this
    have hcut := cut_c x [10] (by omega)
    rw [cut_fst] at hcut
    have hsz : (bs (x.takeWhile notNl)).size = passL x := by rw [bs_size, hp]
    generalize x.takeWhile notNl = y at *
    refine ex_call (hcut) ?_
    repeat' (first | refine tT ?_ | refine tF ?_ | refine ex_dec (fun _ => ?_) (fun _ => ?_) | refine t8 ?_ | refine tI ?_ | refine tU ?_ | refine tA ?_ | refine tB ?_ | refine tL ?_ | refine tN ?_ | fail "no step")
    rw [hsz]
    refine ex_callM (hsk (passL x) hle) ?_
    exact ex_round (m, x.drop (passL x), (x.take (passL x)).foldl skipP (u, v)) (fin (passL x) rfl hp0) (Nat.lt_succ_self _) (SLe.of ⟨⟨rfl, trivial⟩, ⟨rfl, trivial⟩⟩)
theorem lower_c (b : UInt8) : CallsA Tryz.prog Γ0 127 [c1 (.v (.int .u8 b.toNat))] (.o (c1 (.v (.int .u8 (bits .or .u8 b.toNat 32))))) :=
  ⟨⟨_, Tryz.func127, by kernel_rfl, rfl⟩, fun S w vs hS hG hvs => by
    obtain ⟨u, rfl, e1⟩ := one_arg hvs
    obtain rfl := open_v e1
    refine (Tryz.internal_strconv_lower b.toNat w).mono fun e w' ⟨he, hb⟩ => ?_
    subst he; subst hb
    exact flat_end hS (Below.refl _ _) (Imm.v rfl)⟩
theorem lower_hex (b : UInt8) : (!(isHex b && !isDig b) || decide (bits .or .u8 b.toNat 32 = (hexN b + 87 : Nat))) = true := u8_all (p := fun b => !(isHex b && !isDig b) || decide (bits .or .u8 b.toNat 32 = (hexN b + 87 : Nat))) (q := fun _ => true) (by decide +kernel) b
theorem hex_bound (b : UInt8) : (!isHex b || (decide (hexN b < 16) && (isDig b == decide (hexN b < 10)))) = true := u8_all (p := fun b => !isHex b || (decide (hexN b < 16) && (isDig b == decide (hexN b < 10)))) (q := fun _ => true) (by decide +kernel) b
abbrev rngE : Value := .iface 214 (.int .i64 1)
def tvP : Option Nat → TV
  | some n => .tup [c1 (du n), c1 (.v .nilIface)]
  | none => .tup [c1 (du 18446744073709551615), c1 (.v rngE)]
set_option maxHeartbeats 2000000 in
theorem ipu10_c (l : List UInt8) (h0 : l ≠ []) (hl : l.length ≤ 16384) (hh : ∀ b ∈ l, isHex b = true ∧ hexN b < 10) :
    CallsA Tryz.prog Γ0 105 [c1 (ds (bs l)), c1 (di 10), c1 (di 64)] (tvP (valF 10 0 l)) := by
  obtain ⟨R, hR⟩ : ∃ R, valF 10 0 l = R := ⟨_, rfl⟩
  rw [hR]
  have hsz := bs_size l
  have hne := size_pos h0
  have hpos := List.length_pos_iff.2 h0
  refine fn_rule (C := ⟨Tryz.prog, layF, Tryz.f105.ntmps, Γ0, 0, [], []⟩) layF_ok mixed Tryz.func105 rfl (by kernel_rfl) rfl rfl rfl ?_
  repeat' (first | refine tT ?_ | refine tF ?_ | refine ex_dec (fun _ => ?_) (fun _ => ?_) | refine t8 ?_ | refine tI ?_ | refine tU ?_ | refine tA ?_ | refine tB ?_ | refine tL ?_ | refine tN ?_ | fail "no step")
  refine ex_is 0 (by decide) ?_
  refine ex_is 18446744073709551615 (by decide) ?_
  refine ex_is l.length (by simp [byteRows]) ?_
  refine ex_loop (X := Nat × Nat) (fun ⟨q, n⟩ => ⟨[(1, Ti 10), (8, Tb false), (10, Tu 1844674407370955162), (11, Tu 18446744073709551615), (12, Tb false), (13, Tu n), (99, .o (c1 (.sl 1 (byteRows l)))), (100, Ti l.length), (101, Ti q)], [], 0⟩) (fun x => l.length - x.1) (fun ⟨q, n⟩ => q ≤ l.length ∧ n < 18446744073709551616 ∧ valF 10 n (l.drop q) = R) (0, 0) ⟨Nat.zero_le _, by decide, hR⟩ (SLe.of ⟨⟨rfl, rfl, rfl, rfl, rfl, rfl, rfl, rfl, rfl, trivial⟩, trivial⟩) ?_
  rintro ⟨q, n⟩ ⟨hq, hn, hv⟩
  refine ex_dec (fun h => ?_) (fun h => ?_)
  · have hql : q < l.length := by omega
    have hc : l[q]? = some l[q] := at_some hql
    have hm : l[q] ∈ l := List.getElem_mem hql
    rw [List.drop_eq_getElem_cons hql, valF] at hv
    generalize l[q] = c at *
    obtain ⟨h1, h2⟩ := hh c hm
    have h3 := lower_hex c
    have h4 := hex_bound c
    have hlow := lower_c c
    rw [h1] at h3 h4
    refine ex_byte q c rfl hc ?_
    have hcl := c.toNat_lt
    rcases hd : isDig c with _ | _ <;> rw [hd] at h3 h4
    · have h6 : 10 ≤ hexN c ∧ hexN c < 16 := by simp at h4; omega
      exfalso; omega
    · have h6 : hexN c < 10 := by simp at h4; omega
      have h7 : 48 ≤ c.toNat ∧ c.toNat ≤ 57 := by simp [isDig] at hd; omega
      have h8 : hexN c = c.toNat - 48 := by unfold hexN; rw [if_pos h7.2]
      rcases Nat.lt_or_ge (n * 10 + hexN c) 18446744073709551616 with h10 | h10
      · rw [if_pos h10] at hv
        repeat' (first | refine ex_i64 ((q + 1 : Nat) : Int) (by omega) (by omega) (by omega) ?_ | refine ex_u64 ((q + 1 : Nat) : Int) (by omega) (by omega) (by omega) ?_ | refine ex_u8 ((q + 1 : Nat) : Int) (by omega) (by omega) (by omega) ?_ | refine ex_i64 ((n * 10 + hexN c : Nat) : Int) (by omega) (by omega) (by omega) ?_ | refine ex_u64 ((n * 10 + hexN c : Nat) : Int) (by omega) (by omega) (by omega) ?_ | refine ex_u8 ((n * 10 + hexN c : Nat) : Int) (by omega) (by omega) (by omega) ?_ | refine ex_i64 ((n * 10 : Nat) : Int) (by omega) (by omega) (by omega) ?_ | refine ex_u64 ((n * 10 : Nat) : Int) (by omega) (by omega) (by omega) ?_ | refine ex_u8 ((n * 10 : Nat) : Int) (by omega) (by omega) (by omega) ?_ | refine ex_i64 ((hexN c : Nat) : Int) (by omega) (by omega) (by omega) ?_ | refine ex_u64 ((hexN c : Nat) : Int) (by omega) (by omega) (by omega) ?_ | refine ex_u8 ((hexN c : Nat) : Int) (by omega) (by omega) (by omega) ?_ | refine tT ?_ | refine tF ?_ | refine ex_dec (fun _ => ?_) (fun _ => ?_) | refine t8 ?_ | refine tI ?_ | refine tU ?_ | refine tA ?_ | refine tB ?_ | refine tL ?_ | refine tN ?_ | fail "no step")
        exact ex_round (q + 1, n * 10 + hexN c) ⟨by omega, by omega, hv⟩ (by show _ - _ < _ - _; omega) (SLe.of ⟨⟨rfl, rfl, rfl, rfl, rfl, rfl, rfl, rfl, rfl, trivial⟩, trivial⟩)
      · rw [if_neg (by omega)] at hv
        subst hv
        repeat' (first | refine ex_i64 ((q + 1 : Nat) : Int) (by omega) (by omega) (by omega) ?_ | refine ex_u64 ((q + 1 : Nat) : Int) (by omega) (by omega) (by omega) ?_ | refine ex_u8 ((q + 1 : Nat) : Int) (by omega) (by omega) (by omega) ?_ | refine ex_i64 ((n * 10 + hexN c : Nat) : Int) (by omega) (by omega) (by omega) ?_ | refine ex_u64 ((n * 10 + hexN c : Nat) : Int) (by omega) (by omega) (by omega) ?_ | refine ex_u8 ((n * 10 + hexN c : Nat) : Int) (by omega) (by omega) (by omega) ?_ | refine ex_i64 ((n * 10 : Nat) : Int) (by omega) (by omega) (by omega) ?_ | refine ex_u64 ((n * 10 : Nat) : Int) (by omega) (by omega) (by omega) ?_ | refine ex_u8 ((n * 10 : Nat) : Int) (by omega) (by omega) (by omega) ?_ | refine ex_i64 ((hexN c : Nat) : Int) (by omega) (by omega) (by omega) ?_ | refine ex_u64 ((hexN c : Nat) : Int) (by omega) (by omega) (by omega) ?_ | refine ex_u8 ((hexN c : Nat) : Int) (by omega) (by omega) (by omega) ?_ | refine tT ?_ | refine tF ?_ | refine ex_dec (fun _ => ?_) (fun _ => ?_) | refine t8 ?_ | refine tI ?_ | refine tU ?_ | refine tA ?_ | refine tB ?_ | refine tL ?_ | refine tN ?_ | fail "no step")
        · exact TLe.rfl
        · refine ex_is ((n * 10 + hexN c : Nat) - 18446744073709551616 : Int) (by rw [IntKind.wrap_u64]; omega) ?_
          repeat' (first | refine tT ?_ | refine tF ?_ | refine ex_dec (fun _ => ?_) (fun _ => ?_) | refine t8 ?_ | refine tI ?_ | refine tU ?_ | refine tA ?_ | refine tB ?_ | refine tL ?_ | refine tN ?_ | fail "no step")
          exact TLe.rfl
  · rw [List.drop_eq_nil_of_le (by omega), valF] at hv
    subst hv
    repeat' (first | refine tT ?_ | refine tF ?_ | refine ex_dec (fun _ => ?_) (fun _ => ?_) | refine t8 ?_ | refine tI ?_ | refine tU ?_ | refine tA ?_ | refine tB ?_ | refine tL ?_ | refine tN ?_ | fail "no step")
    exact TLe.rfl
set_option maxHeartbeats 2000000 in
theorem ipu16_c (l : List UInt8) (h0 : l ≠ []) (hl : l.length ≤ 16384) (hh : ∀ b ∈ l, isHex b = true ∧ hexN b < 16) :
    CallsA Tryz.prog Γ0 105 [c1 (ds (bs l)), c1 (di 16), c1 (di 64)] (tvP (valF 16 0 l)) := by
  obtain ⟨R, hR⟩ : ∃ R, valF 16 0 l = R := ⟨_, rfl⟩
  rw [hR]
  have hsz := bs_size l
  have hne := size_pos h0
  have hpos := List.length_pos_iff.2 h0
  refine fn_rule (C := ⟨Tryz.prog, layF, Tryz.f105.ntmps, Γ0, 0, [], []⟩) layF_ok mixed Tryz.func105 rfl (by kernel_rfl) rfl rfl rfl ?_
  repeat' (first | refine tT ?_ | refine tF ?_ | refine ex_dec (fun _ => ?_) (fun _ => ?_) | refine t8 ?_ | refine tI ?_ | refine tU ?_ | refine tA ?_ | refine tB ?_ | refine tL ?_ | refine tN ?_ | fail "no step")
  refine ex_is 0 (by decide) ?_
  refine ex_is 18446744073709551615 (by decide) ?_
  refine ex_is l.length (by simp [byteRows]) ?_
  refine ex_loop (X := Nat × Nat) (fun ⟨q, n⟩ => ⟨[(1, Ti 16), (8, Tb false), (10, Tu 1152921504606846976), (11, Tu 18446744073709551615), (12, Tb false), (13, Tu n), (99, .o (c1 (.sl 1 (byteRows l)))), (100, Ti l.length), (101, Ti q)], [], 0⟩) (fun x => l.length - x.1) (fun ⟨q, n⟩ => q ≤ l.length ∧ n < 18446744073709551616 ∧ valF 16 n (l.drop q) = R) (0, 0) ⟨Nat.zero_le _, by decide, hR⟩ (SLe.of ⟨⟨rfl, rfl, rfl, rfl, rfl, rfl, rfl, rfl, rfl, trivial⟩, trivial⟩) ?_
  rintro ⟨q, n⟩ ⟨hq, hn, hv⟩
  refine ex_dec (fun h => ?_) (fun h => ?_)
  · have hql : q < l.length := by omega
    have hc : l[q]? = some l[q] := at_some hql
    have hm : l[q] ∈ l := List.getElem_mem hql
    rw [List.drop_eq_getElem_cons hql, valF] at hv
    generalize l[q] = c at *
    obtain ⟨h1, h2⟩ := hh c hm
    have h3 := lower_hex c
    have h4 := hex_bound c
    have hlow := lower_c c
    rw [h1] at h3 h4
    refine ex_byte q c rfl hc ?_
    have hcl := c.toNat_lt
    rcases hd : isDig c with _ | _ <;> rw [hd] at h3 h4
    · have h6 : 10 ≤ hexN c ∧ hexN c < 16 := by simp at h4; omega
      have h5 : bits .or .u8 c.toNat 32 = (hexN c + 87 : Nat) := by simpa using h3
      rw [h5] at hlow
      have h7 : ¬ (48 ≤ c.toNat ∧ c.toNat ≤ 57) := by simp [isDig] at hd; omega
      have h9 : c.toNat ≠ 95 := by intro e; simp [isHex, isDig, e] at h1
      repeat' (first | refine ex_call hlow ?_ | refine ex_i64 ((q + 1 : Nat) : Int) (by omega) (by omega) (by omega) ?_ | refine ex_u64 ((q + 1 : Nat) : Int) (by omega) (by omega) (by omega) ?_ | refine ex_u8 ((q + 1 : Nat) : Int) (by omega) (by omega) (by omega) ?_ | refine ex_i64 ((n * 16 + hexN c : Nat) : Int) (by omega) (by omega) (by omega) ?_ | refine ex_u64 ((n * 16 + hexN c : Nat) : Int) (by omega) (by omega) (by omega) ?_ | refine ex_u8 ((n * 16 + hexN c : Nat) : Int) (by omega) (by omega) (by omega) ?_ | refine ex_i64 ((n * 16 : Nat) : Int) (by omega) (by omega) (by omega) ?_ | refine ex_u64 ((n * 16 : Nat) : Int) (by omega) (by omega) (by omega) ?_ | refine ex_u8 ((n * 16 : Nat) : Int) (by omega) (by omega) (by omega) ?_ | refine ex_i64 ((hexN c : Nat) : Int) (by omega) (by omega) (by omega) ?_ | refine ex_u64 ((hexN c : Nat) : Int) (by omega) (by omega) (by omega) ?_ | refine ex_u8 ((hexN c : Nat) : Int) (by omega) (by omega) (by omega) ?_ | refine tT ?_ | refine tF ?_ | refine ex_dec (fun _ => ?_) (fun _ => ?_) | refine t8 ?_ | refine tI ?_ | refine tU ?_ | refine tA ?_ | refine tB ?_ | refine tL ?_ | refine tN ?_ | fail "no step")
      all_goals first
        | (rw [if_neg (by omega)] at hv; subst hv; exact TLe.rfl)
        | (rw [if_pos (by omega)] at hv; exact ex_round (q + 1, n * 16 + hexN c) ⟨by omega, by omega, hv⟩ (by show _ - _ < _ - _; omega) (SLe.of ⟨⟨rfl, rfl, rfl, rfl, rfl, rfl, rfl, rfl, rfl, trivial⟩, trivial⟩))
    · have h6 : hexN c < 10 := by simp at h4; omega
      have h7 : 48 ≤ c.toNat ∧ c.toNat ≤ 57 := by simp [isDig] at hd; omega
      have h8 : hexN c = c.toNat - 48 := by unfold hexN; rw [if_pos h7.2]
      repeat' (first | refine ex_i64 ((q + 1 : Nat) : Int) (by omega) (by omega) (by omega) ?_ | refine ex_u64 ((q + 1 : Nat) : Int) (by omega) (by omega) (by omega) ?_ | refine ex_u8 ((q + 1 : Nat) : Int) (by omega) (by omega) (by omega) ?_ | refine ex_i64 ((n * 16 + hexN c : Nat) : Int) (by omega) (by omega) (by omega) ?_ | refine ex_u64 ((n * 16 + hexN c : Nat) : Int) (by omega) (by omega) (by omega) ?_ | refine ex_u8 ((n * 16 + hexN c : Nat) : Int) (by omega) (by omega) (by omega) ?_ | refine ex_i64 ((n * 16 : Nat) : Int) (by omega) (by omega) (by omega) ?_ | refine ex_u64 ((n * 16 : Nat) : Int) (by omega) (by omega) (by omega) ?_ | refine ex_u8 ((n * 16 : Nat) : Int) (by omega) (by omega) (by omega) ?_ | refine ex_i64 ((hexN c : Nat) : Int) (by omega) (by omega) (by omega) ?_ | refine ex_u64 ((hexN c : Nat) : Int) (by omega) (by omega) (by omega) ?_ | refine ex_u8 ((hexN c : Nat) : Int) (by omega) (by omega) (by omega) ?_ | refine tT ?_ | refine tF ?_ | refine ex_dec (fun _ => ?_) (fun _ => ?_) | refine t8 ?_ | refine tI ?_ | refine tU ?_ | refine tA ?_ | refine tB ?_ | refine tL ?_ | refine tN ?_ | fail "no step")
      · rw [if_neg (by omega)] at hv
        subst hv
        exact TLe.rfl
      · rw [if_pos (by omega)] at hv
        exact ex_round (q + 1, n * 16 + hexN c) ⟨by omega, by omega, hv⟩ (by show _ - _ < _ - _; omega) (SLe.of ⟨⟨rfl, rfl, rfl, rfl, rfl, rfl, rfl, rfl, rfl, trivial⟩, trivial⟩)
  · rw [List.drop_eq_nil_of_le (by omega), valF] at hv
    subst hv
    repeat' (first | refine tT ?_ | refine tF ?_ | refine ex_dec (fun _ => ?_) (fun _ => ?_) | refine t8 ?_ | refine tI ?_ | refine tU ?_ | refine tA ?_ | refine tB ?_ | refine tL ?_ | refine tN ?_ | fail "no step")
    exact TLe.rfl
end Go.Proofs.YtkbhmcdoedmffaaGreatDoor

namespace Go.Proofs.YtkbhmcdoedmffaaGreatDoor
open Go.RowKit

theorem five_args {S : Nat → Prop} {w : World} {a b c d e : T1} {vs : List Value} (h : All2 (V1 ι0 S w) [a, b, c, d, e] vs) : ∃ u v x y z, vs = [u, v, x, y, z] ∧ V1 ι0 S w a u ∧ V1 ι0 S w b v ∧ V1 ι0 S w c x ∧ V1 ι0 S w d y ∧ V1 ι0 S w e z := by
  obtain ⟨u, vs, rfl, e0, h⟩ := h.cons_left
  obtain ⟨v, vs, rfl, e1, h⟩ := h.cons_left
  obtain ⟨x, y, z, rfl, e2, e3, e4⟩ := three_args h
  exact ⟨u, v, x, y, z, rfl, e0, e1, e2, e3, e4⟩
theorem toerr_c (fn s : ByteArray) (base bits : Int) (hs : s.size ≤ 281474976710656) : CallsA Tryz.prog ΓL 106 [c1 (ds fn), c1 (ds s), c1 (di base), c1 (di bits), c1 (.v rngE)] (.o (c1 .err)) :=
  ⟨⟨_, Tryz.func106, by kernel_rfl, rfl⟩, fun S w vs hS hG hvs => by
    obtain ⟨u, v, x, y, z, rfl, e0, e1, e2, e3, e4⟩ := five_args hvs
    obtain rfl := open_v e0
    obtain rfl := open_v e1
    obtain rfl := open_v e2
    obtain rfl := open_v e3
    obtain rfl := open_v e4
    obtain ⟨-, ⟨⟨ev, h1, h2⟩, -⟩, -⟩ := hG
    refine (Tryz.strconv_toError_range fn s base bits ev w hs h1 h2).mono fun e w' ⟨N, he, _, _, hb⟩ => ?_
    subst he
    exact flat_end hS hb Imm.err⟩
def tvPu : Option Nat → TV
  | some n => .tup [c1 (du n), c1 (.v .nilIface)]
  | none => .tup [c1 (du 18446744073709551615), c1 .err]
theorem pu_c (base : Nat) (hb : base = 10 ∨ base = 16) (l : List UInt8) (h0 : l ≠ []) (hl : l.length ≤ 16384) (hh : ∀ b ∈ l, isHex b = true ∧ hexN b < base) :
    CallsA Tryz.prog ΓL 82 [c1 (ds (bs l)), c1 (di base), c1 (di 64)] (tvPu (valF base 0 l)) := by
  have hi : CallsA Tryz.prog ΓL 105 [c1 (ds (bs l)), c1 (di base), c1 (di 64)] (tvP (valF base 0 l)) := by
    rcases hb with rfl | rfl
    · exact (ipu10_c l h0 hl hh).gL
    · exact (ipu16_c l h0 hl hh).gL
  have hsz := bs_size l
  have he := toerr_c ⟨#[80, 97, 114, 115, 101, 85, 105, 110, 116]⟩ (bs l) base 64 (by omega)
  cases hv : valF base 0 l with
  | none =>
    rw [hv] at hi
    refine fn_rule (C := ⟨Tryz.prog, layF, Tryz.f82.ntmps, ΓL, 0, [], []⟩) layF_ok mixed Tryz.func82 rfl (by kernel_rfl) rfl rfl rfl ?_
    repeat' (first | refine ex_call he ?_ | refine ex_call hi ?_ | refine tT ?_ | refine tF ?_ | refine ex_dec (fun _ => ?_) (fun _ => ?_) | refine t8 ?_ | refine tI ?_ | refine tU ?_ | refine tA ?_ | refine tB ?_ | refine tL ?_ | refine tN ?_ | fail "no step")
    exact TLe.rfl
  | some n =>
    rw [hv] at hi
    refine fn_rule (C := ⟨Tryz.prog, layF, Tryz.f82.ntmps, ΓL, 0, [], []⟩) layF_ok mixed Tryz.func82 rfl (by kernel_rfl) rfl rfl rfl ?_
    repeat' (first | refine ex_call he ?_ | refine ex_call hi ?_ | refine tT ?_ | refine tF ?_ | refine ex_dec (fun _ => ?_) (fun _ => ?_) | refine t8 ?_ | refine tI ?_ | refine tU ?_ | refine tA ?_ | refine tB ?_ | refine tL ?_ | refine tN ?_ | fail "no step")
    exact TLe.rfl
def gT (k : Nat) (t : List UInt8) (n l c : Nat) : T1 := gD [di k, ds (bs t), du n, di l, di c]
def tvT : TR → TV
  | .ok k t n => .tup [gT k t n 0 0, c1 (di 0)]
  | .err e => .tup [gT 0 [] 0 0 0, c1 (di e)]
theorem number_c (s : List UInt8) (h0 : s ≠ []) (hs : s.length ≤ 16384) : CallsA Tryz.prog ΓL 59 [c1 (ds (bs s))] (tvT (numF s)) := by
  have hd := (digits_c s hs).gL
  unfold digF at hd
  unfold numF
  have fin : ∀ (l : List UInt8) (base : Nat), base ≠ 0 → CallsA Tryz.prog ΓL 81 [c1 (ds (bs s))] (.tup [c1 (ds (bs l)), c1 (di base)]) →
      CallsA Tryz.prog ΓL 82 [c1 (ds (bs l)), c1 (di base), c1 (di 64)] (tvPu (valF base 0 l)) →
      CallsA Tryz.prog ΓL 59 [c1 (ds (bs s))] (tvT (numR s (valF base 0 l))) := by
    intro l base hb hd hp
    cases hv : valF base 0 l with
    | none =>
      rw [hv] at hp
      refine fn_rule (C := ⟨Tryz.prog, layF, Tryz.f59.ntmps, ΓL, 0, [], []⟩) layF_ok mixed Tryz.func59 rfl (by kernel_rfl) rfl rfl rfl ?_
      repeat' (first | refine ex_call hp ?_ | refine ex_call hd ?_ | refine tT ?_ | refine tF ?_ | refine ex_dec (fun _ => ?_) (fun _ => ?_) | refine t8 ?_ | refine tI ?_ | refine tU ?_ | refine tA ?_ | refine tB ?_ | refine tL ?_ | refine tN ?_ | fail "no step")
      exact TLe.rfl
    | some n =>
      rw [hv] at hp
      refine fn_rule (C := ⟨Tryz.prog, layF, Tryz.f59.ntmps, ΓL, 0, [], []⟩) layF_ok mixed Tryz.func59 rfl (by kernel_rfl) rfl rfl rfl ?_
      repeat' (first | refine ex_call hp ?_ | refine ex_call hd ?_ | refine tT ?_ | refine tF ?_ | refine ex_dec (fun _ => ?_) (fun _ => ?_) | refine t8 ?_ | refine tI ?_ | refine tU ?_ | refine tA ?_ | refine tB ?_ | refine tL ?_ | refine tN ?_ | fail "no step")
      exact TLe.rfl
  rcases h6 : sixteen s with _ | _ <;> rw [h6] at hd
  · rcases hA : s.all isDig with _ | _ <;> rw [hA] at hd
    · have hd : CallsA Tryz.prog ΓL 81 [c1 (ds (bs s))] (.tup [c1 (ds (bs [])), c1 (di 0)]) := hd
      refine fn_rule (C := ⟨Tryz.prog, layF, Tryz.f59.ntmps, ΓL, 0, [], []⟩) layF_ok mixed Tryz.func59 rfl (by kernel_rfl) rfl rfl rfl ?_
      repeat' (first | refine ex_call hd ?_ | refine tT ?_ | refine tF ?_ | refine ex_dec (fun _ => ?_) (fun _ => ?_) | refine t8 ?_ | refine tI ?_ | refine tU ?_ | refine tA ?_ | refine tB ?_ | refine tL ?_ | refine tN ?_ | fail "no step")
      exact TLe.rfl
    · refine fin s 10 (by decide) hd (pu_c 10 (.inl rfl) s h0 hs (fun b hb => ?_))
      have h1 := List.all_eq_true.1 hA b hb
      have h2 := hex_bound b
      have h3 : isHex b = true := by unfold isHex; rw [h1]; rfl
      rw [h3, h1] at h2
      simp at h2
      exact ⟨h3, by omega⟩
  · have h7 := h6
    unfold sixteen at h7
    simp only [Bool.and_eq_true, decide_eq_true_eq] at h7
    refine fin (s.drop 2) 16 (by decide) hd (pu_c 16 (.inr rfl) (s.drop 2) (fun e => ?_) (by rw [List.length_drop]; omega) (fun b hb => ?_))
    · have := congrArg List.length e
      rw [List.length_drop] at this
      simp at this
      omega
    · have h1 := List.all_eq_true.1 h7.2.2 b hb
      have h2 := hex_bound b
      rw [h1] at h2
      simp at h2
      exact ⟨h1, h2.1⟩
theorem token_c (r : List UInt8) (p : Nat × Nat) (hr : r.length ≤ 16384) :
    CallsM Tryz.prog ΓL 38 [(0, Sc r p)] 1 [.c (.ptr 0 0)] (tvT (tokF r)) [(0, Sc r p)] [] := by
  have hR := (runR_c r hr).gL
  have hsz := bs_size r
  have hdl := drop_len alnum r
  have htl := take_len alnum r
  unfold tokF
  rcases hw : r.takeWhile alnum with _ | ⟨b, w⟩ <;> rw [hw] at hR hdl htl
  · dsimp only
    obtain ⟨R, hR2⟩ : ∃ R, signF r = R := ⟨_, rfl⟩
    rw [hR2]
    refine fn_ruleM (C := ⟨Tryz.prog, layF, Tryz.f38.ntmps, ΓL, 1, [], []⟩) layF_ok mixed Tryz.func38 rfl (by kernel_rfl) rfl rfl rfl ?_
    repeat' (first | refine ex_call hR ?_ | refine tT ?_ | refine tF ?_ | refine ex_dec (fun _ => ?_) (fun _ => ?_) | refine t8 ?_ | refine tI ?_ | refine tU ?_ | refine tA ?_ | refine tB ?_ | refine tL ?_ | refine tN ?_ | fail "no step")
    refine ex_loop (X := Nat) (fun q => ⟨[(0, .o (.c (.ptr 0 0))), (2, .o (.c (.ptr 1 0))), (35, .o (.g (signsL.map fun l => .d (ds (bs l))))), (36, Ti q)], [(0, Sc r p), (1, .obj [.d (di 0), .d (ds (bs [])), .d (du 0), .d (di 0), .d (di 0)])], 2⟩) (fun q => 29 - q) (fun q => q ≤ 29 ∧ (signsL.drop q).find? (·.isPrefixOf r) = R) 0 ⟨by decide, hR2⟩ (SLe.of ⟨⟨rfl, rfl, rfl, rfl, trivial⟩, ⟨rfl, rfl, trivial⟩⟩) ?_
    rintro q ⟨hq, hs⟩
    refine ex_dec (fun h => ?_) (fun h => ?_)
    · have hql : q < signsL.length := by rw [show signsL.length = 29 from rfl]; omega
      have hc : signsL[q]? = some signsL[q] := at_some hql
      have hix : List.take 1 (List.drop (((q : Nat) : Int).toNat * 1) (signsL.map fun l => CV.d (ds (bs l)))) = [CV.d (ds (bs signsL[q]))] := by
        rw [Int.toNat_natCast, Nat.mul_one, ← List.map_drop, List.drop_eq_getElem_cons hql, List.map_cons, List.take_succ_cons, List.take_zero]
      rw [List.drop_eq_getElem_cons hql, List.find?_cons] at hs
      generalize signsL[q] = c at *
      refine ⟨by omega, by omega, ex_is _ hix ?_⟩
      have hp := prefix_c ΓL r c
      rcases hpr : c.isPrefixOf r with _ | _
      · rw [hpr] at hs
        rw [show Lib.hasPrefix r c = false from hpr] at hp
        refine ex_call (hp) ?_
        repeat' (first | refine ex_i64 ((q + 1 : Nat) : Int) (by omega) (by omega) (by omega) ?_ | refine ex_u64 ((q + 1 : Nat) : Int) (by omega) (by omega) (by omega) ?_ | refine ex_u8 ((q + 1 : Nat) : Int) (by omega) (by omega) (by omega) ?_ | refine tT ?_ | refine tF ?_ | refine ex_dec (fun _ => ?_) (fun _ => ?_) | refine t8 ?_ | refine tI ?_ | refine tU ?_ | refine tA ?_ | refine tB ?_ | refine tL ?_ | refine tN ?_ | fail "no step")
        exact ex_round (q + 1) ⟨by omega, hs⟩ (by show _ - _ < _ - _; omega) (SLe.of ⟨⟨rfl, rfl, rfl, rfl, trivial⟩, ⟨rfl, rfl, trivial⟩⟩)
      · rw [hpr] at hs
        subst hs
        rw [show Lib.hasPrefix r c = true from hpr] at hp
        refine ex_call (hp) ?_
        repeat' (first | refine tT ?_ | refine tF ?_ | refine ex_dec (fun _ => ?_) (fun _ => ?_) | refine t8 ?_ | refine tI ?_ | refine tU ?_ | refine tA ?_ | refine tB ?_ | refine tL ?_ | refine tN ?_ | fail "no step")
        exact ⟨rfl, TLe.rfl, rfl, rfl⟩
    · have : q = 29 := by omega
      subst this
      subst hs
      exact ⟨rfl, TLe.rfl, rfl, rfl⟩
  · have hwl : (b :: w).length ≤ r.length := by omega
    have hD := (runD_c (b :: w) (by omega)).gL
    have hN := number_c (b :: w) (by simp) (by omega)
    have hE := ext_take r (b :: w).length
    rw [htl] at hE
    have hbd : 0 < (b :: w).length := by simp
    dsimp only
    rcases hb : isDig b with _ | _
    · have hD0 : ((b :: w).takeWhile isDig).length = 0 := by rw [List.takeWhile_cons, hb]; rfl
      rw [hD0] at hD
      generalize b :: w = y at *
      by_cases h32 : y.length ≤ 32
      · rw [if_neg (by decide), if_pos h32]
        refine fn_ruleM (C := ⟨Tryz.prog, layF, Tryz.f38.ntmps, ΓL, 1, [], []⟩) layF_ok mixed Tryz.func38 rfl (by kernel_rfl) rfl rfl rfl ?_
        repeat' (first | refine ex_call hR ?_ | refine tT ?_ | refine tF ?_ | refine ex_dec (fun _ => ?_) (fun _ => ?_) | refine t8 ?_ | refine tI ?_ | refine tU ?_ | refine tA ?_ | refine tB ?_ | refine tL ?_ | refine tN ?_ | fail "no step")
        rw [hE]
        repeat' (first | refine ex_call hD ?_ | refine tT ?_ | refine tF ?_ | refine ex_dec (fun _ => ?_) (fun _ => ?_) | refine t8 ?_ | refine tI ?_ | refine tU ?_ | refine tA ?_ | refine tB ?_ | refine tL ?_ | refine tN ?_ | fail "no step")
        exact ⟨rfl, TLe.rfl, rfl, rfl⟩
      · rw [if_neg (by decide), if_neg h32]
        refine fn_ruleM (C := ⟨Tryz.prog, layF, Tryz.f38.ntmps, ΓL, 1, [], []⟩) layF_ok mixed Tryz.func38 rfl (by kernel_rfl) rfl rfl rfl ?_
        repeat' (first | refine ex_call hR ?_ | refine tT ?_ | refine tF ?_ | refine ex_dec (fun _ => ?_) (fun _ => ?_) | refine t8 ?_ | refine tI ?_ | refine tU ?_ | refine tA ?_ | refine tB ?_ | refine tL ?_ | refine tN ?_ | fail "no step")
        rw [hE]
        repeat' (first | refine ex_call hD ?_ | refine tT ?_ | refine tF ?_ | refine ex_dec (fun _ => ?_) (fun _ => ?_) | refine t8 ?_ | refine tI ?_ | refine tU ?_ | refine tA ?_ | refine tB ?_ | refine tL ?_ | refine tN ?_ | fail "no step")
        exact ⟨rfl, TLe.rfl, rfl, rfl⟩
    · have hD0 : 0 < ((b :: w).takeWhile isDig).length := by rw [List.takeWhile_cons, hb]; simp
      rw [if_pos rfl]
      generalize b :: w = y at *
      generalize (y.takeWhile isDig).length = d at *
      rcases hn : numF y with ⟨k, t, n⟩ | e <;> rw [hn] at hN
      ·
        refine fn_ruleM (C := ⟨Tryz.prog, layF, Tryz.f38.ntmps, ΓL, 1, [], []⟩) layF_ok mixed Tryz.func38 rfl (by kernel_rfl) rfl rfl rfl ?_
        repeat' (first | refine ex_call hR ?_ | refine tT ?_ | refine tF ?_ | refine ex_dec (fun _ => ?_) (fun _ => ?_) | refine t8 ?_ | refine tI ?_ | refine tU ?_ | refine tA ?_ | refine tB ?_ | refine tL ?_ | refine tN ?_ | fail "no step")
        rw [hE]
        repeat' (first | refine ex_call hN ?_ | refine ex_call hD ?_ | refine tT ?_ | refine tF ?_ | refine ex_dec (fun _ => ?_) (fun _ => ?_) | refine t8 ?_ | refine tI ?_ | refine tU ?_ | refine tA ?_ | refine tB ?_ | refine tL ?_ | refine tN ?_ | fail "no step")
        exact ⟨rfl, TLe.rfl, rfl, rfl⟩
      ·
        refine fn_ruleM (C := ⟨Tryz.prog, layF, Tryz.f38.ntmps, ΓL, 1, [], []⟩) layF_ok mixed Tryz.func38 rfl (by kernel_rfl) rfl rfl rfl ?_
        repeat' (first | refine ex_call hR ?_ | refine tT ?_ | refine tF ?_ | refine ex_dec (fun _ => ?_) (fun _ => ?_) | refine t8 ?_ | refine tI ?_ | refine tU ?_ | refine tA ?_ | refine tB ?_ | refine tL ?_ | refine tN ?_ | fail "no step")
        rw [hE]
        repeat' (first | refine ex_call hN ?_ | refine ex_call hD ?_ | refine tT ?_ | refine tF ?_ | refine ex_dec (fun _ => ?_) (fun _ => ?_) | refine t8 ?_ | refine tI ?_ | refine tU ?_ | refine tA ?_ | refine tB ?_ | refine tL ?_ | refine tN ?_ | fail "no step")
        exact ⟨rfl, TLe.rfl, rfl, rfl⟩
end Go.Proofs.YtkbhmcdoedmffaaGreatDoor

namespace Go.Proofs.YtkbhmcdoedmffaaGreatDoor
open Go.RowKit

def tokD (t : TokP) : List D := [di t.k, ds (bs t.t), du t.n, di t.l, di t.c]
def lexT : LR → TV
  | .ok ts => .tup [c1 (.sl 5 (ts.map tokD)), gD [di 0, di 0], c1 (di 0)]
  | .err l c e => .tup [c1 (.sl 5 []), gD [di l, di c], c1 (di e)]
def lexV (s : List UInt8) : LR := if s.length ≤ 16384 then lexF s 1 1 else .err 1 1 7
theorem passF_facts (r : List UInt8) (p : Nat × Nat) (h : Bd p r.length) : lexF r p.1 p.2 = lexF (passF r p).1 (passF r p).2.1 (passF r p).2.2 ∧ Due (passF r p).1 ∧ Bd (passF r p).2 (passF r p).1.length ∧ (passF r p).1.length ≤ r.length := passN_facts _ r p (Nat.lt_succ_self _) h
theorem TLe.nilc {s : Nat} {l : List T1} : TLe (.tup (c1 (.v (.slice none 0 0)) :: l)) (.tup (c1 (.sl s []) :: l)) := fun ι S w v ⟨us, hu, h⟩ => by
  have h : All2 (V1 ι S w) (c1 (.v (.slice none 0 0)) :: l) us := h
  obtain ⟨u, us, rfl, e, h⟩ := h.cons_left
  exact ⟨u :: us, hu, .cons (TLe.nil ι S w u e) h⟩
theorem numF_err {s : List UInt8} {e : Nat} (h : numF s = .err e) : 4 ≤ e ∧ e ≤ 7 := by
  unfold numF at h
  split at h
  · revert h; cases valF 16 0 (s.drop 2) <;> intro h <;> cases h; decide
  · split at h
    · revert h; cases valF 10 0 s <;> intro h <;> cases h; decide
    · cases h; decide
theorem tokF_err {r : List UInt8} {e : Nat} (h : tokF r = .err e) : 4 ≤ e ∧ e ≤ 7 := by
  unfold tokF at h
  split at h
  · split at h
    · cases h; decide
    · cases h
  · split at h
    · exact numF_err h
    · split at h
      · cases h
      · cases h; decide
abbrev Pz : Blk := .obj [.d (di 0), .d (di 0)]
theorem lex_c (s : List UInt8) : CallsA Tryz.prog ΓL 20 [c1 (ds (bs s))] (lexT (lexV s)) := by
  have hsz := bs_size s
  unfold lexV
  by_cases hs : s.length ≤ 16384
  · rw [if_pos hs]
    obtain ⟨R, hR⟩ : ∃ R, lexF s 1 1 = R := ⟨_, rfl⟩
    rw [hR]
    refine fn_rule (C := ⟨Tryz.prog, layF, Tryz.f20.ntmps, ΓL, 0, [], []⟩) layF_ok mixed Tryz.func20 rfl (by kernel_rfl) rfl rfl rfl ?_
    repeat' (first | refine tT ?_ | refine tF ?_ | refine ex_dec (fun _ => ?_) (fun _ => ?_) | refine t8 ?_ | refine tI ?_ | refine tU ?_ | refine tA ?_ | refine tB ?_ | refine tL ?_ | refine tN ?_ | fail "no step")
    refine ex_loop (X := List UInt8 × Nat × Nat × List TokP) (fun ⟨r, u, v, o⟩ => ⟨[(3, .o (.c (.ptr 0 0))), (5, .o (.c (.ptr 1 0))), (6, .o (.c (.row 2)))], [(0, Pz), (1, Sc r (u, v)), (2, .row 5 128 (o.map tokD))], 3⟩) (fun x => x.1.length)
      (fun ⟨r, u, v, o⟩ => Bd (u, v) r.length ∧ o.length + r.length ≤ s.length ∧ (lexF r u v).pre o = R) (s, 1, 1, []) ⟨⟨by decide, by decide, by show 1 + _ ≤ _; omega, by show 1 + _ ≤ _; omega⟩, by simp, by rw [hR]; cases R <;> rfl⟩ (SLe.trans (SLe.of ⟨⟨rfl, rfl, rfl, trivial⟩, ⟨rfl, rfl, rfl, trivial⟩⟩) (SLe.own 6 2 5 128 rfl rfl rfl rfl rfl)) ?_
    rintro ⟨r, u, v, o⟩ ⟨hb, hol, hs2⟩
    obtain ⟨e1, e2, e3, e4⟩ := passF_facts r (u, v) hb
    have hp := pass_c r (u, v) hb
    rw [e1] at hs2
    generalize passF r (u, v) = Q at *
    obtain ⟨x, u, v⟩ := Q
    dsimp only at e1 e2 e3 e4 hs2 hp
    refine ex_callM (CallsM.ren (hp) [1] 3 rfl rfl rfl rfl) ?_
    have hxs := bs_size x
    rcases x with _ | ⟨b, y⟩
    · rw [lexF_nil] at hs2
      subst hs2
      repeat' (first | refine tT ?_ | refine tF ?_ | refine ex_dec (fun _ => ?_) (fun _ => ?_) | refine t8 ?_ | refine tI ?_ | refine tU ?_ | refine tA ?_ | refine tB ?_ | refine tL ?_ | refine tN ?_ | fail "no step")
      refine ex_app (o.length) (1) 1000 (by first | rfl | (simp; done) | (simp; omega)) (by first | rfl | (simp; done) | (simp; omega)) rfl (by omega) ?_
      refine ex_is (List.map tokD (o ++ [(⟨3, [], 0, u, v⟩ : TokP)])) (by rw [List.map_append]; rfl) ?_
      repeat' (first | refine tT ?_ | refine tF ?_ | refine ex_dec (fun _ => ?_) (fun _ => ?_) | refine t8 ?_ | refine tI ?_ | refine tU ?_ | refine tA ?_ | refine tB ?_ | refine tL ?_ | refine tN ?_ | fail "no step")
      exact TLe.rfl
    · have hne := size_pos (l := b :: y) (by simp)
      have hx0 : b :: y ≠ [] := by simp
      have hxl : 1 ≤ (b :: y).length := by simp
      generalize b :: y = x at *
      refine ex_false hne ?_
      have ht := token_c x (u, v) (by omega)
      rw [lexF_tok u v hx0 e2.2 e2.1] at hs2
      rcases hk : tokF x with ⟨k, t, n⟩ | e <;> rw [hk] at ht hs2
      · dsimp only at hs2
        obtain ⟨⟨X, hX⟩, ht0, hk3, ht10⟩ := tokF_ok hk
        refine ex_callM (CallsM.ren (ht) [1] 3 rfl rfl rfl rfl) ?_
        repeat' (first | refine tT ?_ | refine tF ?_ | refine ex_dec (fun _ => ?_) (fun _ => ?_) | refine t8 ?_ | refine tI ?_ | refine tU ?_ | refine tA ?_ | refine tB ?_ | refine tL ?_ | refine tN ?_ | fail "no step")
        refine ex_app (o.length) (1) 1000 (by first | rfl | (simp; done) | (simp; omega)) (by first | rfl | (simp; done) | (simp; omega)) rfl (by omega) ?_
        refine ex_is (List.map tokD (o ++ [(⟨k, t, n, u, v⟩ : TokP)])) (by rw [List.map_append]; rfl) ?_
        repeat' (first | refine tT ?_ | refine tF ?_ | refine ex_dec (fun _ => ?_) (fun _ => ?_) | refine t8 ?_ | refine tI ?_ | refine tU ?_ | refine tA ?_ | refine tB ?_ | refine tL ?_ | refine tN ?_ | fail "no step")
        have hbt := bs_size t
        have hxt : x.length = t.length + X.length := by rw [hX, List.length_append]
        have hsk := skip_c x (u, v) (bs t).size (by omega) (by omega) (by have := e3.2.2.1; show u ≤ _; omega) (by have := e3.2.2.2; show v ≤ _; omega)
        have hq : (x.take (bs t).size).foldl skipP (u, v) = (u, v + t.length) := by rw [hbt, hX, List.take_left, skip_line t u v ht10]
        have hdr : x.drop (bs t).size = X := by rw [hbt, hX, List.drop_left]
        rw [hq, hdr] at hsk
        rw [← hbt, hdr, hbt, LR.pre_pre] at hs2
        refine ex_callM (CallsM.ren (hsk.of0) [1] 6 rfl rfl rfl rfl) ?_
        have hpos : 0 < t.length := List.length_pos_iff.2 ht0
        exact ex_round (X, u, v + t.length, o ++ [⟨k, t, n, u, v⟩]) ⟨⟨e3.1, by have := e3.2.1; show 1 ≤ v + _; omega, by have := e3.2.2.1; show u + _ ≤ _; omega, by have := e3.2.2.2; show v + _ + _ ≤ _; omega⟩, by show (o ++ [_]).length + X.length ≤ _; rw [List.length_append, List.length_cons, List.length_nil]; omega, hs2⟩ (by show X.length < r.length; omega) (SLe.ren [(0, 0), (1, 1), (5, 2)] ⟨⟨rfl, rfl⟩, ⟨rfl, rfl⟩, ⟨rfl, rfl⟩, trivial⟩ ⟨⟨rfl, rfl⟩, ⟨rfl, rfl⟩, ⟨rfl, rfl⟩, trivial⟩ rfl)
      · have he := tokF_err hk
        subst hs2
        refine ex_callM (CallsM.ren (ht) [1] 3 rfl rfl rfl rfl) ?_
        repeat' (first | refine tT ?_ | refine tF ?_ | refine ex_dec (fun _ => ?_) (fun _ => ?_) | refine t8 ?_ | refine tI ?_ | refine tU ?_ | refine tA ?_ | refine tB ?_ | refine tL ?_ | refine tN ?_ | fail "no step")
        exact TLe.nilc
  · rw [if_neg hs]
    refine fn_rule (C := ⟨Tryz.prog, layF, Tryz.f20.ntmps, ΓL, 0, [], []⟩) layF_ok mixed Tryz.func20 rfl (by kernel_rfl) rfl rfl rfl ?_
    repeat' (first | refine tT ?_ | refine tF ?_ | refine ex_dec (fun _ => ?_) (fun _ => ?_) | refine t8 ?_ | refine tI ?_ | refine tU ?_ | refine tA ?_ | refine tB ?_ | refine tL ?_ | refine tN ?_ | fail "no step")
    exact TLe.nilc
end Go.Proofs.YtkbhmcdoedmffaaGreatDoor

namespace Go.Proofs.YtkbhmcdoedmffaaGreatDoor
open Go.RowKit

def intsD (l : List Int) : D := .sl 1 (l.map fun k => [di k])
def exD (x : EX) : List D := [di x.k, ds (bs x.op), du x.n, ds (bs x.nm), intsD x.kids]
def caD (c : CA) : List D := [du c.n, di c.t]
def tyD (t : TY) : List D := [di t.k, di t.size, db t.little, ds (bs t.nm), intsD t.args, di t.ex, di t.inn, .sl 2 (t.cases.map caD)]
def sbD (s : SB) : List D := [ds (bs s.nm), di s.bits]
def itD (x : IT) : List D := [ds (bs x.nm), di x.ty, di x.der, ds (bs x.a), ds (bs x.b), di x.wh, di x.size, db x.little, .sl 2 (x.subs.map sbD)]
def rcD (r : RC) : List D := [ds (bs r.nm), .sl 1 (r.ps.map fun p => [ds (bs p)]), .sl 9 (r.its.map itD)]
def coD (c : CO) : List D := [ds (bs c.nm), du c.n]
abbrev Qz (L : List TokP) (m i : Nat) : Blk := .obj [.d (.sl 5 (L.map tokD)), .d (di i), .d (di (32 - (m : Int))), .ptr 1 0]
abbrev Fz (a b c d : Nat) : Blk := .obj [.row a, .row b, .row c, .row d]
abbrev Xz (l : List EX) : Blk := .row 5 59 (l.map exD)
abbrev Tz (l : List TY) : Blk := .row 8 63 (l.map tyD)
abbrev fltV (l c e : Nat) : Value := .iface 83 (.agg #[.int .i64 l, .int .i64 c, .int .i64 e])
abbrev flt (L : List TokP) (i e : Nat) : Value := fltV (tk L i).l (tk L i).c e
def PR.tv {α : Type} (L : List TokP) (g : α → TV) : PR α → TV
  | .ok v _ => g v
  | .err i e => .pan (flt L i e)
def PR.u0 {α : Type} (L : List TokP) (m : Nat) : PR α → List (Nat × Blk)
  | .ok _ s => [(0, Qz L m s.i)]
  | .err _ _ => [(0, .dead)]
def PR.u1 {α : Type} (L : List TokP) (m : Nat) : PR α → List (Nat × Blk)
  | .ok _ s => [(0, Qz L m s.i), (1, Fz 2 3 6 5), (4, .dead)]
  | .err _ _ => [(0, .dead), (1, .dead), (4, .dead)]
def PR.n1 {α : Type} : PR α → List Blk
  | .ok _ s => [Xz s.xs]
  | .err _ _ => []
def PR.u2 {α : Type} (L : List TokP) (m : Nat) : PR α → List (Nat × Blk)
  | .ok _ s => [(0, Qz L m s.i), (1, Fz 2 3 6 7), (4, .dead), (5, .dead)]
  | .err _ _ => [(0, .dead), (1, .dead), (4, .dead), (5, .dead)]
def PR.n2 {α : Type} : PR α → List Blk
  | .ok _ s => [Xz s.xs, Tz s.ts]
  | .err _ _ => []
abbrev P0 : T1 := .c (.ptr 0 0)
def C0 (L : List TokP) (m : Nat) (f : FuncId) (xs : List T1) {α : Type} (x : PM α) (g : α → TV) (s : PS) : Prop := CallsM Tryz.prog ΓL f [(0, Qz L m s.i)] 2 (P0 :: xs) ((x s).tv L g) ((x s).u0 L m) []
def C1 (L : List TokP) (m : Nat) (f : FuncId) (xs : List T1) {α : Type} (x : PM α) (g : α → TV) (s : PS) : Prop := CallsM Tryz.prog ΓL f [(0, Qz L m s.i), (1, Fz 2 3 4 5), (4, Xz s.xs)] 6 (P0 :: xs) ((x s).tv L g) ((x s).u1 L m) (x s).n1
def C2 (L : List TokP) (m : Nat) (f : FuncId) (xs : List T1) {α : Type} (x : PM α) (g : α → TV) (s : PS) : Prop := CallsM Tryz.prog ΓL f [(0, Qz L m s.i), (1, Fz 2 3 4 5), (4, Xz s.xs), (5, Tz s.ts)] 6 (P0 :: xs) ((x s).tv L g) ((x s).u2 L m) (x s).n2
section
variable {L : List TokP} {m : Nat} {f : FuncId} {xs : List T1} {α : Type} {x : PM α} {g : α → TV} {s s' : PS} {v : α} {i e : Nat}
theorem C0.ok (h : C0 L m f xs x g s) (hx : x s = .ok v s') : CallsM Tryz.prog ΓL f [(0, Qz L m s.i)] 2 (P0 :: xs) (g v) [(0, Qz L m s'.i)] [] := by unfold C0 at h; rw [hx] at h; exact h
theorem C0.err (h : C0 L m f xs x g s) (hx : x s = .err i e) : CallsM Tryz.prog ΓL f [(0, Qz L m s.i)] 2 (P0 :: xs) (.pan (flt L i e)) [(0, .dead)] [] := by unfold C0 at h; rw [hx] at h; exact h
theorem C1.ok (h : C1 L m f xs x g s) (hx : x s = .ok v s') : CallsM Tryz.prog ΓL f [(0, Qz L m s.i), (1, Fz 2 3 4 5), (4, Xz s.xs)] 6 (P0 :: xs) (g v) [(0, Qz L m s'.i), (1, Fz 2 3 6 5), (4, .dead)] [Xz s'.xs] := by unfold C1 at h; rw [hx] at h; exact h
theorem C1.err (h : C1 L m f xs x g s) (hx : x s = .err i e) : CallsM Tryz.prog ΓL f [(0, Qz L m s.i), (1, Fz 2 3 4 5), (4, Xz s.xs)] 6 (P0 :: xs) (.pan (flt L i e)) [(0, .dead), (1, .dead), (4, .dead)] [] := by unfold C1 at h; rw [hx] at h; exact h
theorem C2.ok (h : C2 L m f xs x g s) (hx : x s = .ok v s') : CallsM Tryz.prog ΓL f [(0, Qz L m s.i), (1, Fz 2 3 4 5), (4, Xz s.xs), (5, Tz s.ts)] 6 (P0 :: xs) (g v) [(0, Qz L m s'.i), (1, Fz 2 3 6 7), (4, .dead), (5, .dead)] [Xz s'.xs, Tz s'.ts] := by unfold C2 at h; rw [hx] at h; exact h
theorem C2.err (h : C2 L m f xs x g s) (hx : x s = .err i e) : CallsM Tryz.prog ΓL f [(0, Qz L m s.i), (1, Fz 2 3 4 5), (4, Xz s.xs), (5, Tz s.ts)] 6 (P0 :: xs) (.pan (flt L i e)) [(0, .dead), (1, .dead), (4, .dead), (5, .dead)] [] := by unfold C2 at h; rw [hx] at h; exact h
theorem C0.of (h : ∀ T, x s = T → CallsM Tryz.prog ΓL f [(0, Qz L m s.i)] 2 (P0 :: xs) (T.tv L g) (T.u0 L m) []) : C0 L m f xs x g s := h _ rfl
theorem C1.of (h : ∀ T, x s = T → CallsM Tryz.prog ΓL f [(0, Qz L m s.i), (1, Fz 2 3 4 5), (4, Xz s.xs)] 6 (P0 :: xs) (T.tv L g) (T.u1 L m) T.n1) : C1 L m f xs x g s := h _ rfl
theorem C2.of (h : ∀ T, x s = T → CallsM Tryz.prog ΓL f [(0, Qz L m s.i), (1, Fz 2 3 4 5), (4, Xz s.xs), (5, Tz s.ts)] 6 (P0 :: xs) (T.tv L g) (T.u2 L m) T.n2) : C2 L m f xs x g s := h _ rfl
theorem Up.ok {a b c : Nat} (h : Up L x a b) (hs : SOk L (c + a) s) (hx : x s = .ok v s') : SOk L (c + b) s' ∧ s.i ≤ s'.i := by have := h s c hs; rw [hx] at this; exact this
end
section
variable {P : Program} {Γ : Glob} {f : FuncId} {nx : Nat} {xs : List T1} {r : TV} {upd : List (Nat × Blk)} {new : List Blk} {a b c d : Nat × Blk} {m : List (Nat × Blk)}
theorem CallsM.more0 (h : CallsM P Γ f [a] nx xs r upd new) : CallsM P Γ f (a :: m) nx xs r upd new := h.more fun p hp => by
  simp only [List.mem_cons, List.not_mem_nil, or_false] at hp ⊢; exact .inl hp
theorem CallsM.more1 (h : CallsM P Γ f [a, b, c] nx xs r upd new) : CallsM P Γ f (a :: b :: c :: m) nx xs r upd new := h.more fun p hp => by
  simp only [List.mem_cons, List.not_mem_nil, or_false] at hp ⊢; rcases hp with hp | hp | hp <;> simp [hp]
theorem CallsM.moreL (h : CallsM P Γ f [a, b, d] nx xs r upd new) : CallsM P Γ f (a :: b :: c :: d :: m) nx xs r upd new := h.more fun p hp => by
  simp only [List.mem_cons, List.not_mem_nil, or_false] at hp ⊢; rcases hp with hp | hp | hp <;> simp [hp]
end
theorem bsj {l m : List UInt8} : bs l = bs m ↔ l = m := ⟨fun h => by simpa [bs] using h, fun h => by rw [h]⟩
theorem at_pos {α : Type} {p : Nat → Bool} {x y : PM α} {s : PS} (h : p s.i = true) : atM p x y s = x s := if_pos h
theorem at_neg {α : Type} {p : Nat → Bool} {x y : PM α} {s : PS} (h : p s.i = false) : atM p x y s = y s := if_neg (by rw [h]; decide)

section
variable {L : List TokP} {m : Nat}
theorem tk_at {i : Nat} (h : i < L.length) : L[i]? = some (tk L i) := by
  unfold tk
  rw [List.getD_eq_getElem?_getD, List.getElem?_eq_getElem h]; rfl
theorem ahead_c (i : Nat) (h : i < L.length) : CallsM Tryz.prog ΓL 51 [(0, Qz L m i)] 2 [P0] (.o (gD (tokD (tk L i)))) [(0, Qz L m i)] [] := by
  refine fn_ruleM (C := ⟨Tryz.prog, layF, Tryz.f51.ntmps, ΓL, 2, [], []⟩) layF_ok mixed Tryz.func51 rfl (by kernel_rfl) rfl rfl rfl ?_
  repeat' (first | refine (ex_row i _ rfl (tk_at h)) ?_ | refine tT ?_ | refine tF ?_ | refine ex_dec (fun _ => ?_) (fun _ => ?_) | refine t8 ?_ | refine tI ?_ | refine tU ?_ | refine tA ?_ | refine tB ?_ | refine tL ?_ | refine tN ?_ | fail "no step")
  exact ⟨rfl, TLe.rfl, rfl, rfl⟩
theorem fail_c (i e : Nat) (h : i < L.length) : CallsM Tryz.prog ΓL 52 [(0, Qz L m i)] 2 [P0, c1 (di e)] (.pan (flt L i e)) [(0, .dead)] [] := by
  refine fn_ruleP (C := ⟨Tryz.prog, layF, Tryz.f52.ntmps, ΓL, 2, [], []⟩) layF_ok mixed Tryz.func52 rfl (by kernel_rfl) rfl rfl rfl SLe.rfl ?_
  refine ex_callM (CallsM.ren ((ahead_c i h)) [0, 1] 2 rfl rfl rfl rfl) ?_
  repeat' (first | refine tT ?_ | refine tF ?_ | refine ex_dec (fun _ => ?_) (fun _ => ?_) | refine t8 ?_ | refine tI ?_ | refine tU ?_ | refine tA ?_ | refine tB ?_ | refine tL ?_ | refine tN ?_ | fail "no step")
  exact ⟨⟨_, rfl, rfl⟩, rfl, rfl⟩
end
end Go.Proofs.YtkbhmcdoedmffaaGreatDoor

namespace Go.Proofs.YtkbhmcdoedmffaaGreatDoor
open Go.RowKit

def wordF (size : Int) (little : Bool) : List UInt8 :=
  let e : List UInt8 := if little = true then [108, 101] else [98, 101]
  if size = 1 then [117, 56] else if size = 2 then [117, 49, 54] ++ e else if size = 3 then [117, 50, 52] ++ e else if size = 4 then [117, 51, 50] ++ e else if size = 8 then [117, 54, 52] ++ e else []
theorem word_c (size : Int) (little : Bool) : CallsA Tryz.prog Γ0 18 [c1 (di size), c1 (db little)] (Tstr (bs (wordF size little))) := by
  by_cases h : size = 1 ∨ size = 2 ∨ size = 3 ∨ size = 4 ∨ size = 8
  · rcases h with rfl | rfl | rfl | rfl | rfl <;> cases little
    all_goals
      refine fn_rule (C := ⟨Tryz.prog, layF, Tryz.f18.ntmps, Γ0, 0, [], []⟩) layF_ok mixed Tryz.func18 rfl (by kernel_rfl) rfl rfl rfl ?_
      repeat' (first | refine (and_mk (by decide)) ?_ | refine tT ?_ | refine tF ?_ | refine ex_dec (fun _ => ?_) (fun _ => ?_) | refine t8 ?_ | refine tI ?_ | refine tU ?_ | refine tA ?_ | refine tB ?_ | refine tL ?_ | refine tN ?_ | fail "no step")
      first | exact TLe.rfl | exact TLe.eq (congrArg (fun s => Tstr s) (bs_app _ _))
  · rw [show wordF size little = [] by unfold wordF; rw [if_neg (by omega), if_neg (by omega), if_neg (by omega), if_neg (by omega), if_neg (by omega)]]
    cases little
    all_goals
      refine fn_rule (C := ⟨Tryz.prog, layF, Tryz.f18.ntmps, Γ0, 0, [], []⟩) layF_ok mixed Tryz.func18 rfl (by kernel_rfl) rfl rfl rfl ?_
      repeat' (first | refine tT ?_ | refine tF ?_ | refine ex_dec (fun _ => ?_) (fun _ => ?_) | refine t8 ?_ | refine tI ?_ | refine tU ?_ | refine tA ?_ | refine tB ?_ | refine tL ?_ | refine tN ?_ | fail "no step")
      exact TLe.rfl
theorem level_c (w : List UInt8) : CallsA Tryz.prog Γ0 16 [c1 (ds (bs w))] (Ti (levelV w)) := by
  by_cases hm : w ∈ levelsL.map (·.1)
  · simp only [levelsL, List.map_cons, List.map_nil, List.mem_cons, List.not_mem_nil, or_false] at hm
    rcases hm with rfl | rfl | rfl | rfl | rfl | rfl | rfl | rfl | rfl | rfl | rfl | rfl | rfl | rfl | rfl | rfl | rfl
    all_goals
      refine fn_rule (C := ⟨Tryz.prog, layF, Tryz.f16.ntmps, Γ0, 0, [], []⟩) layF_ok mixed Tryz.func16 rfl (by kernel_rfl) rfl rfl rfl ?_
      repeat' (first | refine tT ?_ | refine tF ?_ | refine ex_dec (fun _ => ?_) (fun _ => ?_) | refine t8 ?_ | refine tI ?_ | refine tU ?_ | refine tA ?_ | refine tB ?_ | refine tL ?_ | refine tN ?_ | fail "no step")
      exact TLe.eq (congrArg (fun n : Nat => Ti (n : Int)) (show _ = levelV _ by decide +kernel))
  · have hne : ∀ l, l ∈ levelsL.map (·.1) → ¬ bs w = bs l := fun l hl he => hm (by rw [bsj.1 he]; exact hl)
    have h0 : levelV w = 0 := by
      have : List.find? (fun p => p.1 == w) levelsL = none := List.find?_eq_none.2 (fun p hp he => hm (List.mem_map.2 ⟨p, hp, by simpa using he⟩))
      unfold levelV; rw [this]; rfl
    rw [h0]
    refine fn_rule (C := ⟨Tryz.prog, layF, Tryz.f16.ntmps, Γ0, 0, [], []⟩) layF_ok mixed Tryz.func16 rfl (by kernel_rfl) rfl rfl rfl ?_
    repeat' (first | refine ex_false (hne _ (by decide)) ?_ | refine tT ?_ | refine tF ?_ | refine ex_dec (fun _ => ?_) (fun _ => ?_) | refine t8 ?_ | refine tI ?_ | refine tU ?_ | refine tA ?_ | refine tB ?_ | refine tL ?_ | refine tN ?_ | fail "no step")
    exact TLe.rfl
def szL : List Nat := [1, 2, 3, 4, 8]
theorem integer_none {w : List UInt8} (h : ∀ k, k < 5 → ∀ l, wordF (szL.getD k 0 : Nat) l ≠ w) : integerV w = none := by
  have hn : w ∉ intsL.map (·.1) := by
    intro hm
    simp only [intsL, List.map_cons, List.map_nil, List.mem_cons, List.not_mem_nil, or_false] at hm
    rcases hm with rfl | rfl | rfl | rfl | rfl | rfl | rfl | rfl | rfl
    · exact h 0 (by decide) false rfl
    · exact h 1 (by decide) false rfl
    · exact h 1 (by decide) true rfl
    · exact h 2 (by decide) false rfl
    · exact h 2 (by decide) true rfl
    · exact h 3 (by decide) false rfl
    · exact h 3 (by decide) true rfl
    · exact h 4 (by decide) false rfl
    · exact h 4 (by decide) true rfl
  exact Option.map_eq_none_iff.2 (List.find?_eq_none.2 fun p hp he => hn (List.mem_map.2 ⟨p, hp, by simpa using he⟩))
def intTV : Option (Nat × Bool) → TV
  | some (n, l) => .tup [c1 (di n), c1 (db l), c1 (db true)]
  | none => .tup [c1 (di 0), c1 (db false), c1 (db false)]
set_option maxHeartbeats 2000000 in
theorem integer_c (w : List UInt8) : CallsA Tryz.prog Γ0 12 [c1 (ds (bs w))] (intTV (integerV w)) := by
  refine fn_rule (C := ⟨Tryz.prog, layF, Tryz.f12.ntmps, Γ0, 0, [], []⟩) layF_ok mixed Tryz.func12 rfl (by kernel_rfl) rfl rfl rfl ?_
  repeat' (first | refine tT ?_ | refine tF ?_ | refine ex_dec (fun _ => ?_) (fun _ => ?_) | refine t8 ?_ | refine tI ?_ | refine tU ?_ | refine tA ?_ | refine tB ?_ | refine tL ?_ | refine tN ?_ | fail "no step")
  refine ex_loop (X := Nat) (fun i => ⟨[(0, Tstr (bs w)), (9, .o (gD [di 1, di 2, di 3, di 4, di 8])), (10, Ti i)], [], 0⟩) (fun i => 5 - i) (fun i => i ≤ 5 ∧ ∀ k, k < i → ∀ l, wordF (szL.getD k 0 : Nat) l ≠ w) 0 ⟨by omega, fun k h => absurd h (by omega)⟩ (SLe.of ⟨⟨rfl, rfl, rfl, trivial⟩, trivial⟩) ?_
  rintro i ⟨hi, hP⟩
  by_cases h5 : i = 5
  · subst h5
    rw [integer_none hP]
    repeat' (first | refine tT ?_ | refine tF ?_ | refine ex_dec (fun _ => ?_) (fun _ => ?_) | refine t8 ?_ | refine tI ?_ | refine tU ?_ | refine tA ?_ | refine tB ?_ | refine tL ?_ | refine tN ?_ | fail "no step")
    exact TLe.rfl
  · have key : ∀ (z : Nat), szL.getD i 0 = z → (∀ l, wordF z l ≠ w) → ∀ k, k < i + 1 → ∀ l, wordF (szL.getD k 0 : Nat) l ≠ w := fun z hz hl k hk l => by
      by_cases e : k = i
      · subst e; rw [hz]; exact hl l
      · exact hP k (by omega) l
    rcases (show i = 0 ∨ i = 1 ∨ i = 2 ∨ i = 3 ∨ i = 4 by omega) with rfl | rfl | rfl | rfl | rfl
    · repeat' (first | refine (ex_is ([.d (di 1)] : List CV) rfl) ?_ | refine tT ?_ | refine tF ?_ | refine ex_dec (fun _ => ?_) (fun _ => ?_) | refine t8 ?_ | refine tI ?_ | refine tU ?_ | refine tA ?_ | refine tB ?_ | refine tL ?_ | refine tN ?_ | fail "no step")
      refine ex_loop (X := Nat) (fun j => ⟨[(0, Tstr (bs w)), (6, Ti 1), (9, .o (gD [di 1, di 2, di 3, di 4, di 8])), (10, Ti 0), (13, .o (gD [db false, db true])), (14, Ti j)], [], 0⟩) (fun j => 2 - j) (fun j => j ≤ 2 ∧ (0 < j → wordF 1 false ≠ w) ∧ (1 < j → wordF 1 true ≠ w)) 0 ⟨by omega, fun h => absurd h (by omega), fun h => absurd h (by omega)⟩ (SLe.of ⟨⟨rfl, rfl, rfl, rfl, rfl, rfl, trivial⟩, trivial⟩) ?_
      rintro j ⟨hj, q0, q1⟩
      rcases (show j = 0 ∨ j = 1 ∨ j = 2 by omega) with rfl | rfl | rfl
      · repeat' (first | refine ex_call (word_c 1 false) ?_ | refine (ex_is ([.d (db false)] : List CV) rfl) ?_ | refine tT ?_ | refine tF ?_ | refine ex_dec (fun _ => ?_) (fun _ => ?_) | refine t8 ?_ | refine tI ?_ | refine tU ?_ | refine tA ?_ | refine tB ?_ | refine tL ?_ | refine tN ?_ | fail "no step")
        · rename_i e
          obtain rfl := bsj.1 e
          exact TLe.rfl
        · rename_i e
          exact ex_round 1 ⟨by omega, fun _ h => e (by rw [h]), fun h => absurd h (by omega)⟩ (by show 2 - 1 < 2 - 0; decide) (SLe.of ⟨⟨rfl, rfl, rfl, rfl, rfl, rfl, trivial⟩, trivial⟩)
      · repeat' (first | refine ex_call (word_c 1 true) ?_ | refine (ex_is ([.d (db true)] : List CV) rfl) ?_ | refine tT ?_ | refine tF ?_ | refine ex_dec (fun _ => ?_) (fun _ => ?_) | refine t8 ?_ | refine tI ?_ | refine tU ?_ | refine tA ?_ | refine tB ?_ | refine tL ?_ | refine tN ?_ | fail "no step")
        · rename_i e
          obtain rfl := bsj.1 e
          first | exact TLe.rfl | exact absurd rfl (q0 (by omega))
        · rename_i e
          exact ex_round 2 ⟨by omega, fun _ => q0 (by omega), fun _ h => e (by rw [h])⟩ (by show 2 - 2 < 2 - 1; decide) (SLe.of ⟨⟨rfl, rfl, rfl, rfl, rfl, rfl, trivial⟩, trivial⟩)
      · repeat' (first | refine tT ?_ | refine tF ?_ | refine ex_dec (fun _ => ?_) (fun _ => ?_) | refine t8 ?_ | refine tI ?_ | refine tU ?_ | refine tA ?_ | refine tB ?_ | refine tL ?_ | refine tN ?_ | fail "no step")
        exact ex_round (0 + 1) ⟨by omega, key 1 (by decide) fun l => by cases l; exact q0 (by omega); exact q1 (by omega)⟩ (by show 5 - (0 + 1) < 5 - 0; omega) (SLe.of ⟨⟨rfl, rfl, rfl, trivial⟩, trivial⟩)
    · repeat' (first | refine (ex_is ([.d (di 2)] : List CV) rfl) ?_ | refine tT ?_ | refine tF ?_ | refine ex_dec (fun _ => ?_) (fun _ => ?_) | refine t8 ?_ | refine tI ?_ | refine tU ?_ | refine tA ?_ | refine tB ?_ | refine tL ?_ | refine tN ?_ | fail "no step")
      refine ex_loop (X := Nat) (fun j => ⟨[(0, Tstr (bs w)), (6, Ti 2), (9, .o (gD [di 1, di 2, di 3, di 4, di 8])), (10, Ti 1), (13, .o (gD [db false, db true])), (14, Ti j)], [], 0⟩) (fun j => 2 - j) (fun j => j ≤ 2 ∧ (0 < j → wordF 2 false ≠ w) ∧ (1 < j → wordF 2 true ≠ w)) 0 ⟨by omega, fun h => absurd h (by omega), fun h => absurd h (by omega)⟩ (SLe.of ⟨⟨rfl, rfl, rfl, rfl, rfl, rfl, trivial⟩, trivial⟩) ?_
      rintro j ⟨hj, q0, q1⟩
      rcases (show j = 0 ∨ j = 1 ∨ j = 2 by omega) with rfl | rfl | rfl
      · repeat' (first | refine ex_call (word_c 2 false) ?_ | refine (ex_is ([.d (db false)] : List CV) rfl) ?_ | refine tT ?_ | refine tF ?_ | refine ex_dec (fun _ => ?_) (fun _ => ?_) | refine t8 ?_ | refine tI ?_ | refine tU ?_ | refine tA ?_ | refine tB ?_ | refine tL ?_ | refine tN ?_ | fail "no step")
        · rename_i e
          obtain rfl := bsj.1 e
          exact TLe.rfl
        · rename_i e
          exact ex_round 1 ⟨by omega, fun _ h => e (by rw [h]), fun h => absurd h (by omega)⟩ (by show 2 - 1 < 2 - 0; decide) (SLe.of ⟨⟨rfl, rfl, rfl, rfl, rfl, rfl, trivial⟩, trivial⟩)
      · repeat' (first | refine ex_call (word_c 2 true) ?_ | refine (ex_is ([.d (db true)] : List CV) rfl) ?_ | refine tT ?_ | refine tF ?_ | refine ex_dec (fun _ => ?_) (fun _ => ?_) | refine t8 ?_ | refine tI ?_ | refine tU ?_ | refine tA ?_ | refine tB ?_ | refine tL ?_ | refine tN ?_ | fail "no step")
        · rename_i e
          obtain rfl := bsj.1 e
          first | exact TLe.rfl | exact absurd rfl (q0 (by omega))
        · rename_i e
          exact ex_round 2 ⟨by omega, fun _ => q0 (by omega), fun _ h => e (by rw [h])⟩ (by show 2 - 2 < 2 - 1; decide) (SLe.of ⟨⟨rfl, rfl, rfl, rfl, rfl, rfl, trivial⟩, trivial⟩)
      · repeat' (first | refine tT ?_ | refine tF ?_ | refine ex_dec (fun _ => ?_) (fun _ => ?_) | refine t8 ?_ | refine tI ?_ | refine tU ?_ | refine tA ?_ | refine tB ?_ | refine tL ?_ | refine tN ?_ | fail "no step")
        exact ex_round (1 + 1) ⟨by omega, key 2 (by decide) fun l => by cases l; exact q0 (by omega); exact q1 (by omega)⟩ (by show 5 - (1 + 1) < 5 - 1; omega) (SLe.of ⟨⟨rfl, rfl, rfl, trivial⟩, trivial⟩)
    · repeat' (first | refine (ex_is ([.d (di 3)] : List CV) rfl) ?_ | refine tT ?_ | refine tF ?_ | refine ex_dec (fun _ => ?_) (fun _ => ?_) | refine t8 ?_ | refine tI ?_ | refine tU ?_ | refine tA ?_ | refine tB ?_ | refine tL ?_ | refine tN ?_ | fail "no step")
      refine ex_loop (X := Nat) (fun j => ⟨[(0, Tstr (bs w)), (6, Ti 3), (9, .o (gD [di 1, di 2, di 3, di 4, di 8])), (10, Ti 2), (13, .o (gD [db false, db true])), (14, Ti j)], [], 0⟩) (fun j => 2 - j) (fun j => j ≤ 2 ∧ (0 < j → wordF 3 false ≠ w) ∧ (1 < j → wordF 3 true ≠ w)) 0 ⟨by omega, fun h => absurd h (by omega), fun h => absurd h (by omega)⟩ (SLe.of ⟨⟨rfl, rfl, rfl, rfl, rfl, rfl, trivial⟩, trivial⟩) ?_
      rintro j ⟨hj, q0, q1⟩
      rcases (show j = 0 ∨ j = 1 ∨ j = 2 by omega) with rfl | rfl | rfl
      · repeat' (first | refine ex_call (word_c 3 false) ?_ | refine (ex_is ([.d (db false)] : List CV) rfl) ?_ | refine tT ?_ | refine tF ?_ | refine ex_dec (fun _ => ?_) (fun _ => ?_) | refine t8 ?_ | refine tI ?_ | refine tU ?_ | refine tA ?_ | refine tB ?_ | refine tL ?_ | refine tN ?_ | fail "no step")
        · rename_i e
          obtain rfl := bsj.1 e
          exact TLe.rfl
        · rename_i e
          exact ex_round 1 ⟨by omega, fun _ h => e (by rw [h]), fun h => absurd h (by omega)⟩ (by show 2 - 1 < 2 - 0; decide) (SLe.of ⟨⟨rfl, rfl, rfl, rfl, rfl, rfl, trivial⟩, trivial⟩)
      · repeat' (first | refine ex_call (word_c 3 true) ?_ | refine (ex_is ([.d (db true)] : List CV) rfl) ?_ | refine tT ?_ | refine tF ?_ | refine ex_dec (fun _ => ?_) (fun _ => ?_) | refine t8 ?_ | refine tI ?_ | refine tU ?_ | refine tA ?_ | refine tB ?_ | refine tL ?_ | refine tN ?_ | fail "no step")
        · rename_i e
          obtain rfl := bsj.1 e
          first | exact TLe.rfl | exact absurd rfl (q0 (by omega))
        · rename_i e
          exact ex_round 2 ⟨by omega, fun _ => q0 (by omega), fun _ h => e (by rw [h])⟩ (by show 2 - 2 < 2 - 1; decide) (SLe.of ⟨⟨rfl, rfl, rfl, rfl, rfl, rfl, trivial⟩, trivial⟩)
      · repeat' (first | refine tT ?_ | refine tF ?_ | refine ex_dec (fun _ => ?_) (fun _ => ?_) | refine t8 ?_ | refine tI ?_ | refine tU ?_ | refine tA ?_ | refine tB ?_ | refine tL ?_ | refine tN ?_ | fail "no step")
        exact ex_round (2 + 1) ⟨by omega, key 3 (by decide) fun l => by cases l; exact q0 (by omega); exact q1 (by omega)⟩ (by show 5 - (2 + 1) < 5 - 2; omega) (SLe.of ⟨⟨rfl, rfl, rfl, trivial⟩, trivial⟩)
    · repeat' (first | refine (ex_is ([.d (di 4)] : List CV) rfl) ?_ | refine tT ?_ | refine tF ?_ | refine ex_dec (fun _ => ?_) (fun _ => ?_) | refine t8 ?_ | refine tI ?_ | refine tU ?_ | refine tA ?_ | refine tB ?_ | refine tL ?_ | refine tN ?_ | fail "no step")
      refine ex_loop (X := Nat) (fun j => ⟨[(0, Tstr (bs w)), (6, Ti 4), (9, .o (gD [di 1, di 2, di 3, di 4, di 8])), (10, Ti 3), (13, .o (gD [db false, db true])), (14, Ti j)], [], 0⟩) (fun j => 2 - j) (fun j => j ≤ 2 ∧ (0 < j → wordF 4 false ≠ w) ∧ (1 < j → wordF 4 true ≠ w)) 0 ⟨by omega, fun h => absurd h (by omega), fun h => absurd h (by omega)⟩ (SLe.of ⟨⟨rfl, rfl, rfl, rfl, rfl, rfl, trivial⟩, trivial⟩) ?_
      rintro j ⟨hj, q0, q1⟩
      rcases (show j = 0 ∨ j = 1 ∨ j = 2 by omega) with rfl | rfl | rfl
      · repeat' (first | refine ex_call (word_c 4 false) ?_ | refine (ex_is ([.d (db false)] : List CV) rfl) ?_ | refine tT ?_ | refine tF ?_ | refine ex_dec (fun _ => ?_) (fun _ => ?_) | refine t8 ?_ | refine tI ?_ | refine tU ?_ | refine tA ?_ | refine tB ?_ | refine tL ?_ | refine tN ?_ | fail "no step")
        · rename_i e
          obtain rfl := bsj.1 e
          exact TLe.rfl
        · rename_i e
          exact ex_round 1 ⟨by omega, fun _ h => e (by rw [h]), fun h => absurd h (by omega)⟩ (by show 2 - 1 < 2 - 0; decide) (SLe.of ⟨⟨rfl, rfl, rfl, rfl, rfl, rfl, trivial⟩, trivial⟩)
      · repeat' (first | refine ex_call (word_c 4 true) ?_ | refine (ex_is ([.d (db true)] : List CV) rfl) ?_ | refine tT ?_ | refine tF ?_ | refine ex_dec (fun _ => ?_) (fun _ => ?_) | refine t8 ?_ | refine tI ?_ | refine tU ?_ | refine tA ?_ | refine tB ?_ | refine tL ?_ | refine tN ?_ | fail "no step")
        · rename_i e
          obtain rfl := bsj.1 e
          first | exact TLe.rfl | exact absurd rfl (q0 (by omega))
        · rename_i e
          exact ex_round 2 ⟨by omega, fun _ => q0 (by omega), fun _ h => e (by rw [h])⟩ (by show 2 - 2 < 2 - 1; decide) (SLe.of ⟨⟨rfl, rfl, rfl, rfl, rfl, rfl, trivial⟩, trivial⟩)
      · repeat' (first | refine tT ?_ | refine tF ?_ | refine ex_dec (fun _ => ?_) (fun _ => ?_) | refine t8 ?_ | refine tI ?_ | refine tU ?_ | refine tA ?_ | refine tB ?_ | refine tL ?_ | refine tN ?_ | fail "no step")
        exact ex_round (3 + 1) ⟨by omega, key 4 (by decide) fun l => by cases l; exact q0 (by omega); exact q1 (by omega)⟩ (by show 5 - (3 + 1) < 5 - 3; omega) (SLe.of ⟨⟨rfl, rfl, rfl, trivial⟩, trivial⟩)
    · repeat' (first | refine (ex_is ([.d (di 8)] : List CV) rfl) ?_ | refine tT ?_ | refine tF ?_ | refine ex_dec (fun _ => ?_) (fun _ => ?_) | refine t8 ?_ | refine tI ?_ | refine tU ?_ | refine tA ?_ | refine tB ?_ | refine tL ?_ | refine tN ?_ | fail "no step")
      refine ex_loop (X := Nat) (fun j => ⟨[(0, Tstr (bs w)), (6, Ti 8), (9, .o (gD [di 1, di 2, di 3, di 4, di 8])), (10, Ti 4), (13, .o (gD [db false, db true])), (14, Ti j)], [], 0⟩) (fun j => 2 - j) (fun j => j ≤ 2 ∧ (0 < j → wordF 8 false ≠ w) ∧ (1 < j → wordF 8 true ≠ w)) 0 ⟨by omega, fun h => absurd h (by omega), fun h => absurd h (by omega)⟩ (SLe.of ⟨⟨rfl, rfl, rfl, rfl, rfl, rfl, trivial⟩, trivial⟩) ?_
      rintro j ⟨hj, q0, q1⟩
      rcases (show j = 0 ∨ j = 1 ∨ j = 2 by omega) with rfl | rfl | rfl
      · repeat' (first | refine ex_call (word_c 8 false) ?_ | refine (ex_is ([.d (db false)] : List CV) rfl) ?_ | refine tT ?_ | refine tF ?_ | refine ex_dec (fun _ => ?_) (fun _ => ?_) | refine t8 ?_ | refine tI ?_ | refine tU ?_ | refine tA ?_ | refine tB ?_ | refine tL ?_ | refine tN ?_ | fail "no step")
        · rename_i e
          obtain rfl := bsj.1 e
          exact TLe.rfl
        · rename_i e
          exact ex_round 1 ⟨by omega, fun _ h => e (by rw [h]), fun h => absurd h (by omega)⟩ (by show 2 - 1 < 2 - 0; decide) (SLe.of ⟨⟨rfl, rfl, rfl, rfl, rfl, rfl, trivial⟩, trivial⟩)
      · repeat' (first | refine ex_call (word_c 8 true) ?_ | refine (ex_is ([.d (db true)] : List CV) rfl) ?_ | refine tT ?_ | refine tF ?_ | refine ex_dec (fun _ => ?_) (fun _ => ?_) | refine t8 ?_ | refine tI ?_ | refine tU ?_ | refine tA ?_ | refine tB ?_ | refine tL ?_ | refine tN ?_ | fail "no step")
        · rename_i e
          obtain rfl := bsj.1 e
          first | exact TLe.rfl | exact absurd rfl (q0 (by omega))
        · rename_i e
          exact ex_round 2 ⟨by omega, fun _ => q0 (by omega), fun _ h => e (by rw [h])⟩ (by show 2 - 2 < 2 - 1; decide) (SLe.of ⟨⟨rfl, rfl, rfl, rfl, rfl, rfl, trivial⟩, trivial⟩)
      · repeat' (first | refine tT ?_ | refine tF ?_ | refine ex_dec (fun _ => ?_) (fun _ => ?_) | refine t8 ?_ | refine tI ?_ | refine tU ?_ | refine tA ?_ | refine tB ?_ | refine tL ?_ | refine tN ?_ | fail "no step")
        exact ex_round (4 + 1) ⟨by omega, key 8 (by decide) fun l => by cases l; exact q0 (by omega); exact q1 (by omega)⟩ (by show 5 - (4 + 1) < 5 - 4; omega) (SLe.of ⟨⟨rfl, rfl, rfl, trivial⟩, trivial⟩)
theorem key_c (w : List UInt8) :
    CallsA Tryz.prog Γ0 14 [c1 (ds (bs w))] (Tb (keyV w)) := by
  by_cases hm : w ∈ keysL
  · rw [show keyV w = true by unfold keyV; rw [List.contains_iff_mem.2 hm]; rfl]
    simp only [keysL, List.mem_cons, List.not_mem_nil, or_false] at hm
    rcases hm with rfl | rfl | rfl | rfl | rfl | rfl | rfl | rfl | rfl | rfl | rfl | rfl | rfl | rfl | rfl | rfl | rfl | rfl | rfl
    all_goals
      refine fn_rule (C := ⟨Tryz.prog, layF, Tryz.f14.ntmps, Γ0, 0, [], []⟩) layF_ok mixed Tryz.func14 rfl (by kernel_rfl) rfl rfl rfl ?_
      repeat' (first | refine tT ?_ | refine tF ?_ | refine ex_dec (fun _ => ?_) (fun _ => ?_) | refine t8 ?_ | refine tI ?_ | refine tU ?_ | refine tA ?_ | refine tB ?_ | refine tL ?_ | refine tN ?_ | fail "no step")
      exact TLe.rfl
  · have hne : ∀ l, l ∈ keysL → ¬ bs w = bs l := fun l hl he => hm (by rw [bsj.1 he]; exact hl)
    have hk : keyV w = (integerV w).isSome := by unfold keyV; rw [show keysL.contains w = false by simpa using hm]; rfl
    rw [hk]
    have hc := integer_c w
    rcases hv : integerV w with _ | ⟨n, l⟩ <;> rw [hv] at hc
    · have hc : CallsA Tryz.prog Γ0 12 [c1 (ds (bs w))] (.tup [c1 (di 0), c1 (db false), c1 (db false)]) := hc
      refine fn_rule (C := ⟨Tryz.prog, layF, Tryz.f14.ntmps, Γ0, 0, [], []⟩) layF_ok mixed Tryz.func14 rfl (by kernel_rfl) rfl rfl rfl ?_
      repeat' (first | refine ex_call hc ?_ | refine ex_false (hne _ (by decide)) ?_ | refine tT ?_ | refine tF ?_ | refine ex_dec (fun _ => ?_) (fun _ => ?_) | refine t8 ?_ | refine tI ?_ | refine tU ?_ | refine tA ?_ | refine tB ?_ | refine tL ?_ | refine tN ?_ | fail "no step")
      exact TLe.rfl
    · have hc : CallsA Tryz.prog Γ0 12 [c1 (ds (bs w))] (.tup [c1 (di n), c1 (db l), c1 (db true)]) := hc
      refine fn_rule (C := ⟨Tryz.prog, layF, Tryz.f14.ntmps, Γ0, 0, [], []⟩) layF_ok mixed Tryz.func14 rfl (by kernel_rfl) rfl rfl rfl ?_
      repeat' (first | refine ex_call hc ?_ | refine ex_false (hne _ (by decide)) ?_ | refine tT ?_ | refine tF ?_ | refine ex_dec (fun _ => ?_) (fun _ => ?_) | refine t8 ?_ | refine tI ?_ | refine tU ?_ | refine tA ?_ | refine tB ?_ | refine tL ?_ | refine tN ?_ | fail "no step")
      exact TLe.rfl
end Go.Proofs.YtkbhmcdoedmffaaGreatDoor

namespace Go.Proofs.YtkbhmcdoedmffaaGreatDoor
open Go.RowKit

section
variable {L : List TokP} {m : Nat}
theorem is_c (i : Nat) (h : i < L.length) (t : List UInt8) : CallsM Tryz.prog ΓL 47 [(0, Qz L m i)] 2 [P0, c1 (ds (bs t))] (Tb (isV L i t)) [(0, Qz L m i)] [] := by
  have ha := ahead_c (L := L) (m := m) i h
  obtain ⟨R, hR⟩ : ∃ R, isV L i t = R := ⟨_, rfl⟩
  rw [hR]
  unfold isV at hR
  generalize tk L i = u at *
  by_cases hk : u.k = 3
  · obtain rfl : false = R := by rw [← hR]; simp [hk]
    refine fn_ruleM (C := ⟨Tryz.prog, layF, Tryz.f47.ntmps, ΓL, 2, [], []⟩) layF_ok mixed Tryz.func47 rfl (by kernel_rfl) rfl rfl rfl ?_
    refine ex_callM (CallsM.ren (ha) [0, 1] 2 rfl rfl rfl rfl) ?_
    repeat' (first | refine tT ?_ | refine tF ?_ | refine ex_dec (fun _ => ?_) (fun _ => ?_) | refine t8 ?_ | refine tI ?_ | refine tU ?_ | refine tA ?_ | refine tB ?_ | refine tL ?_ | refine tN ?_ | fail "no step")
    exact ⟨rfl, TLe.rfl, rfl, rfl⟩
  · by_cases ht : u.t = t
    · obtain rfl : true = R := by rw [← hR]; simp [hk, ht]
      refine fn_ruleM (C := ⟨Tryz.prog, layF, Tryz.f47.ntmps, ΓL, 2, [], []⟩) layF_ok mixed Tryz.func47 rfl (by kernel_rfl) rfl rfl rfl ?_
      refine ex_callM (CallsM.ren (ha) [0, 1] 2 rfl rfl rfl rfl) ?_
      repeat' (first | refine tT ?_ | refine tF ?_ | refine ex_dec (fun _ => ?_) (fun _ => ?_) | refine t8 ?_ | refine tI ?_ | refine tU ?_ | refine tA ?_ | refine tB ?_ | refine tL ?_ | refine tN ?_ | fail "no step")
      refine ex_callM (CallsM.ren (ha) [0, 1] 2 rfl rfl rfl rfl) ?_
      refine ex_true (by rw [ht]) ?_
      repeat' (first | refine tT ?_ | refine tF ?_ | refine ex_dec (fun _ => ?_) (fun _ => ?_) | refine t8 ?_ | refine tI ?_ | refine tU ?_ | refine tA ?_ | refine tB ?_ | refine tL ?_ | refine tN ?_ | fail "no step")
      exact ⟨rfl, TLe.rfl, rfl, rfl⟩
    · obtain rfl : false = R := by rw [← hR]; simp [hk, ht]
      refine fn_ruleM (C := ⟨Tryz.prog, layF, Tryz.f47.ntmps, ΓL, 2, [], []⟩) layF_ok mixed Tryz.func47 rfl (by kernel_rfl) rfl rfl rfl ?_
      refine ex_callM (CallsM.ren (ha) [0, 1] 2 rfl rfl rfl rfl) ?_
      repeat' (first | refine tT ?_ | refine tF ?_ | refine ex_dec (fun _ => ?_) (fun _ => ?_) | refine t8 ?_ | refine tI ?_ | refine tU ?_ | refine tA ?_ | refine tB ?_ | refine tL ?_ | refine tN ?_ | fail "no step")
      refine ex_callM (CallsM.ren (ha) [0, 1] 2 rfl rfl rfl rfl) ?_
      refine ex_false (fun e => ht (bsj.1 e)) ?_
      repeat' (first | refine tT ?_ | refine tF ?_ | refine ex_dec (fun _ => ?_) (fun _ => ?_) | refine t8 ?_ | refine tI ?_ | refine tU ?_ | refine tA ?_ | refine tB ?_ | refine tL ?_ | refine tN ?_ | fail "no step")
      exact ⟨rfl, TLe.rfl, rfl, rfl⟩
theorem take_c (s : PS) (h : s.i < L.length) (hn : L.length ≤ 1000000) (t : List UInt8) : C0 L m 65 [c1 (ds (bs t))] (takeM L t) (fun _ => .tup []) s := by
  have hi := is_c (m := m) s.i h t
  refine C0.of fun T hT => ?_
  unfold takeM at hT
  rcases hv : isV L s.i t with _ | _ <;> rw [hv] at hi hT
  · obtain rfl : PR.err s.i 4 = T := hT
    refine fn_ruleP (C := ⟨Tryz.prog, layF, Tryz.f65.ntmps, ΓL, 2, [], []⟩) layF_ok mixed Tryz.func65 rfl (by kernel_rfl) rfl rfl rfl SLe.rfl ?_
    refine ex_callM (CallsM.ren (hi) [0, 1] 2 rfl rfl rfl rfl) ?_
    repeat' (first | refine tT ?_ | refine tF ?_ | refine ex_dec (fun _ => ?_) (fun _ => ?_) | refine t8 ?_ | refine tI ?_ | refine tU ?_ | refine tA ?_ | refine tB ?_ | refine tL ?_ | refine tN ?_ | fail "no step")
    refine ex_callM (CallsM.ren ((fail_c s.i 4 h)) [0, 1] 2 rfl rfl rfl rfl) ?_
    exact ⟨⟨_, rfl, rfl⟩, rfl, rfl⟩
  · obtain rfl : PR.ok () { s with i := s.i + 1 } = T := hT
    refine fn_ruleP (C := ⟨Tryz.prog, layF, Tryz.f65.ntmps, ΓL, 2, [], []⟩) layF_ok mixed Tryz.func65 rfl (by kernel_rfl) rfl rfl rfl SLe.rfl ?_
    refine ex_callM (CallsM.ren (hi) [0, 1] 2 rfl rfl rfl rfl) ?_
    repeat' (first | refine ex_i64 ((s.i + 1 : Nat) : Int) (by omega) (by omega) (by omega) ?_ | refine ex_u64 ((s.i + 1 : Nat) : Int) (by omega) (by omega) (by omega) ?_ | refine ex_u8 ((s.i + 1 : Nat) : Int) (by omega) (by omega) (by omega) ?_ | refine tT ?_ | refine tF ?_ | refine ex_dec (fun _ => ?_) (fun _ => ?_) | refine t8 ?_ | refine tI ?_ | refine tU ?_ | refine tA ?_ | refine tB ?_ | refine tL ?_ | refine tN ?_ | fail "no step")
    exact ⟨rfl, TLe.rfl, rfl, rfl⟩
theorem may_yes (i : Nat) (h : i < L.length) (hn : L.length ≤ 1000000) (t : List UInt8) (hv : isV L i t = true) : CallsM Tryz.prog ΓL 68 [(0, Qz L m i)] 2 [P0, c1 (ds (bs t))] (Tb true) [(0, Qz L m (i + 1))] [] := by
  have hi := is_c (m := m) i h t
  rw [hv] at hi
  refine fn_ruleM (C := ⟨Tryz.prog, layF, Tryz.f68.ntmps, ΓL, 2, [], []⟩) layF_ok mixed Tryz.func68 rfl (by kernel_rfl) rfl rfl rfl ?_
  refine ex_callM (CallsM.ren (hi) [0, 1] 2 rfl rfl rfl rfl) ?_
  repeat' (first | refine ex_i64 ((i + 1 : Nat) : Int) (by omega) (by omega) (by omega) ?_ | refine ex_u64 ((i + 1 : Nat) : Int) (by omega) (by omega) (by omega) ?_ | refine ex_u8 ((i + 1 : Nat) : Int) (by omega) (by omega) (by omega) ?_ | refine tT ?_ | refine tF ?_ | refine ex_dec (fun _ => ?_) (fun _ => ?_) | refine t8 ?_ | refine tI ?_ | refine tU ?_ | refine tA ?_ | refine tB ?_ | refine tL ?_ | refine tN ?_ | fail "no step")
  exact ⟨rfl, TLe.rfl, rfl, rfl⟩
theorem may_no (i : Nat) (h : i < L.length) (t : List UInt8) (hv : isV L i t = false) : CallsM Tryz.prog ΓL 68 [(0, Qz L m i)] 2 [P0, c1 (ds (bs t))] (Tb false) [(0, Qz L m i)] [] := by
  have hi := is_c (m := m) i h t
  rw [hv] at hi
  refine fn_ruleM (C := ⟨Tryz.prog, layF, Tryz.f68.ntmps, ΓL, 2, [], []⟩) layF_ok mixed Tryz.func68 rfl (by kernel_rfl) rfl rfl rfl ?_
  refine ex_callM (CallsM.ren (hi) [0, 1] 2 rfl rfl rfl rfl) ?_
  repeat' (first | refine tT ?_ | refine tF ?_ | refine ex_dec (fun _ => ?_) (fun _ => ?_) | refine t8 ?_ | refine tI ?_ | refine tU ?_ | refine tA ?_ | refine tB ?_ | refine tL ?_ | refine tN ?_ | fail "no step")
  exact ⟨rfl, TLe.rfl, rfl, rfl⟩
theorem named_c (i : Nat) (h : i < L.length) : CallsM Tryz.prog ΓL 69 [(0, Qz L m i)] 2 [P0] (Tb (namedV L i)) [(0, Qz L m i)] [] := by
  have ha := ahead_c (L := L) (m := m) i h
  obtain ⟨R, hR⟩ : ∃ R, namedV L i = R := ⟨_, rfl⟩
  rw [hR]
  unfold namedV at hR
  generalize tk L i = u at *
  have hk := (key_c u.t).gL
  generalize keyV u.t = q at *
  by_cases h0 : u.k = 0
  · obtain rfl : (!q) = R := by rw [← hR, decide_eq_true h0]; rfl
    cases q
    all_goals
      refine fn_ruleM (C := ⟨Tryz.prog, layF, Tryz.f69.ntmps, ΓL, 2, [], []⟩) layF_ok mixed Tryz.func69 rfl (by kernel_rfl) rfl rfl rfl ?_
      refine ex_callM (CallsM.ren (ha) [0, 1] 2 rfl rfl rfl rfl) ?_
      repeat' (first | refine tT ?_ | refine tF ?_ | refine ex_dec (fun _ => ?_) (fun _ => ?_) | refine t8 ?_ | refine tI ?_ | refine tU ?_ | refine tA ?_ | refine tB ?_ | refine tL ?_ | refine tN ?_ | fail "no step")
      refine ex_callM (CallsM.ren (ha) [0, 1] 2 rfl rfl rfl rfl) ?_
      repeat' (first | refine ex_call hk ?_ | refine tT ?_ | refine tF ?_ | refine ex_dec (fun _ => ?_) (fun _ => ?_) | refine t8 ?_ | refine tI ?_ | refine tU ?_ | refine tA ?_ | refine tB ?_ | refine tL ?_ | refine tN ?_ | fail "no step")
      exact ⟨rfl, TLe.rfl, rfl, rfl⟩
  · obtain rfl : false = R := by rw [← hR, decide_eq_false h0]; rfl
    refine fn_ruleM (C := ⟨Tryz.prog, layF, Tryz.f69.ntmps, ΓL, 2, [], []⟩) layF_ok mixed Tryz.func69 rfl (by kernel_rfl) rfl rfl rfl ?_
    refine ex_callM (CallsM.ren (ha) [0, 1] 2 rfl rfl rfl rfl) ?_
    repeat' (first | refine tT ?_ | refine tF ?_ | refine ex_dec (fun _ => ?_) (fun _ => ?_) | refine t8 ?_ | refine tI ?_ | refine tU ?_ | refine tA ?_ | refine tB ?_ | refine tL ?_ | refine tN ?_ | fail "no step")
    exact ⟨rfl, TLe.rfl, rfl, rfl⟩
theorem name_c (s : PS) (h : s.i < L.length) (hn : L.length ≤ 1000000) : C0 L m 66 [] (nameM L) (fun w => Tstr (bs w)) s := by
  have hi := named_c (m := m) s.i h
  refine C0.of fun T hT => ?_
  unfold nameM at hT
  rcases hv : namedV L s.i with _ | _ <;> rw [hv] at hi hT
  · obtain rfl : PR.err s.i 4 = T := hT
    refine fn_ruleP (C := ⟨Tryz.prog, layF, Tryz.f66.ntmps, ΓL, 2, [], []⟩) layF_ok mixed Tryz.func66 rfl (by kernel_rfl) rfl rfl rfl SLe.rfl ?_
    refine ex_callM (CallsM.ren (hi) [0, 1] 2 rfl rfl rfl rfl) ?_
    repeat' (first | refine tT ?_ | refine tF ?_ | refine ex_dec (fun _ => ?_) (fun _ => ?_) | refine t8 ?_ | refine tI ?_ | refine tU ?_ | refine tA ?_ | refine tB ?_ | refine tL ?_ | refine tN ?_ | fail "no step")
    refine ex_callM (CallsM.ren ((fail_c s.i 4 h)) [0, 1] 2 rfl rfl rfl rfl) ?_
    exact ⟨⟨_, rfl, rfl⟩, rfl, rfl⟩
  · obtain rfl : PR.ok (tk L s.i).t { s with i := s.i + 1 } = T := hT
    refine fn_ruleP (C := ⟨Tryz.prog, layF, Tryz.f66.ntmps, ΓL, 2, [], []⟩) layF_ok mixed Tryz.func66 rfl (by kernel_rfl) rfl rfl rfl SLe.rfl ?_
    refine ex_callM (CallsM.ren (hi) [0, 1] 2 rfl rfl rfl rfl) ?_
    repeat' (first | refine ex_i64 ((s.i : Nat) : Int) (by omega) (by omega) (by omega) ?_ | refine ex_u64 ((s.i : Nat) : Int) (by omega) (by omega) (by omega) ?_ | refine ex_u8 ((s.i : Nat) : Int) (by omega) (by omega) (by omega) ?_ | refine ex_i64 ((s.i + 1 : Nat) : Int) (by omega) (by omega) (by omega) ?_ | refine ex_u64 ((s.i + 1 : Nat) : Int) (by omega) (by omega) (by omega) ?_ | refine ex_u8 ((s.i + 1 : Nat) : Int) (by omega) (by omega) (by omega) ?_ | refine (ex_row s.i _ rfl (tk_at h)) ?_ | refine tT ?_ | refine tF ?_ | refine ex_dec (fun _ => ?_) (fun _ => ?_) | refine t8 ?_ | refine tI ?_ | refine tU ?_ | refine tA ?_ | refine tB ?_ | refine tL ?_ | refine tN ?_ | fail "no step")
    exact ⟨rfl, TLe.rfl, rfl, rfl⟩
theorem num_c (s : PS) (h : s.i < L.length) (hn : L.length ≤ 1000000) : C0 L m 67 [] (numberM L) (fun n => Tu n) s := by
  have ha := ahead_c (L := L) (m := m) s.i h
  refine C0.of fun T hT => ?_
  unfold numberM at hT
  by_cases hv : (tk L s.i).k = 1
  · rw [if_pos hv] at hT
    subst hT
    refine fn_ruleP (C := ⟨Tryz.prog, layF, Tryz.f67.ntmps, ΓL, 2, [], []⟩) layF_ok mixed Tryz.func67 rfl (by kernel_rfl) rfl rfl rfl SLe.rfl ?_
    refine ex_callM (CallsM.ren (ha) [0, 1] 2 rfl rfl rfl rfl) ?_
    repeat' (first | refine ex_i64 ((s.i : Nat) : Int) (by omega) (by omega) (by omega) ?_ | refine ex_u64 ((s.i : Nat) : Int) (by omega) (by omega) (by omega) ?_ | refine ex_u8 ((s.i : Nat) : Int) (by omega) (by omega) (by omega) ?_ | refine ex_i64 ((s.i + 1 : Nat) : Int) (by omega) (by omega) (by omega) ?_ | refine ex_u64 ((s.i + 1 : Nat) : Int) (by omega) (by omega) (by omega) ?_ | refine ex_u8 ((s.i + 1 : Nat) : Int) (by omega) (by omega) (by omega) ?_ | refine (ex_row s.i _ rfl (tk_at h)) ?_ | refine tT ?_ | refine tF ?_ | refine ex_dec (fun _ => ?_) (fun _ => ?_) | refine t8 ?_ | refine tI ?_ | refine tU ?_ | refine tA ?_ | refine tB ?_ | refine tL ?_ | refine tN ?_ | fail "no step")
    exact ⟨rfl, TLe.rfl, rfl, rfl⟩
  · rw [if_neg hv] at hT
    obtain rfl : PR.err s.i 4 = T := hT
    refine fn_ruleP (C := ⟨Tryz.prog, layF, Tryz.f67.ntmps, ΓL, 2, [], []⟩) layF_ok mixed Tryz.func67 rfl (by kernel_rfl) rfl rfl rfl SLe.rfl ?_
    refine ex_callM (CallsM.ren (ha) [0, 1] 2 rfl rfl rfl rfl) ?_
    repeat' (first | refine tT ?_ | refine tF ?_ | refine ex_dec (fun _ => ?_) (fun _ => ?_) | refine t8 ?_ | refine tI ?_ | refine tU ?_ | refine tA ?_ | refine tB ?_ | refine tL ?_ | refine tN ?_ | fail "no step")
    refine ex_callM (CallsM.ren ((fail_c s.i 4 h)) [0, 1] 2 rfl rfl rfl rfl) ?_
    exact ⟨⟨_, rfl, rfl⟩, rfl, rfl⟩
theorem room_c (s : PS) (h : s.i < L.length) (n : Nat) (hn : n ≤ 1000000) : C0 L m 48 [c1 (di n), c1 (di 64)] (roomM n) (fun _ => .tup []) s := by
  refine C0.of fun T hT => ?_
  unfold roomM at hT
  by_cases hv : 64 ≤ n
  · rw [if_pos hv] at hT
    obtain rfl : PR.err s.i 10 = T := hT
    refine fn_ruleP (C := ⟨Tryz.prog, layF, Tryz.f48.ntmps, ΓL, 2, [], []⟩) layF_ok mixed Tryz.func48 rfl (by kernel_rfl) rfl rfl rfl SLe.rfl ?_
    repeat' (first | refine tT ?_ | refine tF ?_ | refine ex_dec (fun _ => ?_) (fun _ => ?_) | refine t8 ?_ | refine tI ?_ | refine tU ?_ | refine tA ?_ | refine tB ?_ | refine tL ?_ | refine tN ?_ | fail "no step")
    refine ex_callM (CallsM.ren ((fail_c s.i 10 h)) [0, 1] 2 rfl rfl rfl rfl) ?_
    exact ⟨⟨_, rfl, rfl⟩, rfl, rfl⟩
  · rw [if_neg hv] at hT
    subst hT
    refine fn_ruleP (C := ⟨Tryz.prog, layF, Tryz.f48.ntmps, ΓL, 2, [], []⟩) layF_ok mixed Tryz.func48 rfl (by kernel_rfl) rfl rfl rfl SLe.rfl ?_
    repeat' (first | refine tT ?_ | refine tF ?_ | refine ex_dec (fun _ => ?_) (fun _ => ?_) | refine t8 ?_ | refine tI ?_ | refine tU ?_ | refine tA ?_ | refine tB ?_ | refine tL ?_ | refine tN ?_ | fail "no step")
    exact ⟨rfl, TLe.rfl, rfl, rfl⟩
theorem begins_c (i : Nat) (h : i < L.length) : CallsM Tryz.prog ΓL 133 [(0, Qz L m i)] 2 [P0] (Tb (beginsV L i)) [(0, Qz L m i)] [] := by
  have ha := ahead_c (L := L) (m := m) i h
  have h1 := is_c (m := m) i h t_bang
  have h2 := is_c (m := m) i h t_lpar
  have h3 := named_c (m := m) i h
  unfold beginsV
  generalize isV L i t_bang = a at *
  generalize isV L i t_lpar = b at *
  generalize namedV L i = c at *
  generalize tk L i = u at *
  cases a
  · cases b
    · cases c
      · by_cases h4 : u.k = 1
        · rw [decide_eq_true h4]
          refine fn_ruleM (C := ⟨Tryz.prog, layF, Tryz.f133.ntmps, ΓL, 2, [], []⟩) layF_ok mixed Tryz.func133 rfl (by kernel_rfl) rfl rfl rfl ?_
          refine ex_callM (CallsM.ren (h1) [0, 1] 2 rfl rfl rfl rfl) ?_
          repeat' (first | refine tT ?_ | refine tF ?_ | refine ex_dec (fun _ => ?_) (fun _ => ?_) | refine t8 ?_ | refine tI ?_ | refine tU ?_ | refine tA ?_ | refine tB ?_ | refine tL ?_ | refine tN ?_ | fail "no step")
          refine ex_callM (CallsM.ren (h2) [0, 1] 2 rfl rfl rfl rfl) ?_
          repeat' (first | refine tT ?_ | refine tF ?_ | refine ex_dec (fun _ => ?_) (fun _ => ?_) | refine t8 ?_ | refine tI ?_ | refine tU ?_ | refine tA ?_ | refine tB ?_ | refine tL ?_ | refine tN ?_ | fail "no step")
          refine ex_callM (CallsM.ren (h3) [0, 1] 2 rfl rfl rfl rfl) ?_
          repeat' (first | refine tT ?_ | refine tF ?_ | refine ex_dec (fun _ => ?_) (fun _ => ?_) | refine t8 ?_ | refine tI ?_ | refine tU ?_ | refine tA ?_ | refine tB ?_ | refine tL ?_ | refine tN ?_ | fail "no step")
          refine ex_callM (CallsM.ren (ha) [0, 1] 2 rfl rfl rfl rfl) ?_
          repeat' (first | refine tT ?_ | refine tF ?_ | refine ex_dec (fun _ => ?_) (fun _ => ?_) | refine t8 ?_ | refine tI ?_ | refine tU ?_ | refine tA ?_ | refine tB ?_ | refine tL ?_ | refine tN ?_ | fail "no step")
          exact ⟨rfl, TLe.rfl, rfl, rfl⟩
        · rw [decide_eq_false h4]
          refine fn_ruleM (C := ⟨Tryz.prog, layF, Tryz.f133.ntmps, ΓL, 2, [], []⟩) layF_ok mixed Tryz.func133 rfl (by kernel_rfl) rfl rfl rfl ?_
          refine ex_callM (CallsM.ren (h1) [0, 1] 2 rfl rfl rfl rfl) ?_
          repeat' (first | refine tT ?_ | refine tF ?_ | refine ex_dec (fun _ => ?_) (fun _ => ?_) | refine t8 ?_ | refine tI ?_ | refine tU ?_ | refine tA ?_ | refine tB ?_ | refine tL ?_ | refine tN ?_ | fail "no step")
          refine ex_callM (CallsM.ren (h2) [0, 1] 2 rfl rfl rfl rfl) ?_
          repeat' (first | refine tT ?_ | refine tF ?_ | refine ex_dec (fun _ => ?_) (fun _ => ?_) | refine t8 ?_ | refine tI ?_ | refine tU ?_ | refine tA ?_ | refine tB ?_ | refine tL ?_ | refine tN ?_ | fail "no step")
          refine ex_callM (CallsM.ren (h3) [0, 1] 2 rfl rfl rfl rfl) ?_
          repeat' (first | refine tT ?_ | refine tF ?_ | refine ex_dec (fun _ => ?_) (fun _ => ?_) | refine t8 ?_ | refine tI ?_ | refine tU ?_ | refine tA ?_ | refine tB ?_ | refine tL ?_ | refine tN ?_ | fail "no step")
          refine ex_callM (CallsM.ren (ha) [0, 1] 2 rfl rfl rfl rfl) ?_
          repeat' (first | refine tT ?_ | refine tF ?_ | refine ex_dec (fun _ => ?_) (fun _ => ?_) | refine t8 ?_ | refine tI ?_ | refine tU ?_ | refine tA ?_ | refine tB ?_ | refine tL ?_ | refine tN ?_ | fail "no step")
          exact ⟨rfl, TLe.rfl, rfl, rfl⟩
      ·
        refine fn_ruleM (C := ⟨Tryz.prog, layF, Tryz.f133.ntmps, ΓL, 2, [], []⟩) layF_ok mixed Tryz.func133 rfl (by kernel_rfl) rfl rfl rfl ?_
        refine ex_callM (CallsM.ren (h1) [0, 1] 2 rfl rfl rfl rfl) ?_
        repeat' (first | refine tT ?_ | refine tF ?_ | refine ex_dec (fun _ => ?_) (fun _ => ?_) | refine t8 ?_ | refine tI ?_ | refine tU ?_ | refine tA ?_ | refine tB ?_ | refine tL ?_ | refine tN ?_ | fail "no step")
        refine ex_callM (CallsM.ren (h2) [0, 1] 2 rfl rfl rfl rfl) ?_
        repeat' (first | refine tT ?_ | refine tF ?_ | refine ex_dec (fun _ => ?_) (fun _ => ?_) | refine t8 ?_ | refine tI ?_ | refine tU ?_ | refine tA ?_ | refine tB ?_ | refine tL ?_ | refine tN ?_ | fail "no step")
        refine ex_callM (CallsM.ren (h3) [0, 1] 2 rfl rfl rfl rfl) ?_
        repeat' (first | refine tT ?_ | refine tF ?_ | refine ex_dec (fun _ => ?_) (fun _ => ?_) | refine t8 ?_ | refine tI ?_ | refine tU ?_ | refine tA ?_ | refine tB ?_ | refine tL ?_ | refine tN ?_ | fail "no step")
        exact ⟨rfl, TLe.rfl, rfl, rfl⟩
    ·
      refine fn_ruleM (C := ⟨Tryz.prog, layF, Tryz.f133.ntmps, ΓL, 2, [], []⟩) layF_ok mixed Tryz.func133 rfl (by kernel_rfl) rfl rfl rfl ?_
      refine ex_callM (CallsM.ren (h1) [0, 1] 2 rfl rfl rfl rfl) ?_
      repeat' (first | refine tT ?_ | refine tF ?_ | refine ex_dec (fun _ => ?_) (fun _ => ?_) | refine t8 ?_ | refine tI ?_ | refine tU ?_ | refine tA ?_ | refine tB ?_ | refine tL ?_ | refine tN ?_ | fail "no step")
      refine ex_callM (CallsM.ren (h2) [0, 1] 2 rfl rfl rfl rfl) ?_
      repeat' (first | refine tT ?_ | refine tF ?_ | refine ex_dec (fun _ => ?_) (fun _ => ?_) | refine t8 ?_ | refine tI ?_ | refine tU ?_ | refine tA ?_ | refine tB ?_ | refine tL ?_ | refine tN ?_ | fail "no step")
      exact ⟨rfl, TLe.rfl, rfl, rfl⟩
  ·
    refine fn_ruleM (C := ⟨Tryz.prog, layF, Tryz.f133.ntmps, ΓL, 2, [], []⟩) layF_ok mixed Tryz.func133 rfl (by kernel_rfl) rfl rfl rfl ?_
    refine ex_callM (CallsM.ren (h1) [0, 1] 2 rfl rfl rfl rfl) ?_
    repeat' (first | refine tT ?_ | refine tF ?_ | refine ex_dec (fun _ => ?_) (fun _ => ?_) | refine t8 ?_ | refine tI ?_ | refine tU ?_ | refine tA ?_ | refine tB ?_ | refine tL ?_ | refine tN ?_ | fail "no step")
    exact ⟨rfl, TLe.rfl, rfl, rfl⟩
set_option maxHeartbeats 4000000 in
theorem starts_c (i : Nat) (h : i < L.length) : CallsM Tryz.prog ΓL 109 [(0, Qz L m i)] 2 [P0] (Tb (startsV L i)) [(0, Qz L m i)] [] := by
  have ha := ahead_c (L := L) (m := m) i h
  have h3 := named_c (m := m) i h
  unfold startsV
  generalize namedV L i = c at *
  generalize tk L i = u at *
  obtain ⟨w, hw⟩ : ∃ w, u.t = w := ⟨_, rfl⟩
  simp only [tokD, hw] at ha
  rw [hw]
  cases c
  · rw [Bool.false_or]
    by_cases h4 : u.k = 0
    · rw [decide_eq_true h4, Bool.true_and]
      by_cases hm : w ∈ typesL
      · rw [List.contains_iff_mem.2 hm, Bool.true_or]
        simp only [typesL, List.mem_cons, List.not_mem_nil, or_false] at hm
        rcases hm with rfl | rfl | rfl | rfl | rfl | rfl | rfl | rfl | rfl
        all_goals
          refine fn_ruleM (C := ⟨Tryz.prog, layF, Tryz.f109.ntmps, ΓL, 2, [], []⟩) layF_ok mixed Tryz.func109 rfl (by kernel_rfl) rfl rfl rfl ?_
          refine ex_callM (CallsM.ren (h3) [0, 1] 2 rfl rfl rfl rfl) ?_
          repeat' (first | refine tT ?_ | refine tF ?_ | refine ex_dec (fun _ => ?_) (fun _ => ?_) | refine t8 ?_ | refine tI ?_ | refine tU ?_ | refine tA ?_ | refine tB ?_ | refine tL ?_ | refine tN ?_ | fail "no step")
          refine ex_callM (CallsM.ren (ha) [0, 1] 2 rfl rfl rfl rfl) ?_
          repeat' (first | refine tT ?_ | refine tF ?_ | refine ex_dec (fun _ => ?_) (fun _ => ?_) | refine t8 ?_ | refine tI ?_ | refine tU ?_ | refine tA ?_ | refine tB ?_ | refine tL ?_ | refine tN ?_ | fail "no step")
          refine ex_callM (CallsM.ren (ha) [0, 1] 2 rfl rfl rfl rfl) ?_
          repeat' (first | refine tT ?_ | refine tF ?_ | refine ex_dec (fun _ => ?_) (fun _ => ?_) | refine t8 ?_ | refine tI ?_ | refine tU ?_ | refine tA ?_ | refine tB ?_ | refine tL ?_ | refine tN ?_ | fail "no step")
          exact ⟨rfl, TLe.rfl, rfl, rfl⟩
      · have hne : ∀ l, l ∈ typesL → ¬ bs w = bs l := fun l hl he => hm (by rw [bsj.1 he]; exact hl)
        rw [show typesL.contains w = false by simpa using hm, Bool.false_or]
        have hc := (integer_c w).gL
        rcases hv : integerV w with _ | ⟨n, l⟩ <;> rw [hv] at hc
        · have hc : CallsA Tryz.prog ΓL 12 [c1 (ds (bs w))] (.tup [c1 (di 0), c1 (db false), c1 (db false)]) := hc
          refine fn_ruleM (C := ⟨Tryz.prog, layF, Tryz.f109.ntmps, ΓL, 2, [], []⟩) layF_ok mixed Tryz.func109 rfl (by kernel_rfl) rfl rfl rfl ?_
          refine ex_callM (CallsM.ren (h3) [0, 1] 2 rfl rfl rfl rfl) ?_
          repeat' (first | refine tT ?_ | refine tF ?_ | refine ex_dec (fun _ => ?_) (fun _ => ?_) | refine t8 ?_ | refine tI ?_ | refine tU ?_ | refine tA ?_ | refine tB ?_ | refine tL ?_ | refine tN ?_ | fail "no step")
          refine ex_callM (CallsM.ren (ha) [0, 1] 2 rfl rfl rfl rfl) ?_
          repeat' (first | refine tT ?_ | refine tF ?_ | refine ex_dec (fun _ => ?_) (fun _ => ?_) | refine t8 ?_ | refine tI ?_ | refine tU ?_ | refine tA ?_ | refine tB ?_ | refine tL ?_ | refine tN ?_ | fail "no step")
          refine ex_callM (CallsM.ren (ha) [0, 1] 2 rfl rfl rfl rfl) ?_
          repeat' (first | refine ex_call hc ?_ | refine ex_false (hne _ (by decide)) ?_ | refine tT ?_ | refine tF ?_ | refine ex_dec (fun _ => ?_) (fun _ => ?_) | refine t8 ?_ | refine tI ?_ | refine tU ?_ | refine tA ?_ | refine tB ?_ | refine tL ?_ | refine tN ?_ | fail "no step")
          exact ⟨rfl, TLe.rfl, rfl, rfl⟩
        · have hc : CallsA Tryz.prog ΓL 12 [c1 (ds (bs w))] (.tup [c1 (di n), c1 (db l), c1 (db true)]) := hc
          refine fn_ruleM (C := ⟨Tryz.prog, layF, Tryz.f109.ntmps, ΓL, 2, [], []⟩) layF_ok mixed Tryz.func109 rfl (by kernel_rfl) rfl rfl rfl ?_
          refine ex_callM (CallsM.ren (h3) [0, 1] 2 rfl rfl rfl rfl) ?_
          repeat' (first | refine tT ?_ | refine tF ?_ | refine ex_dec (fun _ => ?_) (fun _ => ?_) | refine t8 ?_ | refine tI ?_ | refine tU ?_ | refine tA ?_ | refine tB ?_ | refine tL ?_ | refine tN ?_ | fail "no step")
          refine ex_callM (CallsM.ren (ha) [0, 1] 2 rfl rfl rfl rfl) ?_
          repeat' (first | refine tT ?_ | refine tF ?_ | refine ex_dec (fun _ => ?_) (fun _ => ?_) | refine t8 ?_ | refine tI ?_ | refine tU ?_ | refine tA ?_ | refine tB ?_ | refine tL ?_ | refine tN ?_ | fail "no step")
          refine ex_callM (CallsM.ren (ha) [0, 1] 2 rfl rfl rfl rfl) ?_
          repeat' (first | refine ex_call hc ?_ | refine ex_false (hne _ (by decide)) ?_ | refine tT ?_ | refine tF ?_ | refine ex_dec (fun _ => ?_) (fun _ => ?_) | refine t8 ?_ | refine tI ?_ | refine tU ?_ | refine tA ?_ | refine tB ?_ | refine tL ?_ | refine tN ?_ | fail "no step")
          exact ⟨rfl, TLe.rfl, rfl, rfl⟩
    · rw [decide_eq_false h4, Bool.false_and]
      refine fn_ruleM (C := ⟨Tryz.prog, layF, Tryz.f109.ntmps, ΓL, 2, [], []⟩) layF_ok mixed Tryz.func109 rfl (by kernel_rfl) rfl rfl rfl ?_
      refine ex_callM (CallsM.ren (h3) [0, 1] 2 rfl rfl rfl rfl) ?_
      repeat' (first | refine tT ?_ | refine tF ?_ | refine ex_dec (fun _ => ?_) (fun _ => ?_) | refine t8 ?_ | refine tI ?_ | refine tU ?_ | refine tA ?_ | refine tB ?_ | refine tL ?_ | refine tN ?_ | fail "no step")
      refine ex_callM (CallsM.ren (ha) [0, 1] 2 rfl rfl rfl rfl) ?_
      repeat' (first | refine tT ?_ | refine tF ?_ | refine ex_dec (fun _ => ?_) (fun _ => ?_) | refine t8 ?_ | refine tI ?_ | refine tU ?_ | refine tA ?_ | refine tB ?_ | refine tL ?_ | refine tN ?_ | fail "no step")
      exact ⟨rfl, TLe.rfl, rfl, rfl⟩
  · rw [Bool.true_or]
    refine fn_ruleM (C := ⟨Tryz.prog, layF, Tryz.f109.ntmps, ΓL, 2, [], []⟩) layF_ok mixed Tryz.func109 rfl (by kernel_rfl) rfl rfl rfl ?_
    refine ex_callM (CallsM.ren (h3) [0, 1] 2 rfl rfl rfl rfl) ?_
    repeat' (first | refine tT ?_ | refine tF ?_ | refine ex_dec (fun _ => ?_) (fun _ => ?_) | refine t8 ?_ | refine tI ?_ | refine tU ?_ | refine tA ?_ | refine tB ?_ | refine tL ?_ | refine tN ?_ | fail "no step")
    exact ⟨rfl, TLe.rfl, rfl, rfl⟩
end
end Go.Proofs.YtkbhmcdoedmffaaGreatDoor
