/- Texts that the last one leans on: The types' table of this program, as literals. No condition. Rules for walking code over the abstract state. No condition. A row that is written no more is data wherever it is named. No condition. A walk by itself: tests are split (those that cannot be are left away), reckonings that stay within bounds, ends of drawing regions, calls met by the contracts named. No condition. A function whose first result is a row of its own, kept as a row. No condition. A function whose results keep their names: pointers to objects, rows. No condition. Data that reads as other data; a contract met with such arguments. No condition. A function of data whose result is flat, called with rows that stay with their names. No condition. A name that is given up; a row under a new name. No condition. A function that may panic: the memory it was handed is then given up. Its first state may be told in other words. No condition. A function whose one deferred closure recovers. No condition. A function with one deferred closure that recovers and an early end, whose results may be pointers to still cells; an object that is written no more. No condition. General lemmas that this repo's proofs share: the class of worlds that extend a world, a region that draws its order walked once in that class, small closers. No condition. What every law's row needs: from 'the call returns true and only makes memory' to the row's own words; arguments opened by their types. No condition. Pla -/
import Derived.Test.YtkbhmcdoedmffaaDoorRows
import Derived.Defers
import Derived.Recover
import Derived.WalkKit
import Derived.WalkSpells
import Derived.WalkLawsBesides
import Derived.BigQuiet
import Derived.Lib.Hide
import Derived.Handy
import Derived.StillTail
import Derived.Lib.ConvBytes
import Derived.ProofKit
import Derived.SizedLaws
import Derived.OpenShut
import Derived.Shelf.Strings.Trim
import Derived.Shelf.Small.Utf8
import Derived.Shelf.Small.Strs
import Derived.Shelf.Small.Wraps
import Derived.Shelf.Strconv.Itoa0
import Derived.Shelf.Strconv.Itoa1
import Derived.Shelf.LaysM
import Derived.Shelf.Strconv.Itoa2
import Derived.Shelf.Strconv.Itoa3
import Derived.Shelf.Strconv.Clone
import Derived.Shelf.Strconv.SyntaxError
import Derived.Shelf.LaysC
import Derived.Shelf.Strconv.ToError
import Derived.Shelf.Strconv.Lower
import Derived.Shelf.Strconv.ParseUint10
import Derived.Shelf.Strconv.ParseUint10Empty
import Derived.Shelf.Strconv.ParseUint10Any
import Derived.Shelf.Strconv.RangeError
import Derived.Shelf.Strconv.ToErrorRange
import Derived.Shelf.Strconv.ParseUintEmpty
import Derived.Shelf.Strconv.ParseUint10b64
import Derived.Shelf.Strconv.ParseUint10b32
import Derived.Shelf.Strconv.ParseUint10b16
import Derived.Shelf.Strconv.ParseUint10b8
import Derived.Shelf.Strconv.ParseUint10At
import Derived.Ground.MpProg
import Derived.Shelf.Pu.ParseUintPublic10
import Derived.Shelf.Pu.ErrVarParseUint
import Derived.Shelf.Strings.Search1
import Derived.Shelf.Strings.Search2
import Derived.Shelf.Strings.Cut
import Derived.Shelf.Strings.Shaped
import Derived.Shelf.Strings.Prefix
import Derived.Shelf.Unicode.Decode
import Derived.Shelf.Strings.Runes
import Derived.Shelf.Strings.AsciiSet
import Derived.Shelf.Unicode.DecodeSlow
import Derived.Shelf.Unicode.DecodeAny
import Derived.Test.YtkbhmcdoedmffaaDoorProg
import Derived.Shelf.Strings.SlTrimAscii
import Derived.Test.YtkbhmcdoedmffaaDoorBnd1
import Derived.Test.YtkbhmcdoedmffaaDoorBnd2
namespace Go.Proofs.YtkbhmcdoedmffaaDoor
set_option linter.unusedVariables false
set_option linter.unusedSimpArgs false

def lay : List (Nat × Lay) := [
  (1, ⟨1, 8, [.nilFunc], .other⟩),
  (2, ⟨1, 8, [.int .i64 0], .int .i64⟩),
  (3, ⟨1, 8, [.int .i64 0], .int .i64⟩),
  (4, ⟨1, 1, [.bool false], .bool⟩),
  (5, ⟨1, 1, [.int .u8 0], .int .u8⟩),
  (6, ⟨1, 1, [.int .u8 0], .int .u8⟩),
  (7, ⟨4, 24, [.int .i64 0, .int .i64 0, .bool false, .int .u8 0], .st [(0, 1, false), (1, 1, false), (2, 1, false), (3, 1, false)]⟩),
  (8, ⟨4, 24, [.int .i64 0, .int .i64 0, .bool false, .int .u8 0], .st [(0, 1, false), (1, 1, false), (2, 1, false), (3, 1, false)]⟩),
  (9, ⟨1, 16, [.string ⟨#[]⟩], .str⟩),
  (10, ⟨1, 16, [.string ⟨#[]⟩], .str⟩),
  (11, ⟨1, 16, [.string ⟨#[]⟩], .str⟩),
  (12, ⟨1, 8, [.int .u64 0], .int .u64⟩),
  (13, ⟨2, 24, [.string ⟨#[]⟩, .int .u64 0], .st [(0, 1, false), (1, 1, false)]⟩),
  (14, ⟨2, 24, [.string ⟨#[]⟩, .int .u64 0], .st [(0, 1, false), (1, 1, false)]⟩),
  (15, ⟨1, 8, [.pointer none], .other⟩),
  (16, ⟨1, 8, [.pointer none], .other⟩),
  (17, ⟨1, 8, [.pointer none], .other⟩),
  (18, ⟨1, 8, [.pointer none], .st [(0, 1, false)]⟩),
  (19, ⟨1, 8, [.pointer none], .st [(0, 1, false)]⟩),
  (20, ⟨1, 16, [.nilIface], .other⟩),
  (21, ⟨1, 4, [.int .i32 0], .int .i32⟩),
  (22, ⟨1, 8, [.pointer none], .other⟩),
  (23, ⟨2, 16, [.int .i64 0, .int .i64 0], .st [(0, 1, false), (1, 1, false)]⟩),
  (24, ⟨2, 16, [.int .i64 0, .int .i64 0], .st [(0, 1, false), (1, 1, false)]⟩),
  (25, ⟨1, 8, [.int .i64 0], .int .i64⟩),
  (27, ⟨1, 8, [.nilFunc], .other⟩),
  (28, ⟨1, 8, [.nilFunc], .other⟩),
  (29, ⟨1, 24, [.slice none 0 0], .sl 37⟩),
  (30, ⟨1, 24, [.slice none 0 0], .sl 41⟩),
  (31, ⟨1, 24, [.slice none 0 0], .sl 50⟩),
  (32, ⟨1, 24, [.slice none 0 0], .sl 47⟩),
  (33, ⟨4, 96, [.slice none 0 0, .slice none 0 0, .slice none 0 0, .slice none 0 0], .st [(0, 1, false), (1, 1, false), (2, 1, false), (3, 1, false)]⟩),
  (34, ⟨4, 96, [.slice none 0 0, .slice none 0 0, .slice none 0 0, .slice none 0 0], .st [(0, 1, false), (1, 1, false), (2, 1, false), (3, 1, false)]⟩),
  (35, ⟨1, 8, [.int .u64 0], .int .u64⟩),
  (36, ⟨2, 24, [.string ⟨#[]⟩, .int .u64 0], .st [(0, 1, false), (1, 1, false)]⟩),
  (37, ⟨2, 24, [.string ⟨#[]⟩, .int .u64 0], .st [(0, 1, false), (1, 1, false)]⟩),
  (38, ⟨1, 24, [.slice none 0 0], .sl 9⟩),
  (39, ⟨1, 24, [.slice none 0 0], .sl 90⟩),
  (40, ⟨3, 64, [.string ⟨#[]⟩, .slice none 0 0, .slice none 0 0], .st [(0, 1, false), (1, 1, false), (2, 1, false)]⟩),
  (41, ⟨3, 64, [.string ⟨#[]⟩, .slice none 0 0, .slice none 0 0], .st [(0, 1, false), (1, 1, false), (2, 1, false)]⟩),
  (42, ⟨1, 8, [.nilFunc], .other⟩),
  (43, ⟨1, 8, [.int .i64 0], .int .i64⟩),
  (44, ⟨1, 24, [.slice none 0 0], .sl 3⟩),
  (45, ⟨1, 24, [.slice none 0 0], .sl 136⟩),
  (46, ⟨8, 104, [.int .i64 0, .int .i64 0, .bool false, .string ⟨#[]⟩, .slice none 0 0, .int .i64 0, .int .i64 0, .slice none 0 0], .st [(0, 1, false), (1, 1, false), (2, 1, false), (3, 1, false), (4, 1, false), (5, 1, false), (6, 1, false), (7, 1, false)]⟩),
  (47, ⟨8, 104, [.int .i64 0, .int .i64 0, .bool false, .string ⟨#[]⟩, .slice none 0 0, .int .i64 0, .int .i64 0, .slice none 0 0], .st [(0, 1, false), (1, 1, false), (2, 1, false), (3, 1, false), (4, 1, false), (5, 1, false), (6, 1, false), (7, 1, false)]⟩),
  (48, ⟨1, 8, [.int .i64 0], .int .i64⟩),
  (49, ⟨5, 72, [.int .i64 0, .string ⟨#[]⟩, .int .u64 0, .string ⟨#[]⟩, .slice none 0 0], .st [(0, 1, false), (1, 1, false), (2, 1, false), (3, 1, false), (4, 1, false)]⟩),
  (50, ⟨5, 72, [.int .i64 0, .string ⟨#[]⟩, .int .u64 0, .string ⟨#[]⟩, .slice none 0 0], .st [(0, 1, false), (1, 1, false), (2, 1, false), (3, 1, false), (4, 1, false)]⟩),
  (51, ⟨1, 8, [.nilFunc], .other⟩),
  (52, ⟨1, 8, [.nilFunc], .other⟩),
  (53, ⟨1, 24, [.slice none 0 0], .sl 67⟩),
  (55, ⟨1, 8, [.nilFunc], .other⟩),
  (56, ⟨3, 24, [.int .i64 0, .int .i64 0, .int .i64 0], .st [(0, 2, true), (2, 1, false)]⟩),
  (57, ⟨3, 24, [.int .i64 0, .int .i64 0, .int .i64 0], .st [(0, 2, true), (2, 1, false)]⟩),
  (58, ⟨1, 8, [.pointer none], .other⟩),
  (59, ⟨4, 48, [.slice none 0 0, .int .i64 0, .int .i64 0, .pointer none], .st [(0, 1, false), (1, 1, false), (2, 1, false), (3, 1, false)]⟩),
  (60, ⟨4, 48, [.slice none 0 0, .int .i64 0, .int .i64 0, .pointer none], .st [(0, 1, false), (1, 1, false), (2, 1, false), (3, 1, false)]⟩),
  (61, ⟨1, 8, [.nilFunc], .other⟩),
  (62, ⟨1, 8, [.pointer none], .other⟩),
  (63, ⟨3, 32, [.string ⟨#[]⟩, .int .i64 0, .int .i64 0], .st [(0, 1, false), (1, 2, true)]⟩),
  (64, ⟨3, 32, [.string ⟨#[]⟩, .int .i64 0, .int .i64 0], .st [(0, 1, false), (1, 2, true)]⟩),
  (65, ⟨1, 8, [.int .i64 0], .int .i64⟩),
  (66, ⟨5, 48, [.int .i64 0, .string ⟨#[]⟩, .int .u64 0, .int .i64 0, .int .i64 0], .st [(0, 1, false), (1, 1, false), (2, 1, false), (3, 2, true)]⟩),
  (67, ⟨5, 48, [.int .i64 0, .string ⟨#[]⟩, .int .u64 0, .int .i64 0, .int .i64 0], .st [(0, 1, false), (1, 1, false), (2, 1, false), (3, 2, true)]⟩),
  (69, ⟨1, 8, [.nilFunc], .other⟩),
  (70, ⟨1, 8, [.nilFunc], .other⟩),
  (71, ⟨1, 8, [.nilFunc], .other⟩),
  (72, ⟨1, 8, [.nilFunc], .other⟩),
  (73, ⟨1, 8, [.nilFunc], .other⟩),
  (74, ⟨1, 8, [.nilFunc], .other⟩),
  (75, ⟨1, 8, [.nilFunc], .other⟩),
  (77, ⟨1, 8, [.nilFunc], .other⟩),
  (78, ⟨1, 8, [.nilFunc], .other⟩),
  (80, ⟨1, 8, [.nilFunc], .other⟩),
  (81, ⟨1, 8, [.nilFunc], .other⟩),
  (82, ⟨29, 464, [.string ⟨#[]⟩, .string ⟨#[]⟩, .string ⟨#[]⟩, .string ⟨#[]⟩, .string ⟨#[]⟩, .string ⟨#[]⟩, .string ⟨#[]⟩, .string ⟨#[]⟩, .string ⟨#[]⟩, .string ⟨#[]⟩, .string ⟨#[]⟩, .string ⟨#[]⟩, .string ⟨#[]⟩, .string ⟨#[]⟩, .string ⟨#[]⟩, .string ⟨#[]⟩, .string ⟨#[]⟩, .string ⟨#[]⟩, .string ⟨#[]⟩, .string ⟨#[]⟩, .string ⟨#[]⟩, .string ⟨#[]⟩, .string ⟨#[]⟩, .string ⟨#[]⟩, .string ⟨#[]⟩, .string ⟨#[]⟩, .string ⟨#[]⟩, .string ⟨#[]⟩, .string ⟨#[]⟩], .arr 29 9⟩),
  (83, ⟨1, 24, [.slice none 0 0], .sl 5⟩),
  (84, ⟨1, 8, [.nilFunc], .other⟩),
  (85, ⟨1, 8, [.nilFunc], .other⟩),
  (86, ⟨1, 8, [.nilFunc], .other⟩),
  (87, ⟨1, 8, [.int .i64 0], .int .i64⟩),
  (88, ⟨1, 24, [.slice none 0 0], .sl 103⟩),
  (89, ⟨9, 112, [.string ⟨#[]⟩, .int .i64 0, .int .i64 0, .string ⟨#[]⟩, .string ⟨#[]⟩, .int .i64 0, .int .i64 0, .bool false, .slice none 0 0], .st [(0, 1, false), (1, 1, false), (2, 1, false), (3, 1, false), (4, 1, false), (5, 1, false), (6, 1, false), (7, 1, false), (8, 1, false)]⟩),
  (90, ⟨9, 112, [.string ⟨#[]⟩, .int .i64 0, .int .i64 0, .string ⟨#[]⟩, .string ⟨#[]⟩, .int .i64 0, .int .i64 0, .bool false, .slice none 0 0], .st [(0, 1, false), (1, 1, false), (2, 1, false), (3, 1, false), (4, 1, false), (5, 1, false), (6, 1, false), (7, 1, false), (8, 1, false)]⟩),
  (91, ⟨1, 8, [.nilFunc], .other⟩),
  (92, ⟨5, 40, [.int .i64 0, .int .i64 0, .int .i64 0, .int .i64 0, .int .i64 0], .arr 5 3⟩),
  (93, ⟨2, 2, [.bool false, .bool false], .arr 2 4⟩),
  (94, ⟨1, 8, [.nilFunc], .other⟩),
  (95, ⟨1, 8, [.nilFunc], .other⟩),
  (97, ⟨1, 8, [.nilFunc], .other⟩),
  (98, ⟨1, 16, [.nilIface], .other⟩),
  (99, ⟨1, 16, [.nilIface], .other⟩),
  (101, ⟨1, 8, [.nilFunc], .other⟩),
  (102, ⟨2, 24, [.string ⟨#[]⟩, .int .i64 0], .st [(0, 1, false), (1, 1, false)]⟩),
  (103, ⟨2, 24, [.string ⟨#[]⟩, .int .i64 0], .st [(0, 1, false), (1, 1, false)]⟩),
  (104, ⟨1, 8, [.nilFunc], .other⟩),
  (105, ⟨1, 8, [.nilFunc], .other⟩),
  (106, ⟨1, 8, [.pointer none], .other⟩),
  (107, ⟨1, 8, [.nilFunc], .other⟩),
  (108, ⟨256, 256, [.bool false, .bool false, .bool false, .bool false, .bool false, .bool false, .bool false, .bool false, .bool false, .bool false, .bool false, .bool false, .bool false, .bool false, .bool false, .bool false, .bool false, .bool false, .bool false, .bool false, .bool false, .bool false, .bool false, .bool false, .bool false, .bool false, .bool false, .bool false, .bool false, .bool false, .bool false, .bool false, .bool false, .bool false, .bool false, .bool false, .bool false, .bool false, .bool false, .bool false, .bool false, .bool false, .bool false, .bool false, .bool false, .bool false, .bool false, .bool false, .bool false, .bool false, .bool false, .bool false, .bool false, .bool false, .bool false, .bool false, .bool false, .bool false, .bool false, .bool false, .bool false, .bool false, .bool false, .bool false, .bool false, .bool false, .bool false, .bool false, .bool false, .bool false, .bool false, .bool false, .bool false, .bool false, .bool false, .bool false, .bool false, .bool false, .bool false, .bool false, .bool false, .bool false, .bool false, .bool false, .bool false, .bool false, .bool false, .bool false, .bool false, .bool false, .bool false, .bool false, .bool false, .bool false, .bool false, .bool false, .bool false, .bool false, .bool false, .bool false, .bool false, .bool false, .bool false, .bool false, .bool false, .bool false, .bool false, .bool false, .bool false, .bool false, .bool false, .bool false, .bool false, .bool false, .bool false, .bool false, .bool false, .bool false, .bool false, .bool false, .bool false, .bool false, .bool false, .bool false, .bool false, .bool false, .bool false, .bool false, .bool false, .bool false, .bool false, .bool false, .bool false, .bool false, .bool false, .bool false, .bool false, .bool false, .bool false, .bool false, .bool false, .bool false, .bool false, .bool false, .bool false, .bool false, .bool false, .bool false, .bool false, .bool false, .bool false, .bool false, .bool false, .bool false, .bool false, .bool false, .bool false, .bool false, .bool false, .bool false, .bool false, .bool false, .bool false, .bool false, .bool false, .bool false, .bool false, .bool false, .bool false, .bool false, .bool false, .bool false, .bool false, .bool false, .bool false, .bool false, .bool false, .bool false, .bool false, .bool false, .bool false, .bool false, .bool false, .bool false, .bool false, .bool false, .bool false, .bool false, .bool false, .bool false, .bool false, .bool false, .bool false, .bool false, .bool false, .bool false, .bool false, .bool false, .bool false, .bool false, .bool false, .bool false, .bool false, .bool false, .bool false, .bool false, .bool false, .bool false, .bool false, .bool false, .bool false, .bool false, .bool false, .bool false, .bool false, .bool false, .bool false, .bool false, .bool false, .bool false, .bool false, .bool false, .bool false, .bool false, .bool false, .bool false, .bool false, .bool false, .bool false, .bool false, .bool false, .bool false, .bool false, .bool false, .bool false, .bool false, .bool false, .bool false, .bool false, .bool false, .bool false, .bool false, .bool false, .bool false, .bool false, .bool false, .bool false, .bool false, .bool false, .bool false, .bool false, .bool false, .bool false, .bool false, .bool false, .bool false], .arr 256 4⟩),
  (109, ⟨256, 256, [.bool false, .bool false, .bool false, .bool false, .bool false, .bool false, .bool false, .bool false, .bool false, .bool false, .bool false, .bool false, .bool false, .bool false, .bool false, .bool false, .bool false, .bool false, .bool false, .bool false, .bool false, .bool false, .bool false, .bool false, .bool false, .bool false, .bool false, .bool false, .bool false, .bool false, .bool false, .bool false, .bool false, .bool false, .bool false, .bool false, .bool false, .bool false, .bool false, .bool false, .bool false, .bool false, .bool false, .bool false, .bool false, .bool false, .bool false, .bool false, .bool false, .bool false, .bool false, .bool false, .bool false, .bool false, .bool false, .bool false, .bool false, .bool false, .bool false, .bool false, .bool false, .bool false, .bool false, .bool false, .bool false, .bool false, .bool false, .bool false, .bool false, .bool false, .bool false, .bool false, .bool false, .bool false, .bool false, .bool false, .bool false, .bool false, .bool false, .bool false, .bool false, .bool false, .bool false, .bool false, .bool false, .bool false, .bool false, .bool false, .bool false, .bool false, .bool false, .bool false, .bool false, .bool false, .bool false, .bool false, .bool false, .bool false, .bool false, .bool false, .bool false, .bool false, .bool false, .bool false, .bool false, .bool false, .bool false, .bool false, .bool false, .bool false, .bool false, .bool false, .bool false, .bool false, .bool false, .bool false, .bool false, .bool false, .bool false, .bool false, .bool false, .bool false, .bool false, .bool false, .bool false, .bool false, .bool false, .bool false, .bool false, .bool false, .bool false, .bool false, .bool false, .bool false, .bool false, .bool false, .bool false, .bool false, .bool false, .bool false, .bool false, .bool false, .bool false, .bool false, .bool false, .bool false, .bool false, .bool false, .bool false, .bool false, .bool false, .bool false, .bool false, .bool false, .bool false, .bool false, .bool false, .bool false, .bool false, .bool false, .bool false, .bool false, .bool false, .bool false, .bool false, .bool false, .bool false, .bool false, .bool false, .bool false, .bool false, .bool false, .bool false, .bool false, .bool false, .bool false, .bool false, .bool false, .bool false, .bool false, .bool false, .bool false, .bool false, .bool false, .bool false, .bool false, .bool false, .bool false, .bool false, .bool false, .bool false, .bool false, .bool false, .bool false, .bool false, .bool false, .bool false, .bool false, .bool false, .bool false, .bool false, .bool false, .bool false, .bool false, .bool false, .bool false, .bool false, .bool false, .bool false, .bool false, .bool false, .bool false, .bool false, .bool false, .bool false, .bool false, .bool false, .bool false, .bool false, .bool false, .bool false, .bool false, .bool false, .bool false, .bool false, .bool false, .bool false, .bool false, .bool false, .bool false, .bool false, .bool false, .bool false, .bool false, .bool false, .bool false, .bool false, .bool false, .bool false, .bool false, .bool false, .bool false, .bool false, .bool false, .bool false, .bool false, .bool false, .bool false, .bool false, .bool false, .bool false, .bool false, .bool false, .bool false, .bool false, .bool false], .arr 256 4⟩),
  (111, ⟨1, 8, [.nilFunc], .other⟩),
  (112, ⟨1, 8, [.nilFunc], .other⟩),
  (113, ⟨1, 8, [.pointer none], .other⟩),
  (115, ⟨1, 8, [.nilFunc], .other⟩),
  (116, ⟨1, 8, [.nilFunc], .other⟩),
  (117, ⟨1, 8, [.nilFunc], .other⟩),
  (118, ⟨1, 8, [.nilFunc], .other⟩),
  (120, ⟨1, 8, [.nilFunc], .other⟩),
  (121, ⟨1, 8, [.nilFunc], .other⟩),
  (122, ⟨1, 8, [.nilFunc], .other⟩),
  (123, ⟨1, 8, [.nilFunc], .other⟩),
  (125, ⟨1, 8, [.nilFunc], .other⟩),
  (126, ⟨1, 8, [.nilFunc], .other⟩),
  (127, ⟨1, 8, [.nilFunc], .other⟩),
  (128, ⟨1, 8, [.int .u64 0], .int .u64⟩),
  (129, ⟨1, 8, [.int .i64 0], .int .i64⟩),
  (130, ⟨1, 8, [.nilFunc], .other⟩),
  (131, ⟨1, 8, [.pointer none], .other⟩),
  (132, ⟨1, 8, [.nilFunc], .other⟩),
  (133, ⟨1, 8, [.nilFunc], .other⟩),
  (134, ⟨1, 8, [.nilFunc], .other⟩),
  (135, ⟨2, 16, [.int .u64 0, .int .i64 0], .st [(0, 1, false), (1, 1, false)]⟩),
  (136, ⟨2, 16, [.int .u64 0, .int .i64 0], .st [(0, 1, false), (1, 1, false)]⟩),
  (137, ⟨1, 8, [.nilFunc], .other⟩),
  (138, ⟨1, 8, [.nilFunc], .other⟩),
  (139, ⟨1, 4, [.int .u32 0], .int .u32⟩),
  (141, ⟨1, 8, [.nilFunc], .other⟩),
  (142, ⟨1, 8, [.nilFunc], .other⟩),
  (143, ⟨3, 48, [.string ⟨#[]⟩, .string ⟨#[]⟩, .nilIface], .st [(0, 1, false), (1, 1, false), (2, 1, false)]⟩),
  (144, ⟨3, 48, [.string ⟨#[]⟩, .string ⟨#[]⟩, .nilIface], .st [(0, 1, false), (1, 1, false), (2, 1, false)]⟩),
  (145, ⟨1, 8, [.nilFunc], .other⟩),
  (146, ⟨1, 8, [.nilFunc], .other⟩),
  (147, ⟨256, 256, [.int .u8 0, .int .u8 0, .int .u8 0, .int .u8 0, .int .u8 0, .int .u8 0, .int .u8 0, .int .u8 0, .int .u8 0, .int .u8 0, .int .u8 0, .int .u8 0, .int .u8 0, .int .u8 0, .int .u8 0, .int .u8 0, .int .u8 0, .int .u8 0, .int .u8 0, .int .u8 0, .int .u8 0, .int .u8 0, .int .u8 0, .int .u8 0, .int .u8 0, .int .u8 0, .int .u8 0, .int .u8 0, .int .u8 0, .int .u8 0, .int .u8 0, .int .u8 0, .int .u8 0, .int .u8 0, .int .u8 0, .int .u8 0, .int .u8 0, .int .u8 0, .int .u8 0, .int .u8 0, .int .u8 0, .int .u8 0, .int .u8 0, .int .u8 0, .int .u8 0, .int .u8 0, .int .u8 0, .int .u8 0, .int .u8 0, .int .u8 0, .int .u8 0, .int .u8 0, .int .u8 0, .int .u8 0, .int .u8 0, .int .u8 0, .int .u8 0, .int .u8 0, .int .u8 0, .int .u8 0, .int .u8 0, .int .u8 0, .int .u8 0, .int .u8 0, .int .u8 0, .int .u8 0, .int .u8 0, .int .u8 0, .int .u8 0, .int .u8 0, .int .u8 0, .int .u8 0, .int .u8 0, .int .u8 0, .int .u8 0, .int .u8 0, .int .u8 0, .int .u8 0, .int .u8 0, .int .u8 0, .int .u8 0, .int .u8 0, .int .u8 0, .int .u8 0, .int .u8 0, .int .u8 0, .int .u8 0, .int .u8 0, .int .u8 0, .int .u8 0, .int .u8 0, .int .u8 0, .int .u8 0, .int .u8 0, .int .u8 0, .int .u8 0, .int .u8 0, .int .u8 0, .int .u8 0, .int .u8 0, .int .u8 0, .int .u8 0, .int .u8 0, .int .u8 0, .int .u8 0, .int .u8 0, .int .u8 0, .int .u8 0, .int .u8 0, .int .u8 0, .int .u8 0, .int .u8 0, .int .u8 0, .int .u8 0, .int .u8 0, .int .u8 0, .int .u8 0, .int .u8 0, .int .u8 0, .int .u8 0, .int .u8 0, .int .u8 0, .int .u8 0, .int .u8 0, .int .u8 0, .int .u8 0, .int .u8 0, .int .u8 0, .int .u8 0, .int .u8 0, .int .u8 0, .int .u8 0, .int .u8 0, .int .u8 0, .int .u8 0, .int .u8 0, .int .u8 0, .int .u8 0, .int .u8 0, .int .u8 0, .int .u8 0, .int .u8 0, .int .u8 0, .int .u8 0, .int .u8 0, .int .u8 0, .int .u8 0, .int .u8 0, .int .u8 0, .int .u8 0, .int .u8 0, .int .u8 0, .int .u8 0, .int .u8 0, .int .u8 0, .int .u8 0, .int .u8 0, .int .u8 0, .int .u8 0, .int .u8 0, .int .u8 0, .int .u8 0, .int .u8 0, .int .u8 0, .int .u8 0, .int .u8 0, .int .u8 0, .int .u8 0, .int .u8 0, .int .u8 0, .int .u8 0, .int .u8 0, .int .u8 0, .int .u8 0, .int .u8 0, .int .u8 0, .int .u8 0, .int .u8 0, .int .u8 0, .int .u8 0, .int .u8 0, .int .u8 0, .int .u8 0, .int .u8 0, .int .u8 0, .int .u8 0, .int .u8 0, .int .u8 0, .int .u8 0, .int .u8 0, .int .u8 0, .int .u8 0, .int .u8 0, .int .u8 0, .int .u8 0, .int .u8 0, .int .u8 0, .int .u8 0, .int .u8 0, .int .u8 0, .int .u8 0, .int .u8 0, .int .u8 0, .int .u8 0, .int .u8 0, .int .u8 0, .int .u8 0, .int .u8 0, .int .u8 0, .int .u8 0, .int .u8 0, .int .u8 0, .int .u8 0, .int .u8 0, .int .u8 0, .int .u8 0, .int .u8 0, .int .u8 0, .int .u8 0, .int .u8 0, .int .u8 0, .int .u8 0, .int .u8 0, .int .u8 0, .int .u8 0, .int .u8 0, .int .u8 0, .int .u8 0, .int .u8 0, .int .u8 0, .int .u8 0, .int .u8 0, .int .u8 0, .int .u8 0, .int .u8 0, .int .u8 0, .int .u8 0, .int .u8 0, .int .u8 0, .int .u8 0, .int .u8 0, .int .u8 0, .int .u8 0, .int .u8 0, .int .u8 0, .int .u8 0, .int .u8 0, .int .u8 0, .int .u8 0, .int .u8 0, .int .u8 0, .int .u8 0, .int .u8 0, .int .u8 0, .int .u8 0, .int .u8 0], .arr 256 5⟩),
  (148, ⟨2, 2, [.int .u8 0, .int .u8 0], .st [(0, 1, false), (1, 1, false)]⟩),
  (149, ⟨2, 2, [.int .u8 0, .int .u8 0], .st [(0, 1, false), (1, 1, false)]⟩),
  (150, ⟨32, 32, [.int .u8 0, .int .u8 0, .int .u8 0, .int .u8 0, .int .u8 0, .int .u8 0, .int .u8 0, .int .u8 0, .int .u8 0, .int .u8 0, .int .u8 0, .int .u8 0, .int .u8 0, .int .u8 0, .int .u8 0, .int .u8 0, .int .u8 0, .int .u8 0, .int .u8 0, .int .u8 0, .int .u8 0, .int .u8 0, .int .u8 0, .int .u8 0, .int .u8 0, .int .u8 0, .int .u8 0, .int .u8 0, .int .u8 0, .int .u8 0, .int .u8 0, .int .u8 0], .arr 16 149⟩),
  (151, ⟨1, 8, [.nilFunc], .other⟩),
  (152, ⟨1, 8, [.pointer none], .other⟩),
  (153, ⟨1, 8, [.pointer none], .other⟩),
  (154, ⟨1, 16, [.string ⟨#[]⟩], .st [(0, 1, false)]⟩),
  (155, ⟨1, 16, [.string ⟨#[]⟩], .st [(0, 1, false)]⟩),
  (156, ⟨1, 8, [.nilFunc], .other⟩),
  (157, ⟨24, 24, [.int .u8 0, .int .u8 0, .int .u8 0, .int .u8 0, .int .u8 0, .int .u8 0, .int .u8 0, .int .u8 0, .int .u8 0, .int .u8 0, .int .u8 0, .int .u8 0, .int .u8 0, .int .u8 0, .int .u8 0, .int .u8 0, .int .u8 0, .int .u8 0, .int .u8 0, .int .u8 0, .int .u8 0, .int .u8 0, .int .u8 0, .int .u8 0], .arr 24 5⟩),
  (158, ⟨1, 8, [.nilFunc], .other⟩),
  (159, ⟨1, 8, [.nilFunc], .other⟩),
  (161, ⟨1, 8, [.nilFunc], .other⟩),
  (162, ⟨1, 8, [.nilFunc], .other⟩),
  (163, ⟨20, 160, [.int .u64 0, .int .u64 0, .int .u64 0, .int .u64 0, .int .u64 0, .int .u64 0, .int .u64 0, .int .u64 0, .int .u64 0, .int .u64 0, .int .u64 0, .int .u64 0, .int .u64 0, .int .u64 0, .int .u64 0, .int .u64 0, .int .u64 0, .int .u64 0, .int .u64 0, .int .u64 0], .arr 20 35⟩),
  (164, ⟨65, 65, [.int .u8 0, .int .u8 0, .int .u8 0, .int .u8 0, .int .u8 0, .int .u8 0, .int .u8 0, .int .u8 0, .int .u8 0, .int .u8 0, .int .u8 0, .int .u8 0, .int .u8 0, .int .u8 0, .int .u8 0, .int .u8 0, .int .u8 0, .int .u8 0, .int .u8 0, .int .u8 0, .int .u8 0, .int .u8 0, .int .u8 0, .int .u8 0, .int .u8 0, .int .u8 0, .int .u8 0, .int .u8 0, .int .u8 0, .int .u8 0, .int .u8 0, .int .u8 0, .int .u8 0, .int .u8 0, .int .u8 0, .int .u8 0, .int .u8 0, .int .u8 0, .int .u8 0, .int .u8 0, .int .u8 0, .int .u8 0, .int .u8 0, .int .u8 0, .int .u8 0, .int .u8 0, .int .u8 0, .int .u8 0, .int .u8 0, .int .u8 0, .int .u8 0, .int .u8 0, .int .u8 0, .int .u8 0, .int .u8 0, .int .u8 0, .int .u8 0, .int .u8 0, .int .u8 0, .int .u8 0, .int .u8 0, .int .u8 0, .int .u8 0, .int .u8 0, .int .u8 0], .arr 65 5⟩),
  (165, ⟨1, 8, [.nilFunc], .other⟩),
  (166, ⟨1, 8, [.nilFunc], .other⟩),
  (167, ⟨1, 8, [.nilFunc], .other⟩),
  (168, ⟨32, 32, [.int .u8 0, .int .u8 0, .int .u8 0, .int .u8 0, .int .u8 0, .int .u8 0, .int .u8 0, .int .u8 0, .int .u8 0, .int .u8 0, .int .u8 0, .int .u8 0, .int .u8 0, .int .u8 0, .int .u8 0, .int .u8 0, .int .u8 0, .int .u8 0, .int .u8 0, .int .u8 0, .int .u8 0, .int .u8 0, .int .u8 0, .int .u8 0, .int .u8 0, .int .u8 0, .int .u8 0, .int .u8 0, .int .u8 0, .int .u8 0, .int .u8 0, .int .u8 0], .arr 32 5⟩),
  (169, ⟨64, 64, [.int .u8 0, .int .u8 0, .int .u8 0, .int .u8 0, .int .u8 0, .int .u8 0, .int .u8 0, .int .u8 0, .int .u8 0, .int .u8 0, .int .u8 0, .int .u8 0, .int .u8 0, .int .u8 0, .int .u8 0, .int .u8 0, .int .u8 0, .int .u8 0, .int .u8 0, .int .u8 0, .int .u8 0, .int .u8 0, .int .u8 0, .int .u8 0, .int .u8 0, .int .u8 0, .int .u8 0, .int .u8 0, .int .u8 0, .int .u8 0, .int .u8 0, .int .u8 0, .int .u8 0, .int .u8 0, .int .u8 0, .int .u8 0, .int .u8 0, .int .u8 0, .int .u8 0, .int .u8 0, .int .u8 0, .int .u8 0, .int .u8 0, .int .u8 0, .int .u8 0, .int .u8 0, .int .u8 0, .int .u8 0, .int .u8 0, .int .u8 0, .int .u8 0, .int .u8 0, .int .u8 0, .int .u8 0, .int .u8 0, .int .u8 0, .int .u8 0, .int .u8 0, .int .u8 0, .int .u8 0, .int .u8 0, .int .u8 0, .int .u8 0, .int .u8 0], .arr 64 5⟩),
  (170, ⟨4, 40, [.pointer none, .pointer none, .pointer none, .string ⟨#[]⟩], .st [(0, 1, false), (1, 1, false), (2, 1, false), (3, 1, false)]⟩),
  (171, ⟨4, 40, [.pointer none, .pointer none, .pointer none, .string ⟨#[]⟩], .st [(0, 1, false), (1, 1, false), (2, 1, false), (3, 1, false)]⟩),
  (172, ⟨0, 0, [], .arr 0 16⟩),
  (173, ⟨0, 0, [], .st [(0, 0, true)]⟩),
  (174, ⟨0, 0, [], .st [(0, 0, true)]⟩),
  (175, ⟨1, 1, [.int .u8 0], .int .u8⟩),
  (176, ⟨1, 1, [.int .u8 0], .int .u8⟩),
  (177, ⟨1, 8, [.nilFunc], .other⟩),
  (178, ⟨1, 4, [.int .i32 0], .int .i32⟩),
  (179, ⟨1, 4, [.int .i32 0], .int .i32⟩),
  (180, ⟨11, 48, [.int .u64 0, .int .u64 0, .int .u32 0, .int .u8 0, .int .u8 0, .int .u8 0, .int .u8 0, .nilFunc, .pointer none, .int .i32 0, .int .i32 0], .st [(0, 1, false), (1, 1, false), (2, 1, false), (3, 1, false), (4, 1, false), (5, 1, false), (6, 1, false), (7, 1, false), (8, 1, false), (9, 1, false), (10, 1, false)]⟩),
  (181, ⟨11, 48, [.int .u64 0, .int .u64 0, .int .u32 0, .int .u8 0, .int .u8 0, .int .u8 0, .int .u8 0, .nilFunc, .pointer none, .int .i32 0, .int .i32 0], .st [(0, 1, false), (1, 1, false), (2, 1, false), (3, 1, false), (4, 1, false), (5, 1, false), (6, 1, false), (7, 1, false), (8, 1, false), (9, 1, false), (10, 1, false)]⟩),
  (182, ⟨1, 8, [.pointer none], .other⟩)]
set_option maxRecDepth 100000 in
theorem lay_all : lay.map (fun p => layOf Tryd.prog p.1) = lay.map (fun p => some p.2) := by kernel_rfl
def layF (t : Nat) : Option Lay := findL lay t
theorem layF_ok : LOk Tryd.prog layF := fun t l h => by
  have := List.map_inj_left.1 lay_all (t, l) (findL_mem h)
  exact this
theorem mixed : Tryd.prog.follows .mixedOrders = true := by kernel_rfl
end Go.Proofs.YtkbhmcdoedmffaaDoor

namespace Go.Proofs.YtkbhmcdoedmffaaDoor
set_option linter.unusedVariables false
set_option linter.unusedSimpArgs false
open Go.RowKit

abbrev di (n : Int) : D := .v (.int .i64 n)
abbrev du (n : Int) : D := .v (.int .u64 n)
abbrev db (b : Bool) : D := .v (.bool b)
abbrev ds (s : ByteArray) : D := .v (.string s)
abbrev dnil : D := .v (.slice none 0 0)
abbrev Ti (n : Int) : TV := .o (.c (.d (.v (.int .i64 n))))
abbrev Tu (n : Int) : TV := .o (.c (.d (.v (.int .u64 n))))
abbrev Tb (b : Bool) : TV := .o (.c (.d (.v (.bool b))))
abbrev c1 (x : D) : T1 := .c (.d x)
abbrev gD (l : List D) : T1 := .g (l.map .d)
/-- Nothing is known of the program's variables. -/
def Γ0 : Glob := ⟨fun _ _ => True, fun _ _ _ => trivial, [], fun _ => none, fun _ h => by cases h⟩

section
variable {p q : Prop} {K : Bool → Prop}
theorem ex_dec [Decidable p] (ht : p → K true) (hf : ¬ p → K false) : ∃ b, decide p = b ∧ K b := by
  by_cases h : p
  · exact ⟨true, decide_eq_true h, ht h⟩
  · exact ⟨false, decide_eq_false h, hf h⟩
theorem ex_true [Decidable p] (h : p) (hk : K true) : ∃ b, decide p = b ∧ K b := ⟨true, decide_eq_true h, hk⟩
theorem ex_false [Decidable p] (h : ¬ p) (hk : K false) : ∃ b, decide p = b ∧ K b := ⟨false, decide_eq_false h, hk⟩
theorem ex_eq {α : Type} {e : α} {K : α → Prop} (h : K e) : ∃ z, e = z ∧ K z := ⟨e, rfl, h⟩
theorem ex_is {α : Type} {e : α} (z : α) {K : α → Prop} (he : e = z) (h : K z) : ∃ z, e = z ∧ K z := ⟨z, he, h⟩
end
theorem wrap_i64' {n : Int} (h1 : -9223372036854775808 ≤ n) (h2 : n ≤ 9223372036854775807) : IntKind.i64.wrap n = n := by rw [IntKind.wrap_i64]; omega
theorem wrap_un {k : IntKind} (hk : k.signed = false) {n : Int} (h1 : 0 ≤ n) (h2 : n < 2 ^ k.bits) : k.wrap n = n := by
  unfold IntKind.wrap
  simp only [hk, Bool.false_and, Bool.false_eq_true, if_false]
  exact Int.emod_eq_of_lt h1 h2
theorem ex_i64 {e : Int} (z : Int) {K : Int → Prop} (he : e = z) (h1 : -9223372036854775808 ≤ z) (h2 : z ≤ 9223372036854775807) (h : K z) : ∃ z, IntKind.i64.wrap e = z ∧ K z := ⟨z, by rw [he]; exact wrap_i64' h1 h2, h⟩
theorem ex_u64 {e : Int} (z : Int) {K : Int → Prop} (he : e = z) (h1 : 0 ≤ z) (h2 : z < 18446744073709551616) (h : K z) : ∃ z, IntKind.u64.wrap e = z ∧ K z := ⟨z, by rw [he]; exact wrap_un (by rfl) h1 h2, h⟩
theorem ex_u8 {e : Int} (z : Int) {K : Int → Prop} (he : e = z) (h1 : 0 ≤ z) (h2 : z < 256) (h : K z) : ∃ z, IntKind.u8.wrap e = z ∧ K z := ⟨z, by rw [he]; exact wrap_un (by rfl) h1 h2, h⟩
/-- An index into rows that are images of a list. -/
theorem ex_row {α : Type} {f : α → List D} {l : List α} {n : Int} (i : Nat) (x : α) (hn : n = i) (hx : l[i]? = some x) {K : List D → Prop} (h : K (f x)) : ∃ r, 0 ≤ n ∧ (l.map f)[n.toNat]? = some r ∧ K r := by
  subst hn
  exact ⟨f x, by omega, by simp [hx], h⟩
/-- An append. -/
theorem ex_app {α : Type} {r1 r2 : List α} {b : Nat} (n m c : Nat) (h1 : r1.length = n) (h2 : r2.length = m) (hc : Nat.ble b c = true) (hb : (n + m) * c ≤ 140737488355328) {K : Prop} (h : K) : (r1.length + r2.length) * b ≤ 140737488355328 ∧ K := ⟨by
  rw [h1, h2]
  exact Nat.le_trans (Nat.mul_le_mul_left _ (Nat.le_of_ble_eq_true hc)) hb, h⟩
theorem ex_at {α : Type} {f : α → List D} {l : List α} (i : Nat) (x : α) (hx : l[i]? = some x) {K : List D → Prop} {a : Nat} (h : K (f x)) : a = a ∧ ∃ r, (l.map f)[i]? = some r ∧ K r := ⟨rfl, f x, by simp [hx], h⟩
theorem ex_chr {s : ByteArray} {n : Int} (i : Nat) (b : UInt8) (hn : n = i) (hb : s.data.toList[i]? = some b) {K : UInt8 → Prop} (h : K b) : ∃ b, 0 ≤ n ∧ s.data.toList[n.toNat]? = some b ∧ K b := by
  subst hn
  exact ⟨b, by omega, by simpa using hb, h⟩
theorem at_some {α : Type} {l : List α} {i : Nat} (h : i < l.length) : l[i]? = some l[i] := List.getElem?_eq_getElem h
section
variable {P : Program} {Γ : Glob}
/-- A call of a function of data. -/
theorem ex_call {f : FuncId} {xs : List T1} {r : TV} (h : CallsA P Γ f xs r) {K : TV → Prop} (hk : K r) : ∃ r, CallsA P Γ f xs r ∧ K r := ⟨r, h, hk⟩
theorem ex_callM {f : FuncId} {m : List (Nat × Blk)} {nx : Nat} {xs : List T1} {r : TV} {upd : List (Nat × Blk)} {new : List Blk} (h : CallsM P Γ f m nx xs r upd new) {K : TV → List (Nat × Blk) → List Blk → Prop} (hk : K r upd new) : ∃ r upd new, CallsM P Γ f m nx xs r upd new ∧ K r upd new := ⟨r, upd, new, h, hk⟩
end
/-- A loop. -/
theorem ex_loop {X : Type} (f : X → St) (μ : X → Nat) (p : X → Prop) (x0 : X) {nx0 : Nat} {st : St} {V : (I : LoopI) → I.X → Prop} (h0 : p x0) (h1 : SLe nx0 (f x0) st) (h2 : ∀ x, p x → V ⟨X, f, μ, p⟩ x) :
    ∃ (I : LoopI) (x0 : I.X), I.p x0 ∧ SLe nx0 (I.f x0) st ∧ ∀ x, I.p x → V I x := ⟨⟨X, f, μ, p⟩, x0, h0, h1, h2⟩
/-- Where ways come together. -/
theorem ex_join {X : Type} (f : X → St) (p : X → Prop) {A : JoinI → Prop} {B : (I : JoinI) → I.X → Prop} (h1 : A ⟨X, f, p⟩) (h2 : ∀ x, p x → B ⟨X, f, p⟩ x) : ∃ I : JoinI, A I ∧ ∀ x, I.p x → B I x := ⟨⟨X, f, p⟩, h1, h2⟩
theorem ex_meet {X : Type} {f : X → St} {p : X → Prop} {nx0 : Nat} {st : St} (x : X) (h0 : p x) (h2 : SLe nx0 (f x) st) : ∃ x, p x ∧ SLe nx0 (f x) st := ⟨x, h0, h2⟩
theorem ex_round {X : Type} {f : X → St} {μ : X → Nat} {p : X → Prop} {nx0 : Nat} {st : St} {x : X} (x' : X) (h0 : p x') (h1 : μ x' < μ x) (h2 : SLe nx0 (f x') st) : ∃ x', p x' ∧ μ x' < μ x ∧ SLe nx0 (f x') st := ⟨x', h0, h1, h2⟩
theorem le_nil {α : Type} {m : List (Nat × α)} : leL [] m := trivial
theorem le_cons {α : Type} {k : Nat} {v : α} {l m : List (Nat × α)} (h : findL m k = some v) (t : leL l m) : leL ((k, v) :: l) m := ⟨h, t⟩
theorem le_val {α : Type} {k : Nat} {v v' : α} {l m : List (Nat × α)} (h : findL m k = some v') (e : v' = v) (t : leL l m) : leL ((k, v) :: l) m := ⟨e ▸ h, t⟩
/-- A nil slice reads as a slice without rows. -/
theorem CLe_nil {ι : Nat → Value} {S : Nat → Prop} {w : World} {s : Nat} {v : Value} (h : VC ι S w (.d (.v (.slice none 0 0))) v) : VC ι S w (.d (.sl s [])) v := by
  have h' : Imm S w _ v := h
  cases h'
  exact Imm.nil
theorem TLe.nil {s : Nat} : TLe (.o (.c (.d (.v (.slice none 0 0))))) (.o (.c (.d (.sl s [])))) := fun ι _ _ _ h => CLe_nil (ι := ι) h
/-- A contract met with a flat result. -/
theorem flat_end {S : Nat → Prop} {w w' : World} {r : TV} {v : Value} (hs : ∀ b, S b → b < w.heap.size) (hb : Below w.heap.size w w') (hv : V ι0 S w' r v) : ∃ x S', Ending.returned v = .returned x ∧ Below w.heap.size w w' ∧ (∀ b, S b → S' b) ∧ (∀ b, S' b → S b ∨ w.heap.size ≤ b) ∧ (∀ b, S' b → b < w'.heap.size) ∧ V ι0 S' w' r x :=
  ⟨v, S, rfl, hb, fun _ h => h, fun _ h => .inl h, fun b h => Nat.lt_of_lt_of_le (hs b h) hb.size, hv⟩
/-- A contract over a greater memory. -/
theorem CallsM.more {P : Program} {Γ : Glob} {f : FuncId} {m m' : List (Nat × Blk)} {nx : Nat} {xs : List T1} {r : TV} {upd : List (Nat × Blk)} {new : List Blk} (h : CallsM P Γ f m nx xs r upd new) (hm : ∀ p ∈ m, p ∈ m') : CallsM P Γ f m' nx xs r upd new :=
  ⟨h.1, fun ι S w vs hs hG hb hd hv => (h.2 ι S w vs hs hG (fun p hp => hb p (hm p hp)) (fun p hp q hq => hd p (hm p hp) q (hm q hq)) hv).mono fun e w' hX => by
    have conv : ∀ (tv : TV) (x : Value) (ι' : Nat → Value) (S' : Nat → Prop) (w' : World), After ι S w nx ⟨tv, m.map (·.1), upd, new⟩ x ι' S' w' → After ι S w nx ⟨tv, m'.map (·.1), upd, new⟩ x ι' S' w' := fun tv x ι' S' w' A =>
      ⟨A.val, A.keep, A.smono, A.sgrow, A.slt, A.os, A.tape, A.output, A.size, A.heap, A.updok, A.newok, A.newblk, A.newdst⟩
    rcases hX with ⟨x, ι', S', he, A⟩ | ⟨v, ι', S', hr, he, A⟩
    · exact .inl ⟨x, ι', S', he, conv _ _ _ _ _ A⟩
    · exact .inr ⟨v, ι', S', hr, he, conv _ _ _ _ _ A⟩⟩
/-- What a function of nothing known gives, whatever is known. -/
theorem CallsA.of0 {P : Program} {Γ : Glob} {f : FuncId} {xs : List T1} {r : TV} (h : CallsA P Γ0 f xs r) : CallsA P Γ f xs r := ⟨h.1, fun S w vs hS _ hv => h.2 S w vs hS trivial hv⟩
theorem CallsM.of0 {P : Program} {Γ : Glob} {f : FuncId} {m : List (Nat × Blk)} {nx : Nat} {xs : List T1} {r : TV} {upd : List (Nat × Blk)} {new : List Blk} (h : CallsM P Γ0 f m nx xs r upd new) : CallsM P Γ f m nx xs r upd new := ⟨h.1, fun ι S w vs hs _ hb hd hv => h.2 ι S w vs hs trivial hb hd hv⟩
end Go.Proofs.YtkbhmcdoedmffaaDoor

namespace Go.Proofs.YtkbhmcdoedmffaaDoor
set_option linter.unusedVariables false
set_option linter.unusedSimpArgs false
open Go.RowKit

def stC (k : Nat) (d : D) : CV → CV
  | .row j => match Nat.beq j k with
    | true => .d d
    | false => .row j
  | x => x
def stT (k : Nat) (d : D) : T1 → T1
  | .c x => .c (stC k d x)
  | .g l => .g (l.map (stC k d))
  | .f h a l => .f h a (l.map (stC k d))
def stV (k : Nat) (d : D) : TV → TV
  | .o x => .o (stT k d x)
  | .tup l => .tup (l.map (stT k d))
  | x => x
def stB (k : Nat) (d : D) : Blk → Blk
  | .obj l t => .obj (l.map (stC k d)) t
  | x => x
def rpC (k : Nat) : CV → Bool
  | .rptr j _ _ _ => Nat.beq j k
  | .mp j => Nat.beq j k
  | .rsl j _ _ _ => Nat.beq j k
  | .ptr j _ => Nat.beq j k
  | _ => false
def rpT (k : Nat) : T1 → Bool
  | .c x => rpC k x
  | .g l => l.any (rpC k)
  | .f _ _ l => l.any (rpC k)
def rpV (k : Nat) : TV → Bool
  | .o x => rpT k x
  | .tup l => l.any (rpT k)
  | _ => false
def rpB (k : Nat) : Blk → Bool
  | .obj l _ => l.any (rpC k)
  | _ => false
/-- The row k told as data everywhere; pointers into it are not told any more. -/
def stX (k : Nat) (d : D) (_ : Nat) (x : TV) : TV := match rpV k x with
  | true => .no
  | false => stV k d x
def stM (k : Nat) (d : D) (j : Nat) (x : Blk) : Blk := match Nat.beq j k || rpB k x with
  | true => .dead
  | false => stB k d x
def stillSt (k : Nat) (d : D) (s : St) : St := ⟨s.tm.map fun p => (p.1, stX k d p.1 p.2), s.mem.map fun p => (p.1, stM k d p.1 p.2), s.nx⟩
theorem findL_map {α β : Type} (F : Nat → α → β) : ∀ (l : List (Nat × α)) (t : Nat), findL (l.map fun p => (p.1, F p.1 p.2)) t = (findL l t).map (F t)
  | [], t => rfl
  | (j, v) :: l, t => by
    simp only [List.map_cons, findL]
    split
    · rename_i e; subst e; rfl
    · exact findL_map F l t
section
variable {ι : Nat → Value} {S S' : Nat → Prop} {w : World} {k : Nat} {d : D}
theorem stC_ok (hS : ∀ b, S b → S' b) (hd : Imm S' w d (ι k)) {x : CV} {u : Value} (h : VC ι S w x u) : VC ι S' w (stC k d x) u := by
  cases x with
  | row j =>
    simp only [stC]
    split
    · rename_i hb
      obtain rfl := Nat.eq_of_beq_eq_true hb
      rw [h.1]
      exact hd
    · exact VC.mono (x := .row j) (fun _ _ => rfl) hS (fun _ _ => rfl) h
  | d x => exact VC.mono (x := .d x) (fun _ _ => rfl) hS (fun _ _ => rfl) h
  | ptr j o => exact VC.mono (x := .ptr j o) (fun _ _ => rfl) hS (fun _ _ => rfl) h
  | eptr cs => exact VC.mono (x := .eptr cs) (fun _ _ => rfl) hS (fun _ _ => rfl) h
  | rptr a b c e => exact VC.mono (x := .rptr a b c e) (fun _ _ => rfl) hS (fun _ _ => rfl) h
  | mp j => exact VC.mono (x := .mp j) (fun _ _ => rfl) hS (fun _ _ => rfl) h
  | rsl a b c e => exact VC.mono (x := .rsl a b c e) (fun _ _ => rfl) hS (fun _ _ => rfl) h
theorem stT_ok (hS : ∀ b, S b → S' b) (hd : Imm S' w d (ι k)) {x : T1} {u : Value} (h : V1 ι S w x u) : V1 ι S' w (stT k d x) u := by
  cases x with
  | c x => exact stC_ok hS hd h
  | g l =>
    obtain ⟨us, h1, h2⟩ := h
    exact ⟨us, h1, h2.mono (fun a b hab => stC_ok hS hd hab) |> All2.map_left⟩
  | f g a l =>
    obtain ⟨us, h1, h2⟩ := h
    exact ⟨us, h1, h2.mono (fun a b hab => stC_ok hS hd hab) |> All2.map_left⟩
theorem stV_ok (hS : ∀ b, S b → S' b) (hd : Imm S' w d (ι k)) {x : TV} {u : Value} (h : V ι S w x u) : V ι S' w (stV k d x) u := by
  cases x with
  | no => trivial
  | und => exact h
  | o x => exact stT_ok hS hd h
  | tup l =>
    obtain ⟨us, h1, h2⟩ := h
    exact ⟨us, h1, h2.mono (fun a b hab => stT_ok hS hd hab) |> All2.map_left⟩
  | pan v => exact h
end
theorem SLe.still {nx0 : Nat} {s : St} (k size : Nat) (e : TypeId) (rows : List (List D)) (hk : findL s.mem k = some (.row size e rows)) : SLe nx0 (stillSt k (.sl size rows) s) s := fun E a w he ⟨ι, S, I⟩ => by
  have hb0 := I.blk k _ hk
  have hlt := row_lt hb0
  have hS : ∀ b, S b → giveUp ι S [k] b := fun b hb => .inl hb
  have hd : Imm (giveUp ι S [k]) w (.sl size rows) (ι k) := row_imm hb0 hS (fun g hg => .inr ⟨k, by simp, hg⟩)
  have hmem : ∀ n b, findL (stillSt k (.sl size rows) s).mem n = some b → b.live = true → n ≠ k ∧ ∃ b0, findL s.mem n = some b0 ∧ b0.live = true ∧ b = stB k (.sl size rows) b0 := fun n b hb hl => by
    have hb : findL (s.mem.map fun p => (p.1, stM k (.sl size rows) p.1 p.2)) n = some b := hb
    rw [findL_map (stM k (.sl size rows))] at hb
    obtain ⟨b0, h1, h2⟩ := Option.map_eq_some_iff.1 hb
    unfold stM at h2
    split at h2
    · subst h2; cases hl
    · rename_i hf
      subst h2
      refine ⟨fun h => ?_, b0, h1, ?_, rfl⟩
      · rw [Bool.or_eq_false_iff] at hf
        exact absurd h (Nat.ne_of_beq_eq_false hf.1)
      · cases b0 <;> first | rfl | exact hl
  have hdead : ∀ n b, findL (stillSt k (.sl size rows) s).mem n = some b → b.live = false → b = .dead := fun n b _ hl => by cases b <;> first | rfl | cases hl
  have hS' : ∀ n b, findL s.mem n = some b → b.live = true → n ≠ k → ∀ g, blkOf (ι n) = some g → ¬ giveUp ι S [k] g := fun n b hb hl hn g hg hs => by
    rcases hs with hs | ⟨j, hj, hs⟩
    · have h := I.blk n b hb
      exact (h.sep hl hg).2 hs
    · obtain rfl : j = k := by simpa using hj
      exact hn (I.dst n j b _ g hb hk hl rfl hg hs)
  refine ⟨ι, giveUp ι S [k], I.os, I.tape, I.output, I.size, I.old, fun b hb => ?_, fun b hb => .inl (I.s0 b hb), fun b hb => ?_, fun t tv ht => ?_, fun n b hb => ?_, fun n b hb hl g hg => ?_, fun n n' b b' g hb hb' hl hl' hg hg' => ?_, I.dn, I.sz, E.Γ.mono (fun _ _ => rfl) hS I.gl, I.ik⟩
  · rcases hb with hb | ⟨j, hj, hb⟩
    · exact I.slt b hb
    · obtain rfl : j = k := by simpa using hj
      exact (hlt b hb).1
  · rcases hb with hb | ⟨j, hj, hb⟩
    · exact I.sg b hb
    · obtain rfl : j = k := by simpa using hj
      rcases I.mutb j _ hk rfl b hb with h | h
      · exact .inr (.inr h)
      · exact .inr (.inl h)
  · have ht : findL (s.tm.map fun p => (p.1, stX k (.sl size rows) p.1 p.2)) t = some tv := ht
    rw [findL_map (stX k (.sl size rows))] at ht
    obtain ⟨tv0, h1, h2⟩ := Option.map_eq_some_iff.1 ht
    unfold stX at h2
    split at h2
    · subst h2; trivial
    · subst h2
      exact stV_ok hS hd (I.tms t tv0 h1)
  · cases hl : b.live with
    | false => rw [hdead n b hb hl]; trivial
    | true =>
      obtain ⟨hn, b0, h1, h2, rfl⟩ := hmem n b hb hl
      have h := I.blk n b0 h1
      cases b0 with
      | dead => cases h2
      | obj cells tg =>
        obtain ⟨b2, arr, ty, e1, e2, e3, e4⟩ := h
        exact ⟨b2, arr, ty, e1, e2, All2.map_left (e3.mono fun a b hab => stC_ok hS hd hab), hS' n _ h1 rfl hn b2 (by rw [e1]; rfl)⟩
      | row size' e' rows' =>
        obtain ⟨cs, e1, e2, e3, e4⟩ := h
        exact ⟨cs, e1, e2.mono fun a b hab => Imm.mono (fun _ _ => rfl) hS hab, e3, fun g hg => hS' n _ h1 rfl hn g hg⟩
      | map es =>
        obtain ⟨b2, arr, clock, e1, e2, e3, e4⟩ := h
        exact ⟨b2, arr, clock, e1, e2, e3, hS' n _ h1 rfl hn b2 (by rw [e1]; rfl)⟩
  · obtain ⟨hn, b0, h1, h2, rfl⟩ := hmem n b hb hl
    exact I.mutb n b0 h1 h2 g hg
  · obtain ⟨hn, b0, h1, h2, rfl⟩ := hmem n b hb hl
    obtain ⟨hn', b0', h1', h2', rfl⟩ := hmem n' b' hb' hl'
    exact I.dst n n' b0 b0' g h1 h1' h2 h2' hg hg'
end Go.Proofs.YtkbhmcdoedmffaaDoor

namespace Go.Proofs.YtkbhmcdoedmffaaDoor
set_option linter.unusedVariables false
set_option linter.unusedSimpArgs false
open Go.RowKit
set_option maxRecDepth 100000
theorem and_mk {a b : Prop} (h : a) (k : b) : a ∧ b := ⟨h, k⟩
end Go.Proofs.YtkbhmcdoedmffaaDoor

namespace Go.Proofs.YtkbhmcdoedmffaaDoor
set_option linter.unusedVariables false
set_option linter.unusedSimpArgs false
open Go.RowKit
set_option maxRecDepth 100000

def retOkK (L : Nat → Option Lay) (rs : List ResultVar) (ns : List Nat) (nx : Nat) (r : TV) (upd : List (Nat × Blk)) (new : List Blk) (st : St) : Prop :=
  match rs.map (resC L st) with
  | some (.o (.c (.row k))) :: l => match eatT (findL st.mem) l, subMem (findL st.mem) ns, subMem (findL st.mem) [k] with
    | some (y :: ys, ks), some u, some n => (nodupB [k] && disj ks [k] && (ks.all fun k => Nat.ble nx k) && ([k].all fun k => Nat.ble nx k) && closB nx [k] u && closB nx [k] n) = true ∧ TLe (.tup (.c (.row nx) :: y :: ys)) r ∧ renM (expN nx [k]) u = upd ∧ (n.map fun p => p.2.ren (expN nx [k])) = new
    | _, _, _ => False
  | _ => False
def fnQK (L : Nat → Option Lay) (rs : List ResultVar) (ns : List Nat) (nx : Nat) (r : TV) (upd : List (Nat × Blk)) (new : List Blk) : Exit → St → Prop
  | .normal, st | .ret, st => retOkK L rs ns nx r upd new st
  | _, _ => False
theorem results_okK {P : Program} {L : Nat → Option Lay} (hL : LOk P L) {E : Env} {ι : Nat → Value} {S : Nat → Prop} {st : St} {a : Act} {w : World} (I : Inv E ι S (findL st.tm) (findL st.mem) a w) {fn : Func} {k0 : Nat} {l : List (Option TV)} {y : T1} {ys : List T1} {ks : List Nat}
    (hl : fn.results.toList.map (resC L st) = some (.o (.c (.row k0))) :: l) (hy : eatT (findL st.mem) l = some (y :: ys, ks)) : ∃ v, (results fn a.tmps).run P w = .ok v w ∧ (∀ k ∈ ks, ∃ size e rows, findL st.mem k = some (.row size e rows) ∧ BlkOk ι S w k (.row size e rows)) ∧ ∀ (ι' : Nat → Value) (k1 : Nat), ι' k1 = ι k0 → V ι' (giveUp ι S ks) w (.tup (.c (.row k1) :: y :: ys)) v := by
  have hone : ∀ rv tv, resC L st rv = some tv → ∃ v, (resF a.tmps rv).run P w = .ok v w ∧ V ι S w tv v := fun rv tv hrv => by
    cases rv with
    | tmp t => exact ⟨_, rfl, I.tms t tv hrv⟩
    | cell b t =>
      simp only [resC] at hrv
      split at hrv
      · rename_i l k off hl hb
        split at hrv
        · rename_i cells tg hk
          split at hrv
          · rename_i hle
            obtain ⟨bk, hb1, hb2⟩ := I.tms b _ hb
            obtain ⟨b', arr, ty, h3, h4, h5, _⟩ := I.blk k _ hk
            obtain rfl : bk = b' := by rw [hb1] at h3; cases h3; rfl
            have hlen := h5.len
            have hle' := Nat.le_of_ble_eq_true hle
            have hr := run_load_range (P := P) (layOf_ok (hL _ _ hl)) (w := w) (g := bk) (f := off) (us := (arr.toList.drop off).take l.size) (by simp at hlen ⊢; omega) (fun j u hj => by
              obtain ⟨hj1, _⟩ := drop_take_get hj
              rw [cell_of_row w bk (off + j) arr ty.1 (0, 0) h4]
              simpa using hj1)
            rcases V_ofCells hrv ((h5.drop off).take l.size) with ⟨ha, hV⟩ | ⟨ha, u, hu, hV⟩
            · exact ⟨_, by simp only [resF, hb2]; simp [asAddr, hr.1 ha], hV⟩
            · exact ⟨_, by simp only [resF, hb2]; simp [asAddr, hr.2 ha u hu], hV⟩
          · cases hrv
        · cases hrv
      · cases hrv
  have hvals : ∀ (l : List ResultVar) (ys : List T1) (ks : List Nat), eatT (findL st.mem) (l.map (resC L st)) = some (ys, ks) → ∃ vs, All2 (fun rv v => (resF a.tmps rv).run P w = .ok v w) l vs ∧ All2 (fun (a : Option TV) u => ∀ tv, a = some tv → V ι S w tv u) (l.map (resC L st)) vs := fun l => by
    induction l with
    | nil => intro ys ks _; exact ⟨[], .nil, .nil⟩
    | cons rv l ih =>
      intro ys ks h
      simp only [List.map_cons] at h
      cases hrv : resC L st rv with
      | none => rw [hrv] at h; simp [eatT] at h
      | some tv =>
        rw [hrv] at h
        cases tv with
        | no => simp [eatT] at h
        | und => simp [eatT] at h
        | tup l => simp [eatT] at h
        | pan v => simp [eatT] at h
        | o x =>
          simp only [eatT] at h
          split at h
          · rename_i y k1 ys' k2 h1 h2
            obtain ⟨vs, g1, g2⟩ := ih ys' k2 h2
            obtain ⟨v, e1, e2⟩ := hone rv _ hrv
            refine ⟨v :: vs, .cons e1 g1, ?_⟩
            simp only [List.map_cons]
            refine .cons (fun tv htv => ?_) g2
            rw [hrv] at htv; cases htv
            exact e2
          · cases h
  obtain ⟨rv0, rvs, hrs, hr0, hrl⟩ : ∃ rv0 rvs, fn.results.toList = rv0 :: rvs ∧ resC L st rv0 = some (.o (.c (.row k0))) ∧ rvs.map (resC L st) = l := by
    cases hq : fn.results.toList with
    | nil => rw [hq] at hl; cases hl
    | cons rv0 rvs => rw [hq, List.map_cons] at hl; injection hl with h1 h2; exact ⟨rv0, rvs, rfl, h1, h2⟩
  obtain ⟨u0, e0, hu0⟩ := hone rv0 _ hr0
  obtain ⟨vs, g1, g2⟩ := hvals rvs (y :: ys) ks (by rw [hrl]; exact hy)
  have hrows : ∀ k ∈ ks, ∃ size e rows, findL st.mem k = some (.row size e rows) ∧ BlkOk ι S w k (.row size e rows) := fun k hk => by
    obtain ⟨size, e, rows, hm⟩ := eatT_rows hy k hk
    exact ⟨size, e, rows, hm, I.blk k _ hm⟩
  have hres : (results fn a.tmps).run P w = .ok (if h : (u0 :: vs).toArray.size = 1 then (u0 :: vs).toArray[0] else .tuple (u0 :: vs).toArray) w := by
    have h1 := mapM_run _ _ _ (All2.cons e0 g1)
    rw [results_F, Sem.run_bind, Array.mapM_eq_mapM_toList, run_map, hrs, h1]
    rfl
  refine ⟨_, hres, hrows, fun ι' k1 hk1 => ?_⟩
  rw [hrl] at g2
  have hall := eatT_ok (ι' := ι') (S' := giveUp ι S ks) (fun b hb => .inl hb) hy g2 (fun k hk b hb => I.blk k b hb) (fun k hk g hg => .inr ⟨k, hk, hg⟩)
  have hlen : ¬ (u0 :: vs).toArray.size = 1 := by have := hall.len; simp at this ⊢; intro e; rw [e] at this; simp at this
  rw [dif_neg hlen]
  have hu0' : u0 = ι k0 ∧ ∃ o n c, u0 = .slice o n c := hu0
  exact ⟨u0 :: vs, rfl, .cons ⟨hu0'.1.trans hk1.symm, hu0'.2⟩ hall⟩
theorem core_afterK {C : Ctx} {m : List (Nat × Blk)} {upd : List (Nat × Blk)} {new : List Blk} {ι : Nat → Value} {S : Nat → Prop} {w w' : World} {st : St} {a : Act} {dd : List Deferred} {en : Nat} (hmlt : ∀ p ∈ m, p.1 < C.nx0) : ∀ (ι1 : Nat → Value) (S1 : Nat → Prop) (tv : TV) (x : Value) (ks : List Nat) (u n : List (Nat × Blk)) (src : List Nat), Inv ⟨w, fun g => ∃ p ∈ m, p.2.live = true ∧ blkOf (ι p.1) = some g, S, en, C.Γ, ι, C.nx0, dd⟩ ι1 S1 (findL st.tm) (findL st.mem) a w' →
      (subMem (findL st.mem) (m.map (·.1)) = some u ∧ subMem (findL st.mem) src = some n) → (nodupB src && disj ks src && (ks.all fun k => Nat.ble C.nx0 k) && (src.all fun k => Nat.ble C.nx0 k) && closB C.nx0 src u && closB C.nx0 src n) = true → renM (expN C.nx0 src) u = upd → (n.map fun p => p.2.ren (expN C.nx0 src)) = new →
      (∀ k ∈ ks, ∃ size e rows, findL st.mem k = some (.row size e rows) ∧ BlkOk ι1 S1 w' k (.row size e rows)) → (∀ ι' : Nat → Value, (∀ k, (k < C.nx0 ∨ k ∈ src) → ι' (expN C.nx0 src k) = ι1 k) → V ι' (giveUp ι1 S1 ks) w' tv x) → ∃ ι' S', After ι S w C.nx0 ⟨tv, m.map (·.1), upd, new⟩ x ι' S' w' := fun ι1 S1 tv x ks u n src I hex hchk hu hnw hrows hval => by
      simp only [Bool.and_eq_true] at hchk
      obtain ⟨⟨⟨⟨⟨c1, c2⟩, c3⟩, c4⟩, c5⟩, c6⟩ := hchk
      obtain ⟨hu0, hn0⟩ := hex
      obtain ⟨u1, u2⟩ := subMem_ok hu0
      obtain ⟨n1, n2⟩ := subMem_ok hn0
      have hks : ∀ k ∈ ks, C.nx0 ≤ k := fun k hk => Nat.le_of_ble_eq_true (List.all_eq_true.1 c3 k hk)
      have hsrc : ∀ k ∈ src, C.nx0 ≤ k := fun k hk => Nat.le_of_ble_eq_true (List.all_eq_true.1 c4 k hk)
      have hult : ∀ p ∈ u, p.1 < C.nx0 := fun p hp => by
        have : p.1 ∈ m.map (·.1) := by rw [← u1]; exact List.mem_map.2 ⟨p, hp, rfl⟩
        obtain ⟨q, hq, he⟩ := List.mem_map.1 this
        rw [← he]; exact hmlt q hq
      have hexp : ∀ k, k < C.nx0 → expN C.nx0 src k = k := fun k hk => by
        unfold expN
        have : Nat.blt k C.nx0 = true := by simpa [Nat.blt_eq] using hk
        rw [this]
      have hexs : ∀ k, C.nx0 ≤ k → expN C.nx0 src k = C.nx0 + idxN src k := fun k hk => by
        unfold expN
        have : Nat.blt k C.nx0 = false := by
          cases hb : Nat.blt k C.nx0 with
          | false => rfl
          | true => rw [Nat.blt_eq] at hb; omega
        rw [this]
      have hnl : new.length = src.length := by rw [← hnw, List.length_map, ← n1, List.length_map]
      obtain ⟨ι', hι'⟩ : ∃ ι' : Nat → Value, ∀ k, ι' k = if C.nx0 ≤ k ∧ k < C.nx0 + new.length then ι1 (src.getD (k - C.nx0) 0) else ι k := ⟨_, fun _ => rfl⟩
      have hlow : ∀ k, k < C.nx0 → ι' k = ι1 k := fun k hk => by rw [hι', if_neg (by omega), I.ik k hk]
      have hρ : ∀ k, (k < C.nx0 ∨ k ∈ src) → ι' (expN C.nx0 src k) = ι1 k := fun k hk => by
        by_cases hlt : k < C.nx0
        · rw [hexp k hlt]; exact hlow k hlt
        · have hks : k ∈ src := by rcases hk with h | h; exact absurd h hlt; exact h
          obtain ⟨i1, i2⟩ := idxN_at hks
          rw [hexs k (by omega), hι', if_pos (by omega), show C.nx0 + idxN src k - C.nx0 = idxN src k by omega]
          simp [List.getD, i1]
      have hclos : ∀ {l : List (Nat × Blk)}, closB C.nx0 src l = true → ∀ p ∈ l, ∀ k, p.2.men k = true → k < C.nx0 ∨ k ∈ src := fun {l} hl p hp k hk => by
        have := List.all_eq_true.1 (List.all_eq_true.1 hl p hp) k (men_refs hk)
        rcases (by simpa only [Bool.or_eq_true] using this : _ ∨ _) with h | h
        · left; rw [Nat.blt_eq] at h; exact h
        · right
          obtain ⟨k', hk', e⟩ := List.any_eq_true.1 h
          rw [Nat.eq_of_beq_eq_true e]; exact hk'
      have hI := I
      -- a block of what the caller handed in belongs to a name that has been given up, if it isn't that name's own any more
      have hM : ∀ g, (∃ p ∈ m, p.2.live = true ∧ blkOf (ι p.1) = some g) → (∃ k, (k, Blk.dead) ∈ upd ∧ blkOf (ι k) = some g) ∨ ∃ p ∈ u, p.2.live = true ∧ blkOf (ι1 p.1) = some g := fun g ⟨p, hp, hl, hg⟩ => by
        obtain ⟨q, hq, he⟩ : ∃ q ∈ u, q.1 = p.1 := by
          have : p.1 ∈ u.map (·.1) := by rw [u1]; exact List.mem_map.2 ⟨p, hp, rfl⟩
          obtain ⟨q, hq, he⟩ := List.mem_map.1 this
          exact ⟨q, hq, he⟩
        cases hql : q.2.live with
        | true => exact .inr ⟨q, hq, hql, by rw [I.ik q.1 (hult q hq), he]; exact hg⟩
        | false =>
          refine .inl ⟨q.1, ?_, by rw [he]; exact hg⟩
          rw [← hu]
          refine List.mem_map.2 ⟨q, hq, ?_⟩
          rw [hexp q.1 (hult q hq)]
          have : q.2 = .dead := by cases hb : q.2 <;> simp_all [Blk.live]
          rw [this]; rfl
      have hnoS : ∀ p : Nat × Blk, findL st.mem p.1 = some p.2 → p.2.live = true → (p.1 < C.nx0 ∨ p.1 ∈ src) → ∀ g, blkOf (ι1 p.1) = some g → ¬ giveUp ι1 S1 ks g := fun p hp hl hpk g hg hgu => by
        rcases hgu with h | ⟨k, hk, h⟩
        · exact ((I.blk p.1 p.2 hp).own hl hg).1 h
        · obtain ⟨size, e, rows, hmk, _⟩ := hrows k hk
          have := I.dst p.1 k p.2 _ g hp hmk hl rfl hg h
          rcases hpk with hpk | hpk
          · have := hks k hk; omega
          · rw [this] at hpk
            exact disj_spec c2 hk hpk
      have hok : ∀ {l : List (Nat × Blk)}, (∀ p ∈ l, findL st.mem p.1 = some p.2) → closB C.nx0 src l = true → (∀ p ∈ l, p.1 < C.nx0 ∨ p.1 ∈ src) → ∀ p ∈ l, BlkOk ι' (giveUp ι1 S1 ks) w' (expN C.nx0 src p.1) (p.2.ren (expN C.nx0 src)) := fun {l} h1 h2 h3 p hp => by
        refine BlkOk_to (ι := ι1) (fun _ => hρ _ (h3 p hp)) (fun k hk => hρ k (hclos h2 p hp k hk)) ?_
        exact BlkOk.mono (fun _ _ => rfl) (fun b hb => .inl hb) (fun _ => rfl) (fun _ _ => rfl) (fun hl g hg => ⟨rfl, hnoS p (h1 p hp) hl (h3 p hp) g hg⟩) (I.blk p.1 p.2 (h1 p hp))
      have hsn : ∀ p ∈ n, p.1 ∈ src := fun p hp => by rw [← n1]; exact List.mem_map.2 ⟨p, hp, rfl⟩
      have hnew : ∀ i b, new[i]? = some b → ∃ p, n[i]? = some p ∧ p ∈ n ∧ src[i]? = some p.1 ∧ b = p.2.ren (expN C.nx0 src) ∧ ι' (C.nx0 + i) = ι1 p.1 := fun i b hb => by
        rw [← hnw, List.getElem?_map] at hb
        obtain ⟨p, hp, rfl⟩ := Option.map_eq_some_iff.1 hb
        have hsi : src[i]? = some p.1 := by rw [← n1, List.getElem?_map, hp]; rfl
        have hlt := (List.getElem?_eq_some_iff.1 hsi).1
        refine ⟨p, hp, List.mem_of_getElem? hp, hsi, rfl, ?_⟩
        rw [hι', if_pos (by omega), show C.nx0 + i - C.nx0 = i by omega]
        simp [List.getD, hsi]
      have hMg : ∀ (g : Nat) (p : Nat × Blk), findL st.mem p.1 = some p.2 → p.2.live = true → p.1 ∈ src → blkOf (ι1 p.1) = some g → (∃ q ∈ m, q.2.live = true ∧ blkOf (ι q.1) = some g) → ∃ k, (k, Blk.dead) ∈ upd ∧ blkOf (ι k) = some g := fun g p hp hl hps hg hMM => by
        rcases hM g hMM with h | ⟨q, hq, hql, hqg⟩
        · exact h
        · have := I.dst p.1 q.1 p.2 q.2 g hp (u2 q hq) hl hql hg hqg
          have h1 := hsrc _ hps
          have h2 := hult q hq
          omega
      refine ⟨ι', giveUp ι1 S1 ks, hval ι' hρ, fun k hk => (hι' k).trans (if_neg (by simp only at hk; omega)), fun b hb => .inl (I.s0 b hb), fun b hb => ?_, fun b hb => ?_, I.os, I.tape, I.output, I.size, fun b hb hne => I.old b hb fun ⟨p, hp, _, hg⟩ => ?_, fun k b hk => ?_, fun i b hb => ?_, fun i b hb hl g hg => ?_, fun i j b b' g hb hb' hl hl' hg hg' => ?_⟩
      · have fin : (∃ p ∈ m, p.2.live = true ∧ blkOf (ι p.1) = some b) → (∀ p ∈ u, p.2.live = true → blkOf (ι1 p.1) = some b → False) → S b ∨ w.heap.size ≤ b ∨ ∃ k, (k, Blk.dead) ∈ upd ∧ blkOf (ι k) = some b := fun hMM hno => by
          rcases hM b hMM with h | ⟨p, hp, hl, hg⟩
          · exact .inr (.inr h)
          · exact (hno p hp hl hg).elim
        rcases hb with hb | ⟨k, hk, hb⟩
        · rcases I.sg b hb with h | h | h
          · exact .inl h
          · exact .inr (.inl h)
          · exact fin h fun p hp hl hg => ((I.blk p.1 p.2 (u2 p hp)).own hl hg).1 hb
        · obtain ⟨size, e, rows, hmk, _⟩ := hrows k hk
          rcases I.mutb k _ hmk rfl b hb with h | h
          · exact fin h fun p hp hl hg => by
              have h1 := I.dst p.1 k p.2 _ b (u2 p hp) hmk hl rfl hg hb
              have h2 := hks k hk
              have h3 := hult p hp
              omega
          · exact .inr (.inl h)
      · rcases hb with hb | ⟨k, hk, hb⟩
        · exact I.slt b hb
        · obtain ⟨size, e, rows, _, hr⟩ := hrows k hk
          exact (row_lt hr b hb).1
      · refine hne p.1 ?_ hg
        rw [← hu]
        have : p.1 ∈ u.map (·.1) := by rw [u1]; exact List.mem_map.2 ⟨p, hp, rfl⟩
        obtain ⟨q, hq, he⟩ := List.mem_map.1 this
        refine List.mem_map.2 ⟨_, List.mem_map.2 ⟨q, hq, rfl⟩, ?_⟩
        simp only
        rw [hexp q.1 (hult q hq)]
        exact he
      · rw [← hu] at hk
        obtain ⟨p, hp, he⟩ := List.mem_map.1 hk
        cases he
        exact hok u2 c5 (fun p hp => .inl (hult p hp)) p hp
      · obtain ⟨p, h1, h2, h3, rfl, h5⟩ := hnew i b hb
        have := hok n2 c6 (fun p hp => .inr (hsn p hp)) p h2
        have hidx : expN C.nx0 src p.1 = C.nx0 + i := by
          rw [hexs _ (hsrc _ (hsn p h2))]
          obtain ⟨i1, i2⟩ := idxN_at (hsn p h2)
          rw [nodupB_at c1 _ _ _ i1 h3]
        rwa [hidx] at this
      · obtain ⟨p, h1, h2, h3, rfl, h5⟩ := hnew i b hb
        rw [Blk.live_ren] at hl
        rw [h5] at hg
        have hp := n2 p h2
        refine ⟨fun hS => ((I.blk p.1 p.2 hp).own hl hg).1 (I.s0 g hS), ?_⟩
        rcases I.mutb p.1 p.2 hp hl g hg with h | h
        · exact .inr (hMg g p hp hl (hsn p h2) hg h)
        · exact .inl h
      · obtain ⟨p, h1, h2, h3, rfl, h5⟩ := hnew i b hb
        obtain ⟨q, q1, q2, q3, rfl, q5⟩ := hnew j b' hb'
        rw [Blk.live_ren] at hl hl'
        rw [h5] at hg
        rw [q5] at hg'
        have := I.dst p.1 q.1 p.2 q.2 g (n2 p h2) (n2 q q2) hl hl' hg hg'
        rw [← this] at q3
        exact nodupB_at c1 _ _ _ h3 q3
theorem fn_ruleK {C : Ctx} {f : FuncId} {fn : Func} {c : Code} (hL : LOk C.P C.L) (hm : C.P.follows .mixedOrders = true) (hf : C.P.funcs[f]? = some fn) (hb : fn.body = some c) (hname : (fn.name == "runtime.NumGoroutine") = false)
    (hn : fn.ntmps = C.n) {xs : List T1} (hx : Nat.ble xs.length C.n = true) {m : List (Nat × Blk)} (hml : (m.all fun p => Nat.blt p.1 C.nx0) = true) {r : TV} {upd : List (Nat × Blk)} {new : List Blk}
    (h : vc C c ⟨argTm 0 xs, m, C.nx0⟩ (fnQK C.L fn.results.toList (m.map (·.1)) C.nx0 r upd new)) : CallsM C.P C.Γ f m C.nx0 xs r upd new := by
  refine ⟨⟨fn, hf, hname, by rw [hb]; rfl⟩, fun ι S w vs hS hG hblk hdst hvs => ?_⟩
  have hxl := Nat.le_of_ble_eq_true hx
  have hlen := hvs.len
  have hmlt : ∀ p ∈ m, p.1 < C.nx0 := fun p hp => Nat.lt_of_succ_le (Nat.le_of_ble_eq_true (List.all_eq_true.1 hml p hp))
  refine calls_of_wp hf hb ?_
  have hR : RS ⟨w, fun g => ∃ p ∈ m, p.2.live = true ∧ blkOf (ι p.1) = some g, S, C.n, C.Γ, ι, C.nx0, []⟩ ⟨argTm 0 xs, m, C.nx0⟩ { tmps := vs.toArray ++ Array.replicate (fn.ntmps - vs.toArray.size) undef, defers := [] } w := by
    refine ⟨ι, S, rfl, rfl, rfl, Nat.le_refl _, fun _ _ _ => rfl, hS, fun _ h => h, fun _ h => .inl h, fun t tv ht => ?_, fun k b hk => hblk _ (findL_mem hk), fun k b hk hl g hg => .inl ⟨(k, b), findL_mem hk, hl, hg⟩, fun k k' b b' g hk hk' hl hl' hg hg' => hdst _ (findL_mem hk) _ (findL_mem hk') g hl hl' hg hg', rfl, ?_, hG, fun _ _ => rfl⟩
    · obtain ⟨x, rfl, _, hx⟩ := argTm_find xs 0 t tv ht
      rw [Nat.sub_zero] at hx
      obtain ⟨u, hu, hv⟩ := hvs.at_left hx
      have hlt := (List.getElem?_eq_some_iff.1 hu).1
      have : (vs.toArray ++ Array.replicate (fn.ntmps - vs.toArray.size) undef).getD t undef = u := by
        simp [Array.getElem?_append, hlt, hu]
        have h2 := (List.getElem?_eq_some_iff.1 hu).2
        exact h2
      show V ι S w (.o x) _
      dsimp only
      rw [this]
      exact hv
    · simp; omega
  refine Code.wp_mono (fun e a w' hq => ?_) (vc_ok hL ⟨rfl, rfl, rfl⟩ hm c _ _ _ w h hR)
  obtain ⟨st, hR', hq⟩ := hq
  have core := core_afterK (C := C) (m := m) (upd := upd) (new := new) (ι := ι) (S := S) (w := w) (w' := w') (st := st) (a := a) (dd := []) (en := C.n) hmlt
  have key : retOkK C.L fn.results.toList (m.map (·.1)) C.nx0 r upd new st → a.defers = [] ∧ ∃ v, (results fn a.tmps).run C.P w' = .ok v w' ∧ ((∃ x ι' S', Ending.returned v = .returned x ∧ After ι S w C.nx0 ⟨r, m.map (·.1), upd, new⟩ x ι' S' w') ∨ ∃ v0 ι' S', r = .pan v0 ∧ Ending.returned v = .panicked (panE v0) ∧ After ι S w C.nx0 ⟨.und, m.map (·.1), upd, new⟩ undef ι' S' w') := fun hret => by
    obtain ⟨ι1, S1, I⟩ := hR'
    unfold retOkK at hret
    split at hret
    · rename_i k0 l hl
      split at hret
      · rename_i y ys ks u n hy hu0 hn0
        obtain ⟨hchk, hr, hu, hnw⟩ := hret
        obtain ⟨v, hres, hrows, hval⟩ := results_okK hL I hl hy
        have hx0 : expN C.nx0 [k0] k0 = C.nx0 := by
          have h4 : ([k0].all fun k => Nat.ble C.nx0 k) = true := by
            simp only [Bool.and_eq_true] at hchk
            exact hchk.1.1.2
          have h5 := Nat.le_of_ble_eq_true (List.all_eq_true.1 h4 k0 (by simp))
          unfold expN
          have : Nat.blt k0 C.nx0 = false := by
            cases hb : Nat.blt k0 C.nx0 with
            | false => rfl
            | true => rw [Nat.blt_eq] at hb; omega
          rw [this]
          simp [idxN]
        obtain ⟨ι', S', A⟩ := core ι1 S1 r v ks u n [k0] I ⟨hu0, hn0⟩ hchk hu hnw hrows (fun ι' hι => hr _ _ _ _ (hval ι' C.nx0 (by rw [← hx0]; exact hι k0 (.inr (by simp)))))
        exact ⟨I.dn, v, hres, .inl ⟨v, ι', S', rfl, A⟩⟩
      · exact hret.elim
    · exact hret.elim
  cases e with
  | normal => exact key hq
  | ret => exact key hq
  | _ => exact hq.elim
/-- A function of data, where rows among arguments stay rows. -/
theorem CallsA.toM {P : Program} {Γ : Glob} {f : FuncId} {xs : List T1} {r : TV} (h : CallsA P Γ f xs r) (hx : xs.all T1.pure = true) (hr : r.pure = true) (nx : Nat) : CallsM P Γ f [] nx xs r [] [] :=
  ⟨h.1, fun ι S w vs hs hG _ _ hv => (h.2 S w vs hs hG (hv.mono_mem fun a u ha hau => V1.mono (fun _ _ => rfl) (fun _ h => h) (fun k hk => by rw [T1.pure_men (List.all_eq_true.1 hx a ha) k] at hk; cases hk) hau)).mono fun e w' ⟨x, S', he, hb, hm, hg, hlt, hv⟩ =>
    .inl ⟨x, ι, S', he, ⟨V.mono (fun _ _ => rfl) (fun _ h => h) (fun k hk => by rw [TV.pure_men hr k] at hk; cases hk) hv, fun _ _ => rfl, hm, fun b hb => (hg b hb).elim .inl (fun h => .inr (.inl h)), hlt, hb.os, hb.tape, hb.output, hb.size, fun b hb' _ => hb.block b hb', (fun _ _ h => by simp at h), (fun _ _ h => by simp at h), (fun _ _ h => by simp at h), (fun _ _ _ _ _ h => by simp at h)⟩⟩⟩
end Go.Proofs.YtkbhmcdoedmffaaDoor

namespace Go.Proofs.YtkbhmcdoedmffaaDoor
set_option linter.unusedVariables false
set_option linter.unusedSimpArgs false
open Go.RowKit
set_option maxRecDepth 100000

def refsC1 : CV → List Nat
  | .ptr k _ | .row k | .rptr k _ _ _ | .mp k | .rsl k _ _ _ => [k]
  | _ => []
def refsT : List T1 → List Nat
  | [] => []
  | .c x :: l => refsC1 x ++ refsT l
  | .g x :: l => x.flatMap refsC1 ++ refsT l
  | .f _ _ x :: l => x.flatMap refsC1 ++ refsT l
theorem men_refsC {x : CV} {k : Nat} (h : x.men k = true) : k ∈ refsC1 x := by
  cases x <;> simp_all [CV.men, refsC1]
theorem men_refs1 {x : T1} {l : List T1} {k : Nat} (hx : x ∈ l) (h : x.men k = true) : k ∈ refsT l := by
  induction l with
  | nil => cases hx
  | cons y l ih =>
    rcases List.mem_cons.1 hx with rfl | hx2
    · cases x with
      | c x => exact List.mem_append_left _ (men_refsC h)
      | g x =>
        obtain ⟨c, hc, hk⟩ := List.any_eq_true.1 h
        exact List.mem_append_left _ (List.mem_flatMap.2 ⟨c, hc, men_refsC hk⟩)
      | f g a x =>
        obtain ⟨c, hc, hk⟩ := List.any_eq_true.1 h
        exact List.mem_append_left _ (List.mem_flatMap.2 ⟨c, hc, men_refsC hk⟩)
    · cases y <;> exact List.mem_append_right _ (ih hx2)
theorem men_refsT {ys : List T1} {k : Nat} (h : (retT ys).men k = true) : k ∈ refsT ys := by
  match ys, h with
  | [y], h => exact men_refs1 (x := y) (by simp) h
  | [], h => cases h
  | y :: z :: ys, h =>
    obtain ⟨x, hx, hk⟩ := List.any_eq_true.1 h
    exact men_refs1 hx hk
def retOkR (L : Nat → Option Lay) (rs : List ResultVar) (ns : List Nat) (nx : Nat) (r : TV) (upd : List (Nat × Blk)) (new : List Blk) (st : St) : Prop :=
  match plainT (rs.map (resC L st)) with
  | some ys => forceNs ((reach (findL st.mem) 60 (ns ++ refsT ys) []).filter fun k => Nat.ble nx k) fun src => match subMem (findL st.mem) ns, subMem (findL st.mem) src with
    | some u, some n => (nodupB src && disj [] src && (([] : List Nat).all fun k => Nat.ble nx k) && (src.all fun k => Nat.ble nx k) && closB nx src u && closB nx src n) = true ∧ ((refsT ys).all fun k => Nat.blt k nx || src.any (Nat.beq k)) = true ∧ TLe ((retT ys).ren (expN nx src)) r ∧ renM (expN nx src) u = upd ∧ (n.map fun p => p.2.ren (expN nx src)) = new
    | _, _ => False
  | none => False
def fnQR (L : Nat → Option Lay) (rs : List ResultVar) (ns : List Nat) (nx : Nat) (r : TV) (upd : List (Nat × Blk)) (new : List Blk) : Exit → St → Prop
  | .normal, st | .ret, st => retOkR L rs ns nx r upd new st
  | .panic ch, st => panIs r ch ∧ retOkP ns nx upd new st
  | _, _ => False
theorem results_okR {P : Program} {L : Nat → Option Lay} (hL : LOk P L) {E : Env} {ι : Nat → Value} {S : Nat → Prop} {st : St} {a : Act} {w : World} (I : Inv E ι S (findL st.tm) (findL st.mem) a w) {fn : Func} {ys : List T1}
    (hy : plainT (fn.results.toList.map (resC L st)) = some ys) : ∃ v, (results fn a.tmps).run P w = .ok v w ∧ V ι S w (retT ys) v := by
  have hone : ∀ rv tv, resC L st rv = some tv → ∃ v, (resF a.tmps rv).run P w = .ok v w ∧ V ι S w tv v := fun rv tv hrv => by
    cases rv with
    | tmp t => exact ⟨_, rfl, I.tms t tv hrv⟩
    | cell b t =>
      simp only [resC] at hrv
      split at hrv
      · rename_i l k off hl hb
        split at hrv
        · rename_i cells tg hk
          split at hrv
          · rename_i hle
            obtain ⟨bk, hb1, hb2⟩ := I.tms b _ hb
            obtain ⟨b', arr, ty, h3, h4, h5, _⟩ := I.blk k _ hk
            obtain rfl : bk = b' := by rw [hb1] at h3; cases h3; rfl
            have hlen := h5.len
            have hle' := Nat.le_of_ble_eq_true hle
            have hr := run_load_range (P := P) (layOf_ok (hL _ _ hl)) (w := w) (g := bk) (f := off) (us := (arr.toList.drop off).take l.size) (by simp at hlen ⊢; omega) (fun j u hj => by
              obtain ⟨hj1, _⟩ := drop_take_get hj
              rw [cell_of_row w bk (off + j) arr ty.1 (0, 0) h4]
              simpa using hj1)
            rcases V_ofCells hrv ((h5.drop off).take l.size) with ⟨ha, hV⟩ | ⟨ha, u, hu, hV⟩
            · exact ⟨_, by simp only [resF, hb2]; simp [asAddr, hr.1 ha], hV⟩
            · exact ⟨_, by simp only [resF, hb2]; simp [asAddr, hr.2 ha u hu], hV⟩
          · cases hrv
        · cases hrv
      · cases hrv
  have hvals : ∀ (l : List ResultVar) (ys : List T1), plainT (l.map (resC L st)) = some ys → ∃ vs, All2 (fun rv v => (resF a.tmps rv).run P w = .ok v w) l vs ∧ All2 (fun (a : Option TV) u => ∀ tv, a = some tv → V ι S w tv u) (l.map (resC L st)) vs := fun l => by
    induction l with
    | nil => intro ys _; exact ⟨[], .nil, .nil⟩
    | cons rv l ih =>
      intro ys h
      simp only [List.map_cons] at h
      cases hrv : resC L st rv with
      | none => rw [hrv] at h; simp [plainT] at h
      | some tv =>
        rw [hrv] at h
        cases tv with
        | no => simp [plainT] at h
        | und => simp [plainT] at h
        | tup l => simp [plainT] at h
        | pan v => simp [plainT] at h
        | o x =>
          simp only [plainT] at h
          obtain ⟨ys', h2, -⟩ := Option.map_eq_some_iff.1 h
          obtain ⟨vs, g1, g2⟩ := ih ys' h2
          obtain ⟨v, e1, e2⟩ := hone rv _ hrv
          refine ⟨v :: vs, .cons e1 g1, ?_⟩
          simp only [List.map_cons]
          refine .cons (fun tv htv => ?_) g2
          rw [hrv] at htv; cases htv
          exact e2
  obtain ⟨vs, g1, g2⟩ := hvals _ ys hy
  have hres : (results fn a.tmps).run P w = .ok (if h : vs.toArray.size = 1 then vs.toArray[0] else .tuple vs.toArray) w := by
    have h1 := mapM_run _ _ _ g1
    rw [results_F, Sem.run_bind, Array.mapM_eq_mapM_toList, run_map, h1]
    rfl
  refine ⟨_, hres, ?_⟩
  have hall := plainT_ok (S' := S) (fun b hb => hb) hy g2
  match ys, vs, hall with
  | [y], vs, hall =>
    obtain ⟨v, rfl, hv⟩ := hall.one_left
    exact hv
  | [], vs, hall =>
    obtain rfl := hall.nil_left
    exact ⟨[], rfl, .nil⟩
  | y :: z :: ys, vs, hall =>
    have : ¬ vs.toArray.size = 1 := by have := hall.len; simp at this ⊢; omega
    rw [dif_neg this]
    exact ⟨vs, rfl, hall⟩
theorem fn_ruleR {C : Ctx} {f : FuncId} {fn : Func} {c : Code} (hL : LOk C.P C.L) (hm : C.P.follows .mixedOrders = true) (hf : C.P.funcs[f]? = some fn) (hb : fn.body = some c) (hname : (fn.name == "runtime.NumGoroutine") = false)
    (hn : fn.ntmps = C.n) {xs : List T1} (hx : Nat.ble xs.length C.n = true) {m : List (Nat × Blk)} (hml : (m.all fun p => Nat.blt p.1 C.nx0) = true) {r : TV} {upd : List (Nat × Blk)} {new : List Blk}
    (h : vc C c ⟨argTm 0 xs, m, C.nx0⟩ (fnQR C.L fn.results.toList (m.map (·.1)) C.nx0 r upd new)) : CallsM C.P C.Γ f m C.nx0 xs r upd new := by
  refine ⟨⟨fn, hf, hname, by rw [hb]; rfl⟩, fun ι S w vs hS hG hblk hdst hvs => ?_⟩
  have hxl := Nat.le_of_ble_eq_true hx
  have hlen := hvs.len
  have hmlt : ∀ p ∈ m, p.1 < C.nx0 := fun p hp => Nat.lt_of_succ_le (Nat.le_of_ble_eq_true (List.all_eq_true.1 hml p hp))
  refine calls_of_wp hf hb ?_
  have hR : RS ⟨w, fun g => ∃ p ∈ m, p.2.live = true ∧ blkOf (ι p.1) = some g, S, C.n, C.Γ, ι, C.nx0, []⟩ ⟨argTm 0 xs, m, C.nx0⟩ { tmps := vs.toArray ++ Array.replicate (fn.ntmps - vs.toArray.size) undef, defers := [] } w := by
    refine ⟨ι, S, rfl, rfl, rfl, Nat.le_refl _, fun _ _ _ => rfl, hS, fun _ h => h, fun _ h => .inl h, fun t tv ht => ?_, fun k b hk => hblk _ (findL_mem hk), fun k b hk hl g hg => .inl ⟨(k, b), findL_mem hk, hl, hg⟩, fun k k' b b' g hk hk' hl hl' hg hg' => hdst _ (findL_mem hk) _ (findL_mem hk') g hl hl' hg hg', rfl, ?_, hG, fun _ _ => rfl⟩
    · obtain ⟨x, rfl, _, hx⟩ := argTm_find xs 0 t tv ht
      rw [Nat.sub_zero] at hx
      obtain ⟨u, hu, hv⟩ := hvs.at_left hx
      have hlt := (List.getElem?_eq_some_iff.1 hu).1
      have : (vs.toArray ++ Array.replicate (fn.ntmps - vs.toArray.size) undef).getD t undef = u := by
        simp [Array.getElem?_append, hlt, hu]
        have h2 := (List.getElem?_eq_some_iff.1 hu).2
        exact h2
      show V ι S w (.o x) _
      dsimp only
      rw [this]
      exact hv
    · simp; omega
  refine Code.wp_mono (fun e a w' hq => ?_) (vc_ok hL ⟨rfl, rfl, rfl⟩ hm c _ _ _ w h hR)
  obtain ⟨st, hR', hq⟩ := hq
  have core := core_after (C := C) (m := m) (upd := upd) (new := new) (ι := ι) (S := S) (w := w) (w' := w') (st := st) (a := a) (dd := []) (en := C.n) hmlt
  have coreK := core_afterK (C := C) (m := m) (upd := upd) (new := new) (ι := ι) (S := S) (w := w) (w' := w') (st := st) (a := a) (dd := []) (en := C.n) hmlt
  have key : retOkR C.L fn.results.toList (m.map (·.1)) C.nx0 r upd new st → a.defers = [] ∧ ∃ v, (results fn a.tmps).run C.P w' = .ok v w' ∧ ((∃ x ι' S', Ending.returned v = .returned x ∧ After ι S w C.nx0 ⟨r, m.map (·.1), upd, new⟩ x ι' S' w') ∨ ∃ v0 ι' S', r = .pan v0 ∧ Ending.returned v = .panicked (panE v0) ∧ After ι S w C.nx0 ⟨.und, m.map (·.1), upd, new⟩ undef ι' S' w') := fun hret => by
    obtain ⟨ι1, S1, I⟩ := hR'
    unfold retOkR at hret
    split at hret
    · rename_i ys hy
      rw [forceNs_eq] at hret
      split at hret
      · rename_i u n hu0 hn0
        obtain ⟨hchk, hnm, hr, hu, hnw⟩ := hret
        obtain ⟨v, hres, hval⟩ := results_okR hL I hy
        obtain ⟨ι', S', A⟩ := coreK ι1 S1 r v [] u n _ I ⟨hu0, hn0⟩ hchk hu hnw (by simp) (fun ι' hι => by
          rw [giveUp_nil]
          refine hr _ _ _ _ ?_
          have h2 : V (fun k => ι' (expN C.nx0 ((reach (findL st.mem) 60 (m.map (·.1) ++ refsT ys) []).filter fun k => Nat.ble C.nx0 k) k)) S1 w' (retT ys) v := V.mono (fun _ _ => rfl) (fun _ h => h) (fun k hk => hι k (by
            have := List.all_eq_true.1 hnm k (men_refsT hk)
            rcases (by simpa only [Bool.or_eq_true] using this : _ ∨ _) with h | h
            · left; rw [Nat.blt_eq] at h; exact h
            · right
              obtain ⟨k', hk', e⟩ := List.any_eq_true.1 h
              rw [Nat.eq_of_beq_eq_true e]; exact hk')) hval
          exact (V_ren (ι := fun k => ι' (expN C.nx0 ((reach (findL st.mem) 60 (m.map (·.1) ++ refsT ys) []).filter fun k => Nat.ble C.nx0 k) k)) (ι' := ι') (fun k => rfl)).2 h2)
        exact ⟨I.dn, v, hres, .inl ⟨v, ι', S', rfl, A⟩⟩
      · exact hret.elim
    · exact hret.elim
  cases e with
  | normal => exact key hq
  | ret => exact key hq
  | panic ch =>
    obtain ⟨⟨v0, hr0, rfl⟩, hret⟩ := hq
    obtain ⟨ι1, S1, I⟩ := hR'
    unfold retOkP at hret
    split at hret
    · rename_i u n src hex
      obtain ⟨hchk, hu, hnw⟩ := hret
      obtain ⟨ι', S', A⟩ := core ι1 S1 .und undef [] u n src I hex hchk hu hnw (by simp) (fun _ => rfl)
      exact ⟨I.dn, .inr ⟨v0, ι', S', hr0, rfl, A⟩⟩
    · exact hret.elim
  | _ => exact hq.elim
end Go.Proofs.YtkbhmcdoedmffaaDoor

namespace Go.Proofs.YtkbhmcdoedmffaaDoor
set_option linter.unusedVariables false
set_option linter.unusedSimpArgs false
open Go.RowKit
set_option maxRecDepth 100000

/-- What reads as the one reads as the other. -/
def DLe (d d' : D) : Prop := ∀ (S : Nat → Prop) (w : World) (u : Value), Imm S w d u → Imm S w d' u
theorem DLe.rfl {d : D} : DLe d d := fun _ _ _ h => h
theorem DLe.nil {s : Nat} : DLe dnil (.sl s []) := fun _ _ _ h => by cases h; exact Imm.nil
theorem All2.flat {α β : Type} {R : α → β → Prop} : ∀ {l : List (List α)} {m : List (List β)}, All2 (All2 R) l m → All2 R l.flatten m.flatten
  | [], m, h => by obtain rfl := h.nil_left; exact .nil
  | a :: l, m, h => by
    obtain ⟨b, m', rfl, h1, h2⟩ := h.cons_left
    exact h1.append h2.flat
theorem DLe.sl {s : Nat} {rows rows' : List (List D)} (h : All2 (All2 DLe) rows rows') : DLe (.sl s rows) (.sl s rows') := fun S w u hu => by
  have hf := h.flat
  cases hu with
  | nil => obtain rfl := h.nil_left; exact Imm.nil
  | sl0 => obtain rfl := h.nil_left; exact Imm.sl0
  | sl us hs hc hr h1 h2 =>
    rw [h.len] at hc ⊢
    refine Imm.sl us hs hc (fun r hr' => ?_) (fun j d hj => ?_) (fun j d hj => ?_)
    · obtain ⟨i, hi⟩ := List.getElem?_of_mem hr'
      obtain ⟨r0, e0, e1⟩ := h.at_right hi
      rw [← e1.len]
      exact hr r0 (List.mem_of_getElem? e0)
    · obtain ⟨d0, e0, e1⟩ := hf.at_right hj
      exact h1 j d0 e0
    · obtain ⟨d0, e0, e1⟩ := hf.at_right hj
      exact e1 _ _ _ (h2 j d0 e0)
/-- A contract, met with arguments that read as its own. -/
theorem CallsA.args {P : Program} {Γ : Glob} {f : FuncId} {xs ys : List T1} {r : TV} (h : CallsA P Γ f ys r) (hx : ∀ (S : Nat → Prop) (w : World) (vs : List Value), All2 (V1 ι0 S w) xs vs → All2 (V1 ι0 S w) ys vs) : CallsA P Γ f xs r :=
  ⟨h.1, fun S w vs hS hG hv => h.2 S w vs hS hG (hx S w vs hv)⟩
theorem CallsA.arg1 {P : Program} {Γ : Glob} {f : FuncId} {d d' : D} {xs : List T1} {r : TV} (h : CallsA P Γ f (c1 d' :: xs) r) (hd : DLe d d') : CallsA P Γ f (c1 d :: xs) r :=
  h.args fun S w vs hv => by
    obtain ⟨u, vs, rfl, h1, h2⟩ := hv.cons_left
    exact .cons (hd _ _ _ h1) h2
end Go.Proofs.YtkbhmcdoedmffaaDoor

namespace Go.Proofs.YtkbhmcdoedmffaaDoor
set_option linter.unusedVariables false
set_option linter.unusedSimpArgs false
open Go.RowKit
set_option maxRecDepth 100000

def flatTV : TV → Bool
  | .o (.c (.d (.v _))) => true
  | .tup l => l.all fun x => match x with
    | .c (.d (.v _)) => true
    | _ => false
  | _ => false
theorem flatTV_mono {ι ι' : Nat → Value} {S S' : Nat → Prop} {w : World} {r : TV} {x : Value} (h : flatTV r = true) (hv : V ι S w r x) : V ι' S' w r x := by
  unfold flatTV at h
  split at h
  · rename_i y
    have e := V_v hv
    subst e
    have h' : Imm S w (.v x) x := hv
    cases h' with
    | v h1 => exact V_mk h1
  · rename_i l
    obtain ⟨us, rfl, hall⟩ := hv
    refine ⟨us, rfl, hall.mono_mem fun a u ha hau => ?_⟩
    have h1 := List.all_eq_true.1 h a ha
    split at h1
    · rename_i y
      have h' : Imm S w (.v y) u := hau
      cases h' with
      | v h2 => exact Imm.v h2
    · cases h1
  · cases h
theorem CallsA.lend {P : Program} {Γ : Glob} {f : FuncId} {xs xs' : List T1} {r : TV} {ks : List Nat} (h : CallsA P Γ f xs r) (hr : flatTV r = true) (m : List (Nat × Blk)) (nx : Nat) (hm : ∀ p ∈ m, findL m p.1 = some p.2)
    (he : eatT (findL m) (xs'.map fun x => some (.o x)) = some (xs, ks)) : CallsM P Γ f m nx xs' r m [] :=
  ⟨h.1, fun ι S w vs hs hG hb hd hv => by
    have hrow : ∀ k ∈ ks, ∃ size e rows, BlkOk ι S w k (.row size e rows) := fun k hk => by
      obtain ⟨size, e, rows, hf⟩ := eatT_rows he k hk
      exact ⟨size, e, rows, hb _ (findL_mem hf)⟩
    have hS1 : ∀ b, giveUp ι S ks b → b < w.heap.size := fun b hb => by
      rcases hb with hb | ⟨k, hk, hb⟩
      · exact hs b hb
      · obtain ⟨size, e, rows, hr⟩ := hrow k hk
        exact (row_lt hr b hb).1
    have hargs : All2 (fun (a : Option TV) u => ∀ tv, a = some tv → V ι S w tv u) (xs'.map fun x => some (.o x)) vs := All2.map_left (hv.mono fun a u hau tv htv => by cases htv; exact hau)
    have hall := eatT_ok (ι' := ι0) (S' := giveUp ι S ks) (fun b hb => .inl hb) he hargs (fun k hk b hf => hb _ (findL_mem hf)) (fun k hk g hg => .inr ⟨k, hk, hg⟩)
    refine (h.2 (giveUp ι S ks) w vs hS1 (Γ.mono (fun _ _ => rfl) (fun b hb => .inl hb) hG) hall).mono fun e w' ⟨x, S', he, hbel, hsm, hg, hlt, hv⟩ => .inl ⟨x, ι, S, he, ?_⟩
    refine ⟨flatTV_mono hr hv, fun _ _ => rfl, fun _ h => h, fun _ h => .inl h, fun b hb => Nat.lt_of_lt_of_le (hs b hb) hbel.size, hbel.os, hbel.tape, hbel.output, hbel.size, fun b hb' _ => hbel.block b hb', fun k b hk => ?_, (fun _ _ h => by simp at h), (fun _ _ h => by simp at h), (fun _ _ _ _ _ h => by simp at h)⟩
    refine BlkOk.mono (fun b hb => hbel.block b (hs b hb)) (fun _ h => h) (fun _ => rfl) (fun _ _ => rfl) (fun hl g hg => ?_) (hb _ hk)
    have hB := hb _ hk
    obtain ⟨h1, h2⟩ := hB.sep hl hg
    exact ⟨hbel.block g h1, h2⟩⟩
/-- A contract with objects, met with a first argument that reads as its own. -/
theorem CallsM.args {P : Program} {Γ : Glob} {f : FuncId} {m : List (Nat × Blk)} {nx : Nat} {xs ys : List T1} {r : TV} {upd : List (Nat × Blk)} {new : List Blk} (h : CallsM P Γ f m nx ys r upd new)
    (hx : ∀ (ι : Nat → Value) (S : Nat → Prop) (w : World) (vs : List Value), All2 (V1 ι S w) xs vs → All2 (V1 ι S w) ys vs) : CallsM P Γ f m nx xs r upd new :=
  ⟨h.1, fun ι S w vs hs hG hb hd hv => h.2 ι S w vs hs hG hb hd (hx ι S w vs hv)⟩
theorem CallsM.arg1 {P : Program} {Γ : Glob} {f : FuncId} {m : List (Nat × Blk)} {nx : Nat} {d d' : D} {xs : List T1} {r : TV} {upd : List (Nat × Blk)} {new : List Blk} (h : CallsM P Γ f m nx (c1 d' :: xs) r upd new) (hd : DLe d d') : CallsM P Γ f m nx (c1 d :: xs) r upd new :=
  h.args fun ι S w vs hv => by
    obtain ⟨u, vs, rfl, h1, h2⟩ := hv.cons_left
    exact .cons (hd _ _ _ h1) h2
/-- A struct whose first cell is a nil slice reads as one with a slice without rows. -/
theorem g_nil {ι : Nat → Value} {S : Nat → Prop} {w : World} {s : Nat} {l : List CV} {xs : List T1} {vs : List Value} (h : All2 (V1 ι S w) (.g (.d dnil :: l) :: xs) vs) : All2 (V1 ι S w) (.g (.d (.sl s []) :: l) :: xs) vs := by
  obtain ⟨u, vs, rfl, h1, h2⟩ := h.cons_left
  obtain ⟨us, rfl, h3⟩ := h1
  obtain ⟨a, us, rfl, h4, h5⟩ := h3.cons_left
  exact .cons ⟨a :: us, rfl, .cons (CLe_nil (ι := ι) h4) h5⟩ h2
end Go.Proofs.YtkbhmcdoedmffaaDoor

namespace Go.Proofs.YtkbhmcdoedmffaaDoor
set_option linter.unusedVariables false
set_option linter.unusedSimpArgs false
open Go.RowKit
set_option maxRecDepth 100000

/-- A name may be given up at any time. -/
theorem SLe.kill {nx0 : Nat} {tm : List (Nat × TV)} {mem : List (Nat × Blk)} {nx nx' : Nat} {t : St} (k : Nat) (h : SLe nx0 ⟨tm, mem, nx⟩ t) : SLe nx0 ⟨tm, (k, .dead) :: mem, nx'⟩ t := fun E a w he hR => by
  obtain ⟨ι, S, I⟩ := h E a w he hR
  have hcase : ∀ n b, findL ((k, Blk.dead) :: mem) n = some b → b.live = true → findL mem n = some b := fun n b hb hl => by
    simp only [findL] at hb
    split at hb
    · cases hb; cases hl
    · exact hb
  refine ⟨ι, S, I.os, I.tape, I.output, I.size, I.old, I.slt, I.s0, I.sg, I.tms, fun n b hb => ?_, fun n b hb hl => I.mutb n b (hcase n b hb hl) hl, fun n n' b b' g hb hb' hl hl' => I.dst n n' b b' g (hcase n b hb hl) (hcase n' b' hb' hl') hl hl', I.dn, I.sz, I.gl, I.ik⟩
  cases hl : b.live with
  | true => exact I.blk n b (hcase n b hb hl)
  | false => cases b <;> first | trivial | cases hl
/-- A row that a call leaves as it is, told under a new name. -/
theorem CallsM.fork {P : Program} {Γ : Glob} {f : FuncId} {m : List (Nat × Blk)} {nx : Nat} {xs : List T1} {r : TV} {upd : List (Nat × Blk)} (h : CallsM P Γ f m nx xs r upd []) (k : Nat) (hk : k < nx) {b b0 : Blk} (hu : (k, b) ∈ upd) (hl : b.live = true) (hm0 : (k, b0) ∈ m) (hl0 : b0.live = true)
    (hb : ∀ n, b.men n = false) (hb' : ∀ ρ, b.ren ρ = b) (hr : ∀ n, nx ≤ n ∨ n = k → r.men n = false) (h1 : ∀ p ∈ upd, p.2.men nx = false) (h2 : ∀ p ∈ upd, p.1 < nx) :
    CallsM P Γ f m nx xs r (upd.map fun p => if p.1 = k then (k, .dead) else (p.1, p.2.ren fun n => if n = k then nx else n)) [b] :=
  ⟨h.1, fun ι S w vs hs hG hblk hdst hvs => by
    refine (h.2 ι S w vs hs hG hblk hdst hvs).mono fun e w' hX => ?_
    have hsep : ∀ g, blkOf (ι k) = some g → ¬ S g := fun g hg => ((hblk _ hm0).sep hl0 hg).2
    have conv : ∀ (tv : TV) (x : Value) (ι' : Nat → Value) (S' : Nat → Prop), (∀ n, nx ≤ n ∨ n = k → tv.men n = false) → After ι S w nx ⟨tv, m.map (·.1), upd, []⟩ x ι' S' w' →
        ∃ ι'', After ι S w nx ⟨tv, m.map (·.1), upd.map (fun p => if p.1 = k then (k, .dead) else (p.1, p.2.ren fun n => if n = k then nx else n)), [b]⟩ x ι'' S' w' := fun tv x ι' S' htv A => by
      obtain ⟨ι'', hι⟩ : ∃ ι'' : Nat → Value, ∀ n, ι'' n = if n = nx then ι' k else ι' n := ⟨_, fun _ => rfl⟩
      have hnx : ι'' nx = ι' k := by rw [hι, if_pos rfl]
      have ho : ∀ n, n ≠ nx → ι'' n = ι' n := fun n hn => by rw [hι, if_neg hn]
      have hik : ι' k = ι k := A.keep k (.inl hk)
      have hnames : ∀ n, n ∈ (upd.map (fun p => if p.1 = k then (k, Blk.dead) else (p.1, p.2.ren fun n => if n = k then nx else n))).map (·.1) ↔ n ∈ upd.map (·.1) := fun n => by
        rw [List.map_map]
        have : ((fun p : Nat × Blk => p.1) ∘ fun p : Nat × Blk => if p.1 = k then (k, Blk.dead) else (p.1, p.2.ren fun n => if n = k then nx else n)) = fun p => p.1 := by
          funext p
          simp only [Function.comp]
          split
          · rename_i e; exact e.symm
          · rfl
        rw [this]
      have hdead : ∀ n, (n, Blk.dead) ∈ upd → (n, Blk.dead) ∈ upd.map (fun p => if p.1 = k then (k, Blk.dead) else (p.1, p.2.ren fun n => if n = k then nx else n)) := fun n hn => by
        refine List.mem_map.2 ⟨_, hn, ?_⟩
        dsimp only
        split
        · rename_i e; subst e; rfl
        · rfl
      have hbok : BlkOk ι' S' w' k b := A.updok k b hu
      have hrow : ∀ n, n ≠ k → ∀ c : Blk, BlkOk ι' S' w' n c → n ≠ nx → (∀ j, c.men j = true → j ≠ nx) → BlkOk ι'' S' w' n (c.ren fun n => if n = k then nx else n) := fun n hn c hc hnn hcm => by
        have := BlkOk_to (ι' := ι'') (ρ := fun n => if n = k then nx else n) (k := n) (b := c) (fun _ => by simp only [if_neg hn]; exact ho n hnn) (fun j hj => by
          by_cases e : j = k
          · subst e; simp only [if_true]; exact hnx
          · simp only [if_neg e]; exact ho j (hcm j hj)) hc
        simpa only [if_neg hn] using this
      refine ⟨ι'', ?_, fun n hn => ?_, A.smono, fun c hc => ?_, A.slt, A.os, A.tape, A.output, A.size, fun c hc hne => A.heap c hc fun n hn => hne n ((hnames n).2 hn), fun n c hn => ?_, fun i c hc => ?_, fun i c hc hlc g hg => ?_, fun i j c c' g hi hj _ _ _ _ => ?_⟩
      · exact V.mono (fun _ _ => rfl) (fun _ h => h) (fun n hn => ho n fun e => by
          subst e
          rw [htv n (.inl (Nat.le_refl _))] at hn
          cases hn) A.val
      · have hne : n ≠ nx := by simp only [List.length_cons, List.length_nil] at hn; omega
        rw [ho n hne]
        exact A.keep n (by simp only [List.length_nil]; omega)
      · rcases A.sgrow c hc with h | h | ⟨n, hn, h⟩
        · exact .inl h
        · exact .inr (.inl h)
        · exact .inr (.inr ⟨n, hdead n hn, h⟩)
      · obtain ⟨p, hp, he⟩ := List.mem_map.1 hn
        split at he
        · cases he; trivial
        · rename_i hpk
          cases he
          by_cases hpx : p.1 = nx
          · have := h2 p hp
            omega
          · exact hrow p.1 hpk p.2 (A.updok p.1 p.2 hp) hpx (fun j hj e => by rw [e, h1 p hp] at hj; cases hj)
      · obtain ⟨hi, hcb⟩ := one_at hc
        rw [hi, hcb]
        have := BlkOk_to (ι' := ι'') (ρ := fun n => if n = k then nx else n) (k := k) (b := b) (fun _ => by simp only [if_true]; exact hnx) (fun j hj => by rw [hb j] at hj; cases hj) hbok
        simp only [if_true] at this
        rw [hb'] at this
        exact this
      · obtain ⟨hi, hcb⟩ := one_at hc
        rw [hi, Nat.add_zero, hnx, hik] at hg
        exact ⟨hsep g hg, .inr ⟨k, List.mem_map.2 ⟨_, hu, by simp⟩, hg⟩⟩
      · obtain ⟨rfl, _⟩ := one_at hi
        obtain ⟨rfl, _⟩ := one_at hj
        rfl
    rcases hX with ⟨x, ι', S', he, A⟩ | ⟨v, ι', S', hrv, he, A⟩
    · obtain ⟨ι'', A'⟩ := conv r x ι' S' hr A
      exact .inl ⟨x, ι'', S', he, A'⟩
    · obtain ⟨ι'', A'⟩ := conv .und undef ι' S' (fun _ _ => rfl) A
      exact .inr ⟨v, ι'', S', hrv, he, A'⟩⟩
end Go.Proofs.YtkbhmcdoedmffaaDoor

namespace Go.Proofs.YtkbhmcdoedmffaaDoor
set_option linter.unusedVariables false
set_option linter.unusedSimpArgs false
open Go.RowKit
set_option maxRecDepth 100000

def deadM (ns : List Nat) : List (Nat × Blk) := ns.map fun k => (k, .dead)
def fnQP (L : Nat → Option Lay) (rs : List ResultVar) (ns : List Nat) (nx : Nat) (r : TV) (upd : List (Nat × Blk)) (new : List Blk) : Exit → St → Prop
  | .normal, st | .ret, st => retOkM L rs ns nx r upd new st
  | .panic ch, _ => panIs r ch ∧ upd = deadM ns ∧ new = []
  | _, _ => False
theorem SLe.rfl {nx0 : Nat} {s : St} : SLe nx0 s s := fun _ _ _ _ h => h
theorem fn_ruleP {C : Ctx} {f : FuncId} {fn : Func} {c : Code} (hL : LOk C.P C.L) (hm : C.P.follows .mixedOrders = true) (hf : C.P.funcs[f]? = some fn) (hb : fn.body = some c) (hname : (fn.name == "runtime.NumGoroutine") = false)
    (hn : fn.ntmps = C.n) {xs : List T1} (hx : Nat.ble xs.length C.n = true) {m : List (Nat × Blk)} (hml : (m.all fun p => Nat.blt p.1 C.nx0) = true) {r : TV} {upd : List (Nat × Blk)} {new : List Blk} {st0 : St} (h0 : SLe C.nx0 st0 ⟨argTm 0 xs, m, C.nx0⟩)
    (h : vc C c st0 (fnQP C.L fn.results.toList (m.map (·.1)) C.nx0 r upd new)) : CallsM C.P C.Γ f m C.nx0 xs r upd new := by
  refine ⟨⟨fn, hf, hname, by rw [hb]; rfl⟩, fun ι S w vs hS hG hblk hdst hvs => ?_⟩
  have hxl := Nat.le_of_ble_eq_true hx
  have hlen := hvs.len
  have hmlt : ∀ p ∈ m, p.1 < C.nx0 := fun p hp => Nat.lt_of_succ_le (Nat.le_of_ble_eq_true (List.all_eq_true.1 hml p hp))
  refine calls_of_wp hf hb ?_
  have hR : RS ⟨w, fun g => ∃ p ∈ m, p.2.live = true ∧ blkOf (ι p.1) = some g, S, C.n, C.Γ, ι, C.nx0, []⟩ ⟨argTm 0 xs, m, C.nx0⟩ { tmps := vs.toArray ++ Array.replicate (fn.ntmps - vs.toArray.size) undef, defers := [] } w := by
    refine ⟨ι, S, rfl, rfl, rfl, Nat.le_refl _, fun _ _ _ => rfl, hS, fun _ h => h, fun _ h => .inl h, fun t tv ht => ?_, fun k b hk => hblk _ (findL_mem hk), fun k b hk hl g hg => .inl ⟨(k, b), findL_mem hk, hl, hg⟩, fun k k' b b' g hk hk' hl hl' hg hg' => hdst _ (findL_mem hk) _ (findL_mem hk') g hl hl' hg hg', rfl, ?_, hG, fun _ _ => rfl⟩
    · obtain ⟨x, rfl, _, hx⟩ := argTm_find xs 0 t tv ht
      rw [Nat.sub_zero] at hx
      obtain ⟨u, hu, hv⟩ := hvs.at_left hx
      have hlt := (List.getElem?_eq_some_iff.1 hu).1
      have : (vs.toArray ++ Array.replicate (fn.ntmps - vs.toArray.size) undef).getD t undef = u := by
        simp [Array.getElem?_append, hlt, hu]
        have h2 := (List.getElem?_eq_some_iff.1 hu).2
        exact h2
      show V ι S w (.o x) _
      dsimp only
      rw [this]
      exact hv
    · simp; omega
  refine Code.wp_mono (fun e a w' hq => ?_) (vc_ok hL ⟨rfl, rfl, rfl⟩ hm c _ _ _ w h (h0 _ _ _ rfl hR))
  obtain ⟨st, hR', hq⟩ := hq
  have core := core_after (C := C) (m := m) (upd := upd) (new := new) (ι := ι) (S := S) (w := w) (w' := w') (st := st) (a := a) (dd := []) (en := C.n) hmlt
  have key : retOkM C.L fn.results.toList (m.map (·.1)) C.nx0 r upd new st → a.defers = [] ∧ ∃ v, (results fn a.tmps).run C.P w' = .ok v w' ∧ ((∃ x ι' S', Ending.returned v = .returned x ∧ After ι S w C.nx0 ⟨r, m.map (·.1), upd, new⟩ x ι' S' w') ∨ ∃ v0 ι' S', r = .pan v0 ∧ Ending.returned v = .panicked (panE v0) ∧ After ι S w C.nx0 ⟨.und, m.map (·.1), upd, new⟩ undef ι' S' w') := fun hret => by
    obtain ⟨ι1, S1, I⟩ := hR'
    unfold retOkM at hret
    split at hret
    · rename_i ys ks u n src hy hex
      obtain ⟨hchk, hr, hu, hnw⟩ := hret
      obtain ⟨v, hres, hrows, hval⟩ := results_ok hL I hy
      obtain ⟨ι', S', A⟩ := core ι1 S1 r v ks u n src I hex hchk hu hnw hrows (fun ι' => hr _ _ _ _ (hval ι'))
      exact ⟨I.dn, v, hres, .inl ⟨v, ι', S', rfl, A⟩⟩
    · exact hret.elim
  cases e with
  | normal => exact key hq
  | ret => exact key hq
  | panic ch =>
    obtain ⟨⟨v0, hr0, rfl⟩, hu, hnw⟩ := hq
    obtain ⟨ι1, S1, I⟩ := hR'
    refine ⟨I.dn, .inr ⟨v0, ι, S, hr0, rfl, rfl, fun _ _ => rfl, fun _ h => h, fun _ h => .inl h, fun b hb => Nat.lt_of_lt_of_le (hS b hb) I.size, I.os, I.tape, I.output, I.size, fun b hb hne => I.old b hb fun ⟨p, hp, _, hg⟩ => ?_, fun k b hk => ?_, fun i b hb => ?_, fun i b hb => ?_, fun i j b b' g hb => ?_⟩⟩
    · refine hne p.1 ?_ hg
      rw [hu]
      simp only [deadM, List.map_map, List.mem_map]
      exact ⟨p, hp, rfl⟩
    · have hk : (k, b) ∈ upd := hk
      rw [hu] at hk
      simp only [deadM, List.mem_map] at hk
      obtain ⟨_, _, he⟩ := hk
      cases he
      trivial
    · have hb : new[i]? = some b := hb
      rw [hnw] at hb; simp at hb
    · have hb : new[i]? = some b := hb
      rw [hnw] at hb; simp at hb
    · have hb : new[i]? = some b := hb
      rw [hnw] at hb; simp at hb
  | _ => exact hq.elim
/-! ### Arguments and results that read as others -/
def T1Le (x y : T1) : Prop := ∀ (ι : Nat → Value) (S : Nat → Prop) (w : World) (v : Value), V1 ι S w x v → V1 ι S w y v
theorem T1Le.rfl {x : T1} : T1Le x x := fun _ _ _ _ h => h
theorem T1Le.g {l m : List D} (h : All2 DLe l m) : T1Le (gD l) (gD m) := fun ι S w v ⟨us, hu, hv⟩ => by
  refine ⟨us, hu, ?_⟩
  have hl : l.length = us.length := by have := hv.len; rwa [List.length_map] at this
  refine ⟨by rw [List.length_map, ← h.len]; exact hl, fun i a u ha hu' => ?_⟩
  rw [List.getElem?_map] at ha
  obtain ⟨d', hd', rfl⟩ := Option.map_eq_some_iff.1 ha
  obtain ⟨d, hd, hdd⟩ := h.at_right hd'
  have : VC ι S w (.d d) u := hv.get i _ u (by rw [List.getElem?_map, hd]; rfl) hu'
  exact hdd S w u this
theorem T1Le.c {d d' : D} (h : DLe d d') : T1Le (c1 d) (c1 d') := fun _ S w v hv => h S w v hv
theorem TLe.o {x y : T1} (h : T1Le x y) : TLe (.o x) (.o y) := h
theorem TLe.tup {l m : List T1} (h : All2 T1Le l m) : TLe (.tup l) (.tup m) := fun ι S w v ⟨us, hu, hv⟩ => by
  refine ⟨us, hu, by rw [← h.len]; exact hv.len, fun i a u ha hu' => ?_⟩
  obtain ⟨x, hx, hxx⟩ := h.at_right ha
  exact hxx ι S w u (hv.get i _ u hx hu')
theorem CallsM.argsLe {P : Program} {Γ : Glob} {f : FuncId} {m : List (Nat × Blk)} {nx : Nat} {xs ys : List T1} {r : TV} {upd : List (Nat × Blk)} {new : List Blk} (h : CallsM P Γ f m nx ys r upd new) (hx : All2 T1Le xs ys) : CallsM P Γ f m nx xs r upd new :=
  ⟨h.1, fun ι S w vs hS hG hb hd hv => h.2 ι S w vs hS hG hb hd ⟨by rw [← hx.len]; exact hv.len, fun i a u ha hu => by
    obtain ⟨x, hx', hxx⟩ := hx.at_right ha
    exact hxx ι S w u (hv.get i _ u hx' hu)⟩⟩
end Go.Proofs.YtkbhmcdoedmffaaDoor

namespace Go.Proofs.YtkbhmcdoedmffaaDoor
set_option linter.unusedVariables false
set_option linter.unusedSimpArgs false
open Go.RowKit
set_option maxRecDepth 100000

/-- A piece of code over some objects, entered with slots of which something is known. -/
theorem code_after {C : Ctx} {c : Code} (hL : LOk C.P C.L) (hm : C.P.follows .mixedOrders = true) {tm : List (Nat × TV)} {m : List (Nat × Blk)} (hml : (m.all fun p => Nat.blt p.1 C.nx0) = true) {upd : List (Nat × Blk)} {new : List Blk}
    (h : vc C c ⟨tm, m, C.nx0⟩ fun e st => match e with
      | .normal => retOkP (m.map (·.1)) C.nx0 upd new st
      | _ => False)
    {ι : Nat → Value} {S : Nat → Prop} {w : World} {a : Act} (hS : ∀ b, S b → b < w.heap.size) (hG : C.Γ.G S w) (hblk : ∀ p ∈ m, BlkOk ι S w p.1 p.2)
    (hdst : ∀ p ∈ m, ∀ q ∈ m, ∀ g, p.2.live = true → q.2.live = true → blkOf (ι p.1) = some g → blkOf (ι q.1) = some g → p.1 = q.1) (htm : ∀ t tv, findL tm t = some tv → V ι S w tv (a.tmps.getD t undef)) (hsz : a.tmps.size = C.n) (hdn : a.defers = []) :
    c.wp C.P (fun e a' w' => e = .normal ∧ a'.defers = [] ∧ ∃ ι' S', After ι S w C.nx0 ⟨.und, m.map (·.1), upd, new⟩ undef ι' S' w') a w := by
  have hmlt : ∀ p ∈ m, p.1 < C.nx0 := fun p hp => Nat.lt_of_succ_le (Nat.le_of_ble_eq_true (List.all_eq_true.1 hml p hp))
  have hR : RS ⟨w, fun g => ∃ p ∈ m, p.2.live = true ∧ blkOf (ι p.1) = some g, S, C.n, C.Γ, ι, C.nx0, []⟩ ⟨tm, m, C.nx0⟩ a w :=
    ⟨ι, S, rfl, rfl, rfl, Nat.le_refl _, fun _ _ _ => rfl, hS, fun _ h => h, fun _ h => .inl h, htm, fun k b hk => hblk _ (findL_mem hk), fun k b hk hl g hg => .inl ⟨(k, b), findL_mem hk, hl, hg⟩, fun k k' b b' g hk hk' hl hl' hg hg' => hdst _ (findL_mem hk) _ (findL_mem hk') g hl hl' hg hg', hdn, hsz, hG, fun _ _ => rfl⟩
  refine Code.wp_mono (fun e a' w' hq => ?_) (vc_ok hL ⟨rfl, rfl, rfl⟩ hm c _ _ _ w h hR)
  obtain ⟨st, ⟨ι1, S1, I⟩, hq⟩ := hq
  cases e with
  | normal =>
    have hq : retOkP (m.map (·.1)) C.nx0 upd new st := hq
    unfold retOkP at hq
    split at hq
    · rename_i u n src hex
      obtain ⟨hchk, hu, hnw⟩ := hq
      obtain ⟨ι', S', A⟩ := core_after (C := C) hmlt ι1 S1 .und undef [] u n src I hex hchk hu hnw (by simp) (fun _ => rfl)
      exact ⟨rfl, I.dn, ι', S', A⟩
    · exact hq.elim
  | _ => exact hq.elim
/-- The end of a function of data: what the results are, in a state. -/
theorem end_data {C : Ctx} (hL : LOk C.P C.L) {S : Nat → Prop} {w w' : World} {st : St} {a : Act} {dd : List Deferred} {ιx : Nat → Value} {nxx : Nat} {fn : Func} {r : TV} (hR' : RS ⟨w, fun _ => False, S, C.n, C.Γ, ιx, nxx, dd⟩ st a w') (hret : retOk C.L fn.results.toList r st) :
    ∃ v, (results fn a.tmps).run C.P w' = .ok v w' ∧ ∃ x S', Ending.returned v = .returned x ∧ Below w.heap.size w w' ∧ (∀ b, S b → S' b) ∧ (∀ b, S' b → S b ∨ w.heap.size ≤ b) ∧ (∀ b, S' b → b < w'.heap.size) ∧ V ι0 S' w' r x := by
  obtain ⟨ι, S1, I⟩ := hR'
  unfold retOk at hret
  split at hret
  · rename_i ys ks hy
    obtain ⟨v, hres, hrows, hval⟩ := results_ok hL I hy
    refine ⟨v, hres, v, giveUp ι S1 ks, rfl, ⟨I.os, I.tape, I.output, I.size, fun b hb => I.old b hb (fun h => h)⟩, fun b hb => .inl (I.s0 b hb), fun b hb => ?_, fun b hb => ?_, hret _ _ _ _ (hval ι0)⟩
    · rcases hb with hb | ⟨k, hk, hb⟩
      · rcases I.sg b hb with h | h | h
        · exact .inl h
        · exact .inr h
        · exact h.elim
      · obtain ⟨size, e, rows, hm, _⟩ := hrows k hk
        rcases I.mutb k _ hm rfl b hb with h | h
        · exact h.elim
        · exact .inr h
    · rcases hb with hb | ⟨k, hk, hb⟩
      · exact I.slt b hb
      · obtain ⟨size, e, rows, _, hr⟩ := hrows k hk
        exact (row_lt hr b hb).1
  · exact hret.elim
/-- What the caught panic leaves. -/
def caughtSt (st : St) (upd : List (Nat × Blk)) : St := ⟨st.tm, upd ++ st.mem, st.nx⟩
def fnQD (L : Nat → Option Lay) (rs : List ResultVar) (r : TV) (Hit : Value → St → List (Nat × Blk) → Prop) : Exit → St → Prop
  | .normal, st | .ret, st => retOk L rs r st
  | .panic ch, st => ∃ v upd, ch = panE v ∧ Hit v st upd ∧ (upd.all fun p => match findL st.mem p.1 with | some b => b.live | none => false) = true ∧ uniqB upd = true ∧ retOk L rs r (caughtSt st upd)
  | _, _ => False
/-- The slots that the closure captures: pointers to objects. -/
def capsOk : List Nat → List Nat → St → Prop
  | t :: ts, k :: ks, st => findL st.tm t = some (.o (.c (.ptr k 0))) ∧ capsOk ts ks st
  | [], [], _ => True
  | _, _, _ => False
theorem capsOk_vs {E : Env} {ι : Nat → Value} {S : Nat → Prop} {st : St} {a : Act} {w : World} (I : Inv E ι S (findL st.tm) (findL st.mem) a w) : ∀ {caps capN : List Nat}, capsOk caps capN st → (caps.map fun t => a.tmps.getD t undef) = capN.map ι
  | [], [], _ => rfl
  | t :: ts, k :: ks, h => by
    rw [List.map_cons, List.map_cons, capsOk_vs I h.2]
    obtain ⟨b, h1, h2⟩ := I.tms t _ h.1
    rw [h2, h1]
  | [], _ :: _, h => h.elim
  | _ :: _, [], h => h.elim
/-- A function of data with one deferred closure that recovers: ahead of the 'defer' two pieces of code. -/
theorem fn_ruleD {C : Ctx} {f g : FuncId} {fn : Func} {x0 x1 rg c : Code} {t9 nx2 : Nat} {caps capN : List Nat} (hL : LOk C.P C.L) (hm : C.P.follows .mixedOrders = true) (hf : C.P.funcs[f]? = some fn) (hb : fn.body = some (.seq x0 (.seq x1 (.seq rg c)))) (hname : (fn.name == "runtime.NumGoroutine") = false)
    (hn : fn.ntmps = C.n) (h0 : C.nx0 = 0) {xs : List T1} (hx : Nat.ble xs.length C.n = true) {r : TV} (Hit : Value → St → List (Nat × Blk) → Prop)
    (hdef : ∀ (a : Act) (w : World) (Q : Exit → Act → World → Prop), a.tmps.size = C.n → (∀ u : Value, Q .normal { tmps := a.tmps.setIfInBounds t9 u, defers := { target := .fn (.func g) (caps.map fun t => a.tmps.getD t undef).toArray, args := #[] } :: a.defers } w) → rg.wp C.P Q a w)
    (henter : ∀ (vs : Array Value) (w : World), (callFunc g vs).run C.P w = .ok (.enter g vs) w)
    (hidle : ∀ (vs : List Value) (w : World), vs.length = capN.length → CallsD C.P g vs.toArray .returning w fun e u' w' => e = .returned (.tuple #[]) ∧ u' = .returning ∧ w' = w)
    (hcn : (capN.all fun k => Nat.blt k nx2) = true)
    (hhit : ∀ v st upd, Hit v st upd → ∀ (ι : Nat → Value) (S : Nat → Prop) (w : World), (∀ b, S b → b < w.heap.size) → C.Γ.G S w → (∀ k b, findL st.mem k = some b → BlkOk ι S w k b) →
      (∀ k k' b b' g, findL st.mem k = some b → findL st.mem k' = some b' → b.live = true → b'.live = true → blkOf (ι k) = some g → blkOf (ι k') = some g → k = k') →
      CallsD C.P g (capN.map ι).toArray (.panicking (panE v)) w fun e' u' w' => e' = .returned (.tuple #[]) ∧ u' = .panicking [{ v, recovered := true }] ∧ ∃ ι' S', After ι S w st.nx ⟨.und, [], upd, []⟩ undef ι' S' w')
    (h : vc C x0 ⟨argTm 0 xs, [], 0⟩ fun e st => match e with
      | .normal => vc C x1 st fun e st => match e with
        | .normal => capsOk caps capN st ∧ Nat.ble nx2 st.nx = true ∧ vc { C with nx0 := nx2 } c ⟨(t9, .no) :: st.tm, st.mem, st.nx⟩ (fnQD C.L fn.results.toList r Hit)
        | _ => False
      | _ => False) : CallsA C.P C.Γ f xs r := by
  refine ⟨⟨fn, hf, hname, by rw [hb]; rfl⟩, fun S w vs hS hG hvs => ?_⟩
  have hxl := Nat.le_of_ble_eq_true hx
  have hlen := hvs.len
  refine calls_of_wp_defers hf hb ?_
  have hR : RS ⟨w, fun _ => False, S, C.n, C.Γ, ι0, 0, []⟩ ⟨argTm 0 xs, [], 0⟩ { tmps := vs.toArray ++ Array.replicate (fn.ntmps - vs.toArray.size) undef, defers := [] } w := by
    refine ⟨ι0, S, rfl, rfl, rfl, Nat.le_refl _, fun _ _ _ => rfl, hS, fun _ h => h, fun _ h => .inl h, fun t tv ht => ?_, (fun k b hk => by cases hk), (fun k b hk => by cases hk), (fun k k' b b' g hk => by cases hk), rfl, ?_, hG, fun _ _ => rfl⟩
    · obtain ⟨x, rfl, _, hx⟩ := argTm_find xs 0 t tv ht
      rw [Nat.sub_zero] at hx
      obtain ⟨u, hu, hv⟩ := hvs.at_left hx
      have hlt := (List.getElem?_eq_some_iff.1 hu).1
      have : (vs.toArray ++ Array.replicate (fn.ntmps - vs.toArray.size) undef).getD t undef = u := by
        simp [Array.getElem?_append, hlt, hu]
        have h2 := (List.getElem?_eq_some_iff.1 hu).2
        exact h2
      show V ι0 S w (.o x) _
      dsimp only
      rw [this]
      exact hv
    · simp; omega
  refine wp_seq (Code.wp_mono (fun e a w1 hq => ?_) (vc_ok hL ⟨rfl, rfl, h0.symm⟩ hm x0 _ _ _ w h hR))
  obtain ⟨st1, hR1, hq⟩ := hq
  cases e with
  | normal =>
    refine wp_seq (Code.wp_mono (fun e a2 w2 hq2 => ?_) (vc_ok hL ⟨rfl, rfl, h0.symm⟩ hm x1 _ _ _ w1 hq hR1))
    obtain ⟨st2, hR2, hq2⟩ := hq2
    cases e with
    | normal =>
      obtain ⟨ι2, S2, I2⟩ := hR2
      refine wp_seq (hdef a2 w2 _ I2.sz fun u => ?_)
      rw [I2.dn]
      obtain ⟨hcaps, hnx2, hq2⟩ := hq2
      rw [capsOk_vs I2 hcaps]
      obtain ⟨d, hd⟩ : ∃ d : Deferred, d = { target := .fn (.func g) (capN.map ι2).toArray, args := #[] } := ⟨_, rfl⟩
      rw [← hd]
      have hR3 : RS ⟨w, fun _ => False, S, C.n, C.Γ, ι2, nx2, [d]⟩ ⟨(t9, .no) :: st2.tm, st2.mem, st2.nx⟩ { tmps := a2.tmps.setIfInBounds t9 u, defers := [d] } w2 := by
        refine ⟨ι2, S2, I2.os, I2.tape, I2.output, I2.size, I2.old, I2.slt, I2.s0, I2.sg, fun t tv ht => ?_, I2.blk, I2.mutb, I2.dst, rfl, by simpa using I2.sz, I2.gl, fun _ _ => rfl⟩
        simp only [findL] at ht
        split at ht
        · cases ht; trivial
        · rename_i hne
          have := I2.tms t tv ht
          have e : (a2.tmps.setIfInBounds t9 u).getD t undef = a2.tmps.getD t undef := by
            simp only [Array.getD_eq_getD_getElem?]
            rw [Array.getElem?_setIfInBounds_ne hne]
          show V ι2 S2 w2 tv ((a2.tmps.setIfInBounds t9 u).getD t undef)
          rw [e]
          exact this
      refine Code.wp_mono (fun e a3 w3 hq3 => ?_) (vc_ok (C := { C with nx0 := nx2 }) hL ⟨rfl, rfl, rfl⟩ hm c _ _ _ w2 hq2 hR3)
      obtain ⟨st3, hR4, hq3⟩ := hq3
      have key : retOk C.L fn.results.toList r st3 → Leaves C.P fn a3.tmps (fun e w' => ∃ x S', e = .returned x ∧ Below w.heap.size w w' ∧ (∀ b, S b → S' b) ∧ (∀ b, S' b → S b ∨ w.heap.size ≤ b) ∧ (∀ b, S' b → b < w'.heap.size) ∧ V ι0 S' w' r x) a3.defers .returning w3 := fun hret => by
        obtain ⟨v, h1, h2⟩ := end_data hL hR4 hret
        obtain ⟨ι4, S4, I4⟩ := hR4
        rw [I4.dn, hd]
        refine leaves_cons (f := g) (args := (capN.map ι2).toArray) (by simp) (by simp [invoke, henter]) ?_
        refine (hidle _ _ (by simp)).mono ?_
        rintro e' u' w4 ⟨rfl, rfl, rfl⟩
        exact ⟨v, h1, h2⟩
      cases e with
      | normal => exact key hq3
      | ret => exact key hq3
      | panic ch =>
        obtain ⟨v, upd, rfl, hh, hlive, huq, hret⟩ := hq3
        obtain ⟨ι4, S4, I4⟩ := hR4
        show Leaves C.P fn a3.tmps _ a3.defers (.panicking (panE v)) w3
        rw [I4.dn, hd]
        have hι : capN.map ι2 = capN.map ι4 := List.map_congr_left fun k hk => (I4.ik k (by have := List.all_eq_true.1 hcn k hk; simpa [Nat.blt_eq] using this)).symm
        rw [hι]
        refine leaves_cons (f := g) (args := (capN.map ι4).toArray) (by simp) (by simp [invoke, henter]) ?_
        refine (hhit v st3 upd hh ι4 S4 w3 I4.slt I4.gl I4.blk I4.dst).mono ?_
        rintro e' u' w4 ⟨rfl, rfl, ι5, S5, A⟩
        have I5 := step_inv (tm' := findL st3.tm) (a' := a3) I4 A (fun k b hk => ?_) (fun i hi => by simp at hi) (fun h => by simp at h) (fun k b b' => uniqB_ok huq k b b') (fun hSb hmen t tv ht => ?_) I4.dn I4.sz
        · have hR5 : RS ⟨w, fun _ => False, S, C.n, C.Γ, ι2, nx2, [d]⟩ (caughtSt st3 upd) a3 w4 := by
            refine ⟨ι5, S5, ?_⟩
            have e : updF (findL st3.mem) ⟨.und, [], upd, []⟩ st3.nx = findL (caughtSt st3 upd).mem := updF_step st3 none ⟨.und, [], upd, []⟩
            rw [← e]
            exact I5
          obtain ⟨v5, h1, h2⟩ := end_data hL hR5 hret
          exact ⟨v5, h1, h2⟩
        · have := List.all_eq_true.1 hlive _ hk
          simp only at this
          split at this
          · rename_i b' hb'; exact ⟨b', hb', this⟩
          · cases this
        · exact V.mono hSb A.smono (hmen tv fun i hi => by simp at hi) (I4.tms t tv ht)
      | _ => exact hq3.elim
    | _ => exact hq2.elim
  | _ => exact hq.elim
end Go.Proofs.YtkbhmcdoedmffaaDoor

namespace Go.Proofs.YtkbhmcdoedmffaaDoor
set_option linter.unusedVariables false
set_option linter.unusedSimpArgs false
open Go.RowKit
set_option maxRecDepth 100000

/-- An object of data that is written no more: a cell of another object that points to it points to still cells. -/
theorem sle_fixO {nx0 : Nat} {tm : List (Nat × TV)} {mem : List (Nat × Blk)} {nx : Nat} (k0 j k : Nat) {cells : List CV} {tg0 tg : TypeId} {dl : List D} (h0 : findL mem k0 = some (.obj cells tg0)) (hj : cells[j]? = some (.ptr k 0)) (hk : findL mem k = some (.obj (dl.map .d) tg)) (hne : Nat.beq k0 k = false) :
    SLe nx0 ⟨tm, (k0, .obj (cells.set j (.eptr dl)) tg0) :: (k, .dead) :: mem, nx⟩ ⟨tm, mem, nx⟩ := fun E a w he ⟨ι, S, I⟩ => by
  have hne' := Nat.ne_of_beq_eq_false hne
  obtain ⟨b, arr, ty, e1, e2, e3, e4⟩ := I.blk k _ hk
  have hbk : blkOf (ι k) = some b := by rw [e1]; rfl
  obtain ⟨S', hS'⟩ : ∃ S' : Nat → Prop, ∀ g, S' g ↔ S g ∨ g = b := ⟨fun g => S g ∨ g = b, fun _ => Iff.rfl⟩
  have hSS : ∀ g, S g → S' g := fun g h => (hS' g).2 (.inl h)
  have hblt : b < w.heap.size := (Array.getElem?_eq_some_iff.1 e2).1
  have hcase : ∀ n c, findL ((k0, Blk.obj (cells.set j (.eptr dl)) tg0) :: (k, Blk.dead) :: mem) n = some c → c.live = true → (n = k0 ∧ c = .obj (cells.set j (.eptr dl)) tg0) ∨ (n ≠ k ∧ findL mem n = some c) := fun n c hn hl => by
    simp only [findL] at hn
    split at hn
    · rename_i e; cases hn; exact .inl ⟨e.symm, rfl⟩
    · split at hn
      · cases hn; cases hl
      · rename_i e; exact .inr ⟨fun h => e h.symm, hn⟩
  have hold : ∀ n c, findL mem n = some c → c.live = true → n ≠ k → BlkOk ι S' w n c := fun n c hn hl hnk => by
    have hc := I.blk n c hn
    refine BlkOk.mono (fun _ _ => rfl) hSS (fun _ => rfl) (fun _ _ => rfl) (fun _ g hg => ⟨rfl, fun hs => ?_⟩) hc
    rcases (hS' g).1 hs with h | h
    · exact ((hc.sep hl hg).2) h
    · subst h
      exact hnk (I.dst n k c _ g hn hk hl rfl hg hbk)
  refine ⟨ι, S', I.os, I.tape, I.output, I.size, I.old, fun g hg => ?_, fun g hg => hSS g (I.s0 g hg), fun g hg => ?_, fun t tv ht => V.mono (fun _ _ => rfl) hSS (fun _ _ => rfl) (I.tms t tv ht), fun n c hn => ?_, fun n c hn hl g hg => ?_, fun n n' c c' g hn hn' hl hl' hg hg' => ?_, I.dn, I.sz, E.Γ.mono (fun _ _ => rfl) hSS I.gl, I.ik⟩
  · rcases (hS' g).1 hg with h | h
    · exact I.slt g h
    · subst h; exact hblt
  · rcases (hS' g).1 hg with h | h
    · exact I.sg g h
    · subst h
      rcases I.mutb k _ hk rfl g hbk with h | h
      · exact .inr (.inr h)
      · exact .inr (.inl h)
  · cases hl : c.live with
    | false => cases c <;> first | trivial | cases hl
    | true =>
      rcases hcase n c hn hl with ⟨rfl, rfl⟩ | ⟨hnk, hn⟩
      · obtain ⟨b2, arr2, ty2, f1, f2, f3, f4⟩ := hold n _ h0 rfl hne'
        refine ⟨b2, arr2, ty2, f1, f2, ⟨by simpa using f3.len, fun i x u hx hu => ?_⟩, f4⟩
        rw [List.getElem?_set] at hx
        split at hx
        · rename_i ei
          subst ei
          split at hx
          · cases hx
            have : VC ι S' w (.ptr k 0) u := f3.get j _ u hj hu
            obtain ⟨b3, g1, g2⟩ := this
            rw [e1] at g1
            cases g1
            have e3' : All2 (fun (d : D) u => Imm S w d u) dl arr.toList := (All2.of_map_left (R := VC ι S w) (f := CV.d) e3).mono fun _ _ h => h
            refine ⟨b, 0, fun i => arr.toList.getD i undef, g2, fun _ => (hS' b).2 (.inr rfl), fun i d hd => ?_⟩
            obtain ⟨u1, hu1, hd1⟩ := e3'.at_left hd
            rw [Nat.zero_add, cell_of_row w b i arr ty.1 (0, 0) e2]
            have hg : arr.toList.getD i undef = u1 := by rw [List.getD_eq_getElem?_getD, hu1]; rfl
            refine ⟨?_, ?_⟩
            · show arr[i]? = some (arr.toList.getD i undef)
              rw [hg, ← hu1]; simp
            · show Imm S' w d (arr.toList.getD i undef)
              rw [hg]; exact hd1.mono (fun _ _ => rfl) hSS
          · cases hx
        · exact f3.get i x u hx hu
      · exact hold n c hn hl hnk
  · rcases hcase n c hn hl with ⟨rfl, rfl⟩ | ⟨hnk, hn⟩
    · exact I.mutb _ _ h0 rfl g hg
    · exact I.mutb n c hn hl g hg
  · have key : ∀ n c, findL ((k0, Blk.obj (cells.set j (.eptr dl)) tg0) :: (k, Blk.dead) :: mem) n = some c → c.live = true → ∃ c', findL mem n = some c' ∧ c'.live = true := fun n c hn hl => by
      rcases hcase n c hn hl with ⟨rfl, rfl⟩ | ⟨hnk, hn⟩
      · exact ⟨_, h0, rfl⟩
      · exact ⟨c, hn, hl⟩
    obtain ⟨d1, q1, q2⟩ := key n c hn hl
    obtain ⟨d2, q3, q4⟩ := key n' c' hn' hl'
    exact I.dst n n' d1 d2 g q1 q3 q2 q4 hg hg'
def plainOk (L : Nat → Option Lay) (rs : List ResultVar) (r : TV) (st : St) : Prop :=
  match plainT (rs.map (resC L st)) with
  | some ys => TLe (retT ys) r ∧ (retT ys).pure = true
  | none => False
/-- The end of a function whose results are data, or point to still cells; the state may be told in other words. -/
def retOkE (nx0 : Nat) (L : Nat → Option Lay) (rs : List ResultVar) (r : TV) (st : St) : Prop := ∃ st', SLe nx0 st' st ∧ plainOk L rs r st'
theorem end_dataE {C : Ctx} (hL : LOk C.P C.L) {S : Nat → Prop} {w w' : World} {st : St} {a : Act} {dd : List Deferred} {ιx : Nat → Value} {nxx : Nat} {fn : Func} {r : TV} (hR' : RS ⟨w, fun _ => False, S, C.n, C.Γ, ιx, nxx, dd⟩ st a w') (hret : retOkE nxx C.L fn.results.toList r st) :
    ∃ v, (results fn a.tmps).run C.P w' = .ok v w' ∧ ∃ x S', Ending.returned v = .returned x ∧ Below w.heap.size w w' ∧ (∀ b, S b → S' b) ∧ (∀ b, S' b → S b ∨ w.heap.size ≤ b) ∧ (∀ b, S' b → b < w'.heap.size) ∧ V ι0 S' w' r x := by
  obtain ⟨st', hle, hp⟩ := hret
  obtain ⟨ι, S1, I⟩ := hle _ _ _ rfl hR'
  unfold plainOk at hp
  split at hp
  · rename_i ys hy
    obtain ⟨v, h1, h2⟩ := results_okR hL I hy
    refine ⟨v, h1, v, S1, rfl, ⟨I.os, I.tape, I.output, I.size, fun b hb => I.old b hb (fun h => h)⟩, I.s0, fun b hb => ?_, I.slt, hp.1 _ _ _ _ (V.mono (fun _ _ => rfl) (fun _ h => h) (fun k hk => ?_) h2)⟩
    · rcases I.sg b hb with h | h | h
      · exact .inl h
      · exact .inr h
      · exact h.elim
    · rw [TV.pure_men hp.2 k] at hk; cases hk
  · exact hp.elim
def fnQE (nx0 : Nat) (L : Nat → Option Lay) (rs : List ResultVar) (r : TV) (Hit : Value → St → List (Nat × Blk) → Prop) : Exit → St → Prop
  | .normal, st | .ret, st => retOkE nx0 L rs r st
  | .panic ch, st => ∃ v upd, ch = panE v ∧ Hit v st upd ∧ (upd.all fun p => match findL st.mem p.1 with | some b => b.live | none => false) = true ∧ uniqB upd = true ∧ retOkE nx0 L rs r (caughtSt st upd)
  | _, _ => False
/-- A function of data (and pointers to data) with one deferred closure that recovers: ahead of the 'defer' three pieces of code, of which the third may return. -/
theorem fn_ruleE {C : Ctx} {f g : FuncId} {fn : Func} {x0 x1 x2 rg c : Code} {t9 nx2 : Nat} {caps capN : List Nat} (hL : LOk C.P C.L) (hm : C.P.follows .mixedOrders = true) (hf : C.P.funcs[f]? = some fn) (hb : fn.body = some (.seq x0 (.seq x1 (.seq x2 (.seq rg c))))) (hname : (fn.name == "runtime.NumGoroutine") = false)
    (hn : fn.ntmps = C.n) (h0 : C.nx0 = 0) {xs : List T1} (hx : Nat.ble xs.length C.n = true) {r : TV} (Hit : Value → St → List (Nat × Blk) → Prop)
    (hdef : ∀ (a : Act) (w : World) (Q : Exit → Act → World → Prop), a.tmps.size = C.n → (∀ u : Value, Q .normal { tmps := a.tmps.setIfInBounds t9 u, defers := { target := .fn (.func g) (caps.map fun t => a.tmps.getD t undef).toArray, args := #[] } :: a.defers } w) → rg.wp C.P Q a w)
    (henter : ∀ (vs : Array Value) (w : World), (callFunc g vs).run C.P w = .ok (.enter g vs) w)
    (hidle : ∀ (vs : List Value) (w : World), vs.length = capN.length → CallsD C.P g vs.toArray .returning w fun e u' w' => e = .returned (.tuple #[]) ∧ u' = .returning ∧ w' = w)
    (hcn : (capN.all fun k => Nat.blt k nx2) = true)
    (hhit : ∀ v st upd, Hit v st upd → ∀ (ι : Nat → Value) (S : Nat → Prop) (w : World), (∀ b, S b → b < w.heap.size) → C.Γ.G S w → (∀ k b, findL st.mem k = some b → BlkOk ι S w k b) →
      (∀ k k' b b' g, findL st.mem k = some b → findL st.mem k' = some b' → b.live = true → b'.live = true → blkOf (ι k) = some g → blkOf (ι k') = some g → k = k') →
      CallsD C.P g (capN.map ι).toArray (.panicking (panE v)) w fun e' u' w' => e' = .returned (.tuple #[]) ∧ u' = .panicking [{ v, recovered := true }] ∧ ∃ ι' S', After ι S w st.nx ⟨.und, [], upd, []⟩ undef ι' S' w')
    (h : vc C x0 ⟨argTm 0 xs, [], 0⟩ fun e st => match e with
      | .normal => vc C x1 st fun e st => match e with
        | .normal => vc C x2 st fun e st => match e with
          | .normal => capsOk caps capN st ∧ Nat.ble nx2 st.nx = true ∧ vc { C with nx0 := nx2 } c ⟨(t9, .no) :: st.tm, st.mem, st.nx⟩ (fnQE nx2 C.L fn.results.toList r Hit)
          | .ret => retOkE 0 C.L fn.results.toList r st
          | _ => False
        | _ => False
      | _ => False) : CallsA C.P C.Γ f xs r := by
  refine ⟨⟨fn, hf, hname, by rw [hb]; rfl⟩, fun S w vs hS hG hvs => ?_⟩
  have hxl := Nat.le_of_ble_eq_true hx
  have hlen := hvs.len
  refine calls_of_wp_defers hf hb ?_
  have hR : RS ⟨w, fun _ => False, S, C.n, C.Γ, ι0, 0, []⟩ ⟨argTm 0 xs, [], 0⟩ { tmps := vs.toArray ++ Array.replicate (fn.ntmps - vs.toArray.size) undef, defers := [] } w := by
    refine ⟨ι0, S, rfl, rfl, rfl, Nat.le_refl _, fun _ _ _ => rfl, hS, fun _ h => h, fun _ h => .inl h, fun t tv ht => ?_, (fun k b hk => by cases hk), (fun k b hk => by cases hk), (fun k k' b b' g hk => by cases hk), rfl, ?_, hG, fun _ _ => rfl⟩
    · obtain ⟨x, rfl, _, hx⟩ := argTm_find xs 0 t tv ht
      rw [Nat.sub_zero] at hx
      obtain ⟨u, hu, hv⟩ := hvs.at_left hx
      have hlt := (List.getElem?_eq_some_iff.1 hu).1
      have : (vs.toArray ++ Array.replicate (fn.ntmps - vs.toArray.size) undef).getD t undef = u := by
        simp [Array.getElem?_append, hlt, hu]
        have h2 := (List.getElem?_eq_some_iff.1 hu).2
        exact h2
      show V ι0 S w (.o x) _
      dsimp only
      rw [this]
      exact hv
    · simp; omega
  refine wp_seq (Code.wp_mono (fun e a w1 hq => ?_) (vc_ok hL ⟨rfl, rfl, h0.symm⟩ hm x0 _ _ _ w h hR))
  obtain ⟨st1, hR1, hq⟩ := hq
  cases e with
  | normal =>
    refine wp_seq (Code.wp_mono (fun e a1 w1b hq1 => ?_) (vc_ok hL ⟨rfl, rfl, h0.symm⟩ hm x1 _ _ _ w1 hq hR1))
    obtain ⟨st1b, hR1b, hq1⟩ := hq1
    cases e with
    | normal =>
     refine wp_seq (Code.wp_mono (fun e a2 w2 hq2 => ?_) (vc_ok hL ⟨rfl, rfl, h0.symm⟩ hm x2 _ _ _ w1b hq1 hR1b))
     obtain ⟨st2, hR2, hq2⟩ := hq2
     cases e with
     | ret =>
      have hq2 : retOkE 0 C.L fn.results.toList r st2 := hq2
      obtain ⟨v, h1, h2⟩ := end_dataE hL hR2 hq2
      obtain ⟨ι2, S2, I2⟩ := hR2
      show Leaves C.P fn a2.tmps _ a2.defers .returning w2
      rw [I2.dn]
      exact ⟨v, h1, h2⟩
     | normal =>
      obtain ⟨ι2, S2, I2⟩ := hR2
      refine wp_seq (hdef a2 w2 _ I2.sz fun u => ?_)
      rw [I2.dn]
      obtain ⟨hcaps, hnx2, hq2⟩ := hq2
      rw [capsOk_vs I2 hcaps]
      obtain ⟨d, hd⟩ : ∃ d : Deferred, d = { target := .fn (.func g) (capN.map ι2).toArray, args := #[] } := ⟨_, rfl⟩
      rw [← hd]
      have hR3 : RS ⟨w, fun _ => False, S, C.n, C.Γ, ι2, nx2, [d]⟩ ⟨(t9, .no) :: st2.tm, st2.mem, st2.nx⟩ { tmps := a2.tmps.setIfInBounds t9 u, defers := [d] } w2 := by
        refine ⟨ι2, S2, I2.os, I2.tape, I2.output, I2.size, I2.old, I2.slt, I2.s0, I2.sg, fun t tv ht => ?_, I2.blk, I2.mutb, I2.dst, rfl, by simpa using I2.sz, I2.gl, fun _ _ => rfl⟩
        simp only [findL] at ht
        split at ht
        · cases ht; trivial
        · rename_i hne
          have := I2.tms t tv ht
          have e : (a2.tmps.setIfInBounds t9 u).getD t undef = a2.tmps.getD t undef := by
            simp only [Array.getD_eq_getD_getElem?]
            rw [Array.getElem?_setIfInBounds_ne hne]
          show V ι2 S2 w2 tv ((a2.tmps.setIfInBounds t9 u).getD t undef)
          rw [e]
          exact this
      refine Code.wp_mono (fun e a3 w3 hq3 => ?_) (vc_ok (C := { C with nx0 := nx2 }) hL ⟨rfl, rfl, rfl⟩ hm c _ _ _ w2 hq2 hR3)
      obtain ⟨st3, hR4, hq3⟩ := hq3
      have key : retOkE nx2 C.L fn.results.toList r st3 → Leaves C.P fn a3.tmps (fun e w' => ∃ x S', e = .returned x ∧ Below w.heap.size w w' ∧ (∀ b, S b → S' b) ∧ (∀ b, S' b → S b ∨ w.heap.size ≤ b) ∧ (∀ b, S' b → b < w'.heap.size) ∧ V ι0 S' w' r x) a3.defers .returning w3 := fun hret => by
        obtain ⟨v, h1, h2⟩ := end_dataE hL hR4 hret
        obtain ⟨ι4, S4, I4⟩ := hR4
        rw [I4.dn, hd]
        refine leaves_cons (f := g) (args := (capN.map ι2).toArray) (by simp) (by simp [invoke, henter]) ?_
        refine (hidle _ _ (by simp)).mono ?_
        rintro e' u' w4 ⟨rfl, rfl, rfl⟩
        exact ⟨v, h1, h2⟩
      cases e with
      | normal => exact key hq3
      | ret => exact key hq3
      | panic ch =>
        obtain ⟨v, upd, rfl, hh, hlive, huq, hret⟩ := hq3
        obtain ⟨ι4, S4, I4⟩ := hR4
        show Leaves C.P fn a3.tmps _ a3.defers (.panicking (panE v)) w3
        rw [I4.dn, hd]
        have hι : capN.map ι2 = capN.map ι4 := List.map_congr_left fun k hk => (I4.ik k (by have := List.all_eq_true.1 hcn k hk; simpa [Nat.blt_eq] using this)).symm
        rw [hι]
        refine leaves_cons (f := g) (args := (capN.map ι4).toArray) (by simp) (by simp [invoke, henter]) ?_
        refine (hhit v st3 upd hh ι4 S4 w3 I4.slt I4.gl I4.blk I4.dst).mono ?_
        rintro e' u' w4 ⟨rfl, rfl, ι5, S5, A⟩
        have I5 := step_inv (tm' := findL st3.tm) (a' := a3) I4 A (fun k b hk => ?_) (fun i hi => by simp at hi) (fun h => by simp at h) (fun k b b' => uniqB_ok huq k b b') (fun hSb hmen t tv ht => ?_) I4.dn I4.sz
        · have hR5 : RS ⟨w, fun _ => False, S, C.n, C.Γ, ι2, nx2, [d]⟩ (caughtSt st3 upd) a3 w4 := by
            refine ⟨ι5, S5, ?_⟩
            have e : updF (findL st3.mem) ⟨.und, [], upd, []⟩ st3.nx = findL (caughtSt st3 upd).mem := updF_step st3 none ⟨.und, [], upd, []⟩
            rw [← e]
            exact I5
          obtain ⟨v5, h1, h2⟩ := end_dataE hL hR5 hret
          exact ⟨v5, h1, h2⟩
        · have := List.all_eq_true.1 hlive _ hk
          simp only at this
          split at this
          · rename_i b' hb'; exact ⟨b', hb', this⟩
          · cases this
        · exact V.mono hSb A.smono (hmen tv fun i hi => by simp at hi) (I4.tms t tv ht)
      | _ => exact hq3.elim
     | _ => exact hq2.elim
    | _ => exact hq1.elim
  | _ => exact hq.elim
end Go.Proofs.YtkbhmcdoedmffaaDoor

namespace Go.Proofs.YtkbhmcdoedmffaaDoor
set_option linter.unusedVariables false
set_option linter.unusedSimpArgs false
open Go.RowKit

theorem ret_bool {a b : Bool} (h : a = b) : Ending.returned (.bool a) = .returned (.bool b) := by rw [h]
theorem ret_int {k : IntKind} {a b : Int} (h : a = b) : Ending.returned (.int k a) = .returned (.int k b) := by rw [h]

/-- A world that extends W: of what was there nothing has turned. -/
structure Ext (W : World) where
  w : World
  b : Below W.heap.size W w

instance {W : World} : Nonempty (Ext W) := ⟨⟨W, Below.refl _ _⟩⟩
instance {W : World} : Inhabited (Ext W) := ⟨⟨W, Below.refl _ _⟩⟩

/-! ### What the walk asks of blocks' numbers, found by instances: however long the chain of worlds is -/
class ExtC (W : outParam World) (w : World) : Prop where
  b : Below W.heap.size W w
class LtC (n m : Nat) : Prop where
  h : n < m
class LeC (n m : Nat) : Prop where
  h : n ≤ m
instance (priority := 2000) (n : Nat) : LeC n n := ⟨Nat.le_refl _⟩
instance (priority := 1900) (n m : Nat) [LeC n m] : LeC n (m + 1) := ⟨Nat.le_succ_of_le LeC.h⟩
instance (priority := 1800) (n m : Nat) [LeC n m] : LeC (n + 1) (m + 1) := ⟨Nat.succ_le_succ LeC.h⟩
instance (n : Nat) (w : World) (o : Obj) [LeC n (w.heap.size + 1)] : LeC n (w.alloc o).heap.size := ⟨by rw [World.size_alloc]; exact LeC.h⟩
instance (n : Nat) (w : World) (a : Addr) (v : Value) [LeC n w.heap.size] : LeC n (w.setCell a v).heap.size := ⟨by simp only [World.setCell, Array.size_modify]; exact LeC.h⟩
instance (n : Nat) (w : World) [LeC n w.heap.size] : LeC n w.drew.heap.size := ⟨(LeC.h : n ≤ w.heap.size)⟩
instance (n : Nat) (W w : World) [h : ExtC W w] [LeC n W.heap.size] : LeC n w.heap.size := ⟨Nat.le_trans LeC.h h.b.size⟩
instance (priority := 2000) (n : Nat) : LtC n (n + 1) := ⟨Nat.lt_succ_self _⟩
instance (priority := 1900) (n m : Nat) [LtC n m] : LtC n (m + 1) := ⟨Nat.lt_succ_of_lt LtC.h⟩
instance (priority := 1800) (n m : Nat) [LtC n m] : LtC (n + 1) (m + 1) := ⟨Nat.succ_lt_succ LtC.h⟩
instance (n : Nat) (w : World) (o : Obj) [LtC n (w.heap.size + 1)] : LtC n (w.alloc o).heap.size := ⟨by rw [World.size_alloc]; exact LtC.h⟩
instance (n : Nat) (w : World) (a : Addr) (v : Value) [LtC n w.heap.size] : LtC n (w.setCell a v).heap.size := ⟨by simp only [World.setCell, Array.size_modify]; exact LtC.h⟩
instance (n : Nat) (w : World) [LtC n w.heap.size] : LtC n w.drew.heap.size := ⟨(LtC.h : n < w.heap.size)⟩
instance (n : Nat) (W w : World) [h : ExtC W w] [LtC n W.heap.size] : LtC n w.heap.size := ⟨Nat.lt_of_lt_of_le LtC.h h.b.size⟩
instance {W : World} (x : Ext W) : ExtC W x.w := ⟨x.b⟩

/-- Block b reads in w as in W. -/
class AtC (w : World) (b : Nat) (W : outParam World) : Prop where
  h : w.heap[b]? = W.heap[b]?
instance {W w : World} (b : Nat) [h : ExtC W w] [LtC b W.heap.size] : AtC w b W := ⟨h.b.block b LtC.h⟩
/-- (Named so that simp doesn't take 'cellI' for a mere renaming.) -/
def cellOf (W : World) (b o : Nat) : Option Value := W.cell? ⟨b, o, none⟩
def frozenOf (W : World) (b o : Nat) : Bool := W.frozen? ⟨b, o, none⟩
theorem cellOf_is (W : World) (b o : Nat) : cellOf W b o = W.cell? ⟨b, o, none⟩ := rfl
theorem frozenOf_is (W : World) (b o : Nat) : frozenOf W b o = W.frozen? ⟨b, o, none⟩ := rfl
theorem cellI {W w : World} (b o : Nat) [h : AtC w b W] : w.cell? ⟨b, o, none⟩ = cellOf W b o := World.cell?_of_block (w := W) (a := ⟨b, o, none⟩) h.h
theorem frozenI {W w : World} (b o : Nat) [h : AtC w b W] : w.frozen? ⟨b, o, none⟩ = frozenOf W b o := World.frozen?_of_block (w := W) (a := ⟨b, o, none⟩) h.h
theorem cellA {w : World} (O : Obj) (b o : Nat) [LtC b w.heap.size] : (w.alloc O).cell? ⟨b, o, none⟩ = w.cell? ⟨b, o, none⟩ := World.cell?_alloc_past O b o LtC.h
theorem frozenA {w : World} (O : Obj) (b o : Nat) [LtC b w.heap.size] : (w.alloc O).frozen? ⟨b, o, none⟩ = w.frozen? ⟨b, o, none⟩ := World.frozen?_alloc_past O b o LtC.h
theorem setCellA {w : World} (O : Obj) (b o : Nat) (v : Value) [LtC b w.heap.size] : (w.alloc O).setCell ⟨b, o, none⟩ v = (w.setCell ⟨b, o, none⟩ v).alloc O := World.setCell_alloc_past O b o v LtC.h

theorem below_step {B : Nat} {w W w1 : World} (h : Below B w W) (hb : Below W.heap.size W w1) (hB : B ≤ W.heap.size) : Below B w w1 := h.trans (hb.mono hB)
theorem leC {n m : Nat} [h : LeC n m] : n ≤ m := h.h

theorem below_draw (W : World) : Below W.heap.size W { W with drawn := W.drawn + 1 } := ⟨rfl, rfl, rfl, Nat.le_refl _, fun _ _ => rfl⟩

/-- A region that draws its order, every operation a read or a call that only makes memory: one walk in the text's order. -/
theorem steady_region {P : Program} {id : Nat} {Q : Exit → Act → World → Prop} {a : Act} {W : World} {l : List Oper} (hm : P.follows .mixedOrders = true) (hB : Region.lexB .any l.toArray = true)
    (h : wpQuiet P l.toArray (fun w' => ∃ x : Ext W, w' = x.w) (fun a' => ∀ w', (∃ x : Ext W, w' = x.w) → Q .normal a' w') l a) : (Code.region id l.toArray true).wp P Q a W :=
  wp_region_quiet (C := fun w' => ∃ x : Ext W, w' = x.w) hm hB ⟨⟨_, below_draw W⟩, rfl⟩ (by simpa using h)

/-- The same, the class that of an earlier world which the present one extends. -/
theorem steady_from {P : Program} {id : Nat} {Q : Exit → Act → World → Prop} {a : Act} {W w : World} {l : List Oper} (hbw : Below W.heap.size W w) (hm : P.follows .mixedOrders = true) (hB : Region.lexB .any l.toArray = true)
    (h : wpQuiet P l.toArray (fun w' => ∃ x : Ext W, w' = x.w) (fun a' => ∀ w', (∃ x : Ext W, w' = x.w) → Q .normal a' w') l a) : (Code.region id l.toArray true).wp P Q a w :=
  wp_region_quiet (C := fun w' => ∃ x : Ext W, w' = x.w) hm hB ⟨⟨_, hbw.trans ((below_draw w).mono hbw.size)⟩, rfl⟩ (by simpa using h)

/-- A callee's contract, met in a world of the class. -/
theorem Calls.steady {P : Program} {f : FuncId} {args : Array Value} {W : World} {x : Ext W} {v : Value}
    (h : Calls P f args x.w fun e w' => e = .returned v ∧ Below x.w.heap.size x.w w') : Calls P f args x.w fun e w'' => e = .returned v ∧ ∃ y : Ext W, w'' = y.w :=
  h.mono fun _ w' ⟨he, hb⟩ => ⟨he, ⟨w', x.b.trans (hb.mono x.b.size)⟩, rfl⟩


section
variable {P : Program} {ops : Array Oper} {md : Region.Mode} {C : World → Prop}

/-- Every edge that binds leads back. -/
def backB (md : Region.Mode) (ops : Array Oper) : Bool :=
  (List.range ops.size).all fun i => match ops[i]? with
    | some o => o.after.all fun e => !Region.binds md e || decide (e.on < i)
    | none => true
/-- From number n on each operation waits for all of the first n. -/
def tailB (md : Region.Mode) (ops : Array Oper) (n : Nat) : Bool :=
  (List.range ops.size).all fun t => decide (t < n) || (List.range n).all fun i => Region.waitsFor md ops t i
/-- The guards of the first n operations lie among them. -/
def guardB (ops : Array Oper) (n : Nat) : Bool :=
  (List.range n).all fun i => match ops[i]? with
    | some o => match o.guard with
      | some (j, _) => decide (j < n)
      | none => true
    | none => true

theorem backB_spec (h : backB md ops = true) {i : Nat} {o : Oper} (ho : ops[i]? = some o) {e : Edge} (he : e ∈ o.after) (hb : Region.binds md e = true) : e.on < i := by
  have h1 := List.all_eq_true.1 h i (List.mem_range.2 (Array.getElem?_eq_some_iff.1 ho).1)
  simp only [ho] at h1
  have h2 := Array.all_eq_true_iff_forall_mem.1 h1 e he
  simpa [hb] using h2

theorem tailB_spec {n : Nat} (h : tailB md ops n = true) {t i : Nat} (ht : n ≤ t) (hts : t < ops.size) (hi : i < n) : ∃ o, ops[t]? = some o ∧ ∃ e ∈ o.after, Region.binds md e = true ∧ e.on = i := by
  have h1 := List.all_eq_true.1 h t (List.mem_range.2 hts)
  simp only [Bool.or_eq_true, decide_eq_true_eq] at h1
  rcases h1 with h1 | h1
  · omega
  · exact Region.waitsFor_spec (List.all_eq_true.1 h1 i (List.mem_range.2 hi))

/-- More fuel does no harm. -/
theorem wpAny_more {Q : Exit → Act → World → Prop} : ∀ (f : Nat) (listed : Array Bool) (a : Act) (w : World), wpAny P md ops Q f listed a w → wpAny P md ops Q (f + 1) listed a w
  | 0, _, _, _, h => ⟨fun _ => h.2, fun i hi => by rw [h.1] at hi; cases hi⟩
  | f + 1, _, _, _, h => ⟨h.1, fun i hi => wpOp_mono (fun a' w' => wpAny_more f _ a' w') (h.2 i hi)⟩
theorem wpAny_moreN {Q : Exit → Act → World → Prop} (f : Nat) {listed : Array Bool} {a : Act} {w : World} (h : wpAny P md ops Q f listed a w) : ∀ k, wpAny P md ops Q (f + k) listed a w
  | 0 => h
  | k + 1 => wpAny_more _ _ _ _ (wpAny_moreN f h k)

theorem take_get {l : List Oper} {n i : Nat} (h : i < n) : (l.take n).toArray[i]? = l.toArray[i]? := by simp [h]
theorem take_none {l : List Oper} {n i : Nat} (h : n ≤ i) : (l.take n).toArray[i]? = none := by
  simp only [List.getElem?_toArray, List.getElem?_take]
  rw [if_neg (by omega)]

theorem wanted_take {l : List Oper} {n i : Nat} {o : Oper} (hg : guardB l.toArray n = true) (hi : i < n) (ho : l.toArray[i]? = some o) (tmps : Array Value) :
    Region.wanted o (yielded (l.take n).toArray tmps) = Region.wanted o (yielded l.toArray tmps) := by
  have h1 := List.all_eq_true.1 hg i (List.mem_range.2 hi)
  simp only [ho] at h1
  unfold Region.wanted
  cases hgd : o.guard with
  | none => rfl
  | some p =>
    obtain ⟨j, want⟩ := p
    simp only [hgd, decide_eq_true_eq] at h1
    simp only [yielded, take_get h1]

/-- While one of the first n has not come up, what may come up is what may come up among them. -/
theorem ready_take {l : List Oper} {n : Nat} {listed : Array Bool} (ht : tailB md l.toArray n = true) {i : Nat} (hi : i < n) (hun : listed.getD i true = false) {j : Nat}
    (hj : j ∈ Region.ready md l.toArray listed) : j < n ∧ j ∈ Region.ready md (l.take n).toArray listed := by
  have hil : listed.getD i false = false := getD_both hun
  obtain ⟨h0, o, ho, hall⟩ := mem_ready.1 hj
  have hjn : j < n := by
    rcases Nat.lt_or_ge j n with h | h
    · exact h
    · obtain ⟨o', ho', e, he, hb, hon⟩ := tailB_spec ht h (Array.getElem?_eq_some_iff.1 ho).1 hi
      have : o = o' := Option.some.inj (ho.symm.trans ho')
      subst this
      have := hall e he hb
      rw [hon, hil] at this
      cases this
  exact ⟨hjn, mem_ready.2 ⟨h0, o, by rw [take_get hjn]; exact ho, hall⟩⟩

/-- If nothing may come up among the first n, all of them have come up. -/
theorem all_listed {l : List Oper} {n : Nat} {listed : Array Bool} (hb : backB md l.toArray = true) (hs : listed.size = l.toArray.size) (hn : n ≤ l.length)
    (h : Region.ready md (l.take n).toArray listed = []) : ∀ i, i < n → listed.getD i true = true := by
  intro i
  induction i using Nat.strongRecOn with
  | _ i ih =>
    intro hi
    cases hl : listed.getD i true with
    | true => rfl
    | false =>
      have hil : i < l.toArray.size := by simp; omega
      have ho : l.toArray[i]? = some l.toArray[i] := by simp
      have : i ∈ Region.ready md (l.take n).toArray listed := mem_ready.2 ⟨hl, _, by rw [take_get hi]; exact ho, fun e he hbd => by
        have hlt := backB_spec hb ho he hbd
        have h1 := ih e.on hlt (by omega)
        have hes : e.on < listed.size := by omega
        simp only [Array.getD, hes, dite_true] at h1 ⊢
        exact h1⟩
      rw [h] at this
      cases this

def fullTo (n m : Nat) : Array Bool := ((List.range m).map fun i => decide (i < n)).toArray

/-- The first n operations in any order, then the rest one behind the other. -/
theorem wpAny_of_head_tail {l : List Oper} {n : Nat} {Q : Act → Prop} {Q' : Exit → Act → World → Prop} (hn : n ≤ l.length) (hb : backB md l.toArray = true) (ht : tailB md l.toArray n = true) (hg : guardB l.toArray n = true)
    (hseq : Region.seqB md l.toArray (l.length - n) n (fullTo n l.length) = true)
    (hQ : ∀ a w, C w → Q a → wpList P l.toArray Q' (l.drop n) a w) :
    ∀ (f : Nat) (listed : Array Bool) (a : Act) (w : World), listed.size = l.toArray.size → (∀ t, n ≤ t → t < l.length → listed.getD t true = false) → C w →
      wpAnyQ P md (l.take n).toArray C Q f listed a → wpAny P md l.toArray Q' ((l.length - n) + f) listed a w := by
  have fin : ∀ (listed : Array Bool) (a : Act) (w : World), listed.size = l.toArray.size → (∀ t, n ≤ t → t < l.length → listed.getD t true = false) → C w → Q a →
      Region.ready md (l.take n).toArray listed = [] → wpAny P md l.toArray Q' (l.length - n) listed a w := fun listed a w hs hu hw hq hr => by
    have hall := all_listed hb hs hn hr
    have hfull : listed = fullTo n l.length := by
      apply Array.ext
      · simp [fullTo, hs]
      · intro i h1 h2
        have h3 : i < l.length := by simpa [hs] using h1
        simp only [fullTo, List.getElem_toArray, List.getElem_map, List.getElem_range]
        rcases Nat.lt_or_ge i n with h | h
        · have := hall i h
          simp only [Array.getD, h1, dite_true] at this
          simpa [h] using this
        · have := hu i h h3
          simp only [Array.getD, h1, dite_true] at this
          have hni : ¬ i < n := by omega
          simpa [hni] using this
    subst hfull
    have := wpAny_of_seq (P := P) (md := md) (Q' := Q') (l.drop n) n (fullTo n l.length) a w (fun j => by simp [List.getElem?_drop]) (by rw [List.length_drop]; exact hseq) (hQ a w hw hq)
    rwa [List.length_drop] at this
  intro f
  induction f with
  | zero => exact fun listed a w hs hu hw h => fin listed a w hs hu hw h.2 h.1
  | succ f ih =>
    intro listed a w hs hu hw h
    by_cases hr : Region.ready md (l.take n).toArray listed = []
    · exact wpAny_moreN _ (fin listed a w hs hu hw (h.1 hr) hr) _
    · obtain ⟨i, hi⟩ : ∃ i, i ∈ Region.ready md (l.take n).toArray listed := by
        cases hl : Region.ready md (l.take n).toArray listed with
        | nil => exact absurd hl hr
        | cons x xs => exact ⟨x, by simp⟩
      have hin : i < n := by
        rcases Nat.lt_or_ge i n with h' | h'
        · exact h'
        · obtain ⟨_, o, ho, _⟩ := mem_ready.1 hi
          rw [take_none h'] at ho
          cases ho
      have hun := (mem_ready.1 hi).1
      have hrr : Region.ready md l.toArray listed ≠ [] := fun h0 => by
        obtain ⟨h1, o, ho, hall⟩ := mem_ready.1 hi
        have : i ∈ Region.ready md l.toArray listed := mem_ready.2 ⟨h1, o, by rw [← take_get hin]; exact ho, hall⟩
        rw [h0] at this
        cases this
      refine ⟨fun h0 => absurd h0 hrr, fun j hj => ?_⟩
      obtain ⟨hjn, hj'⟩ := ready_take ht hin hun hj
      have hq := h.2 j hj'
      have hq2 : qOp P l.toArray C j (wpAnyQ P md (l.take n).toArray C Q f (listed.setIfInBounds j true)) a := by
        unfold qOp at hq ⊢
        rw [take_get hjn] at hq
        cases ho : l.toArray[j]? with
        | none => simp only [ho] at hq ⊢; exact hq
        | some o =>
          simp only [ho] at hq ⊢
          rw [wanted_take hg hjn ho] at hq
          exact hq
      refine wpOp_of_qOp hw (fun a' w' hw' hk => ih _ a' w' (by simp [hs]) (fun t ht' htl => ?_) hw' hk) hq2
      rw [getD_set_ne true (by omega)]
      exact hu t ht' htl

/-- A region that draws its order: the first n operations read or call, in any order; the rest (stores, mostly) waits for all of them. -/
theorem wp_region_tail {id : Nat} {Q : Exit → Act → World → Prop} {a : Act} {w : World} {l : List Oper} (n : Nat) (hm : P.follows .mixedOrders = true)
    (hB : (decide (n ≤ l.length) && (Region.noSelect (l.take n).toArray && Region.lexFrom .any (l.take n).toArray n 0 (Array.replicate l.toArray.size false)) && backB .any l.toArray && tailB .any l.toArray n && guardB l.toArray n && Region.seqB .any l.toArray (l.length - n) n (fullTo n l.length)) = true)
    (hC : C { w with drawn := w.drawn + 1 })
    (h : wpQuiet P (l.take n).toArray C (fun a' => ∀ w', C w' → wpList P l.toArray Q (l.drop n) a' w') (l.take n) a) : (Code.region id l.toArray true).wp P Q a w := by
  simp only [Bool.and_eq_true, decide_eq_true_eq] at hB
  obtain ⟨⟨⟨⟨⟨hn, hlex⟩, hb⟩, ht⟩, hg⟩, hseq⟩ := hB
  refine wp_region_any hm ?_
  have hlen : (l.take n).length = n := by simp; omega
  have H := wpAnyQ_lex (C := C) (md := .any) hlex.1 (l.take n) 0 (Array.replicate l.toArray.size false) a (by simp) (by rw [hlen]; exact hlex.2) h
  rw [hlen] at H
  have := wpAny_of_head_tail (Q' := Q) hn hb ht hg hseq (fun a w hw hq => hq w hw) n _ a _ (by simp) (fun t _ htl => getD_in (by simpa using htl) (getD_replicate_false _ _)) hC H
  rw [show l.length - n + n = l.toArray.size by simp; omega] at this
  exact this
end

theorem steady_tail {P : Program} {id : Nat} {Q : Exit → Act → World → Prop} {a : Act} {W : World} {l : List Oper} (n : Nat) (hm : P.follows .mixedOrders = true)
    (hB : (decide (n ≤ l.length) && (Region.noSelect (l.take n).toArray && Region.lexFrom .any (l.take n).toArray n 0 (Array.replicate l.toArray.size false)) && backB .any l.toArray && tailB .any l.toArray n && guardB l.toArray n && Region.seqB .any l.toArray (l.length - n) n (fullTo n l.length)) = true)
    (h : wpQuiet P (l.take n).toArray (fun w' => ∃ x : Ext W, w' = x.w) (fun a' => ∀ w', (∃ x : Ext W, w' = x.w) → wpList P l.toArray Q (l.drop n) a' w') (l.take n) a) : (Code.region id l.toArray true).wp P Q a W :=
  wp_region_tail (C := fun w' => ∃ x : Ext W, w' = x.w) n hm hB ⟨⟨_, below_draw W⟩, rfl⟩ h

theorem steady_tail_from {P : Program} {id : Nat} {Q : Exit → Act → World → Prop} {a : Act} {W w : World} {l : List Oper} (hbw : Below W.heap.size W w) (n : Nat) (hm : P.follows .mixedOrders = true)
    (hB : (decide (n ≤ l.length) && (Region.noSelect (l.take n).toArray && Region.lexFrom .any (l.take n).toArray n 0 (Array.replicate l.toArray.size false)) && backB .any l.toArray && tailB .any l.toArray n && guardB l.toArray n && Region.seqB .any l.toArray (l.length - n) n (fullTo n l.length)) = true)
    (h : wpQuiet P (l.take n).toArray (fun w' => ∃ x : Ext W, w' = x.w) (fun a' => ∀ w', (∃ x : Ext W, w' = x.w) → wpList P l.toArray Q (l.drop n) a' w') (l.take n) a) : (Code.region id l.toArray true).wp P Q a w :=
  wp_region_tail (C := fun w' => ∃ x : Ext W, w' = x.w) n hm hB ⟨⟨_, hbw.trans ((below_draw w).mono hbw.size)⟩, rfl⟩ h

theorem bcell {W w1 : World} (hb : Below W.heap.size W w1) : (∀ b o, b < W.heap.size → w1.cell? ⟨b, o, none⟩ = W.cell? ⟨b, o, none⟩) ∧ (∀ b o, b < W.heap.size → w1.frozen? ⟨b, o, none⟩ = W.frozen? ⟨b, o, none⟩) :=
  ⟨fun b o h => hb.cell (p := ⟨b, o, none⟩) h, fun b o h => hb.frozen (p := ⟨b, o, none⟩) h⟩

/-! ### A slice of the call's own that grows -/

/-- 'out = append(out, x)', x laid into a block of its own by the operation ahead. -/
theorem wpList_append1 {P : Program} {ops : Array Oper} {rest : List Oper} {o : Oper} {a : Act} {Q : Exit → Act → World → Prop} {w : World} (hgd : o.guard = none) (s x : Operand) (t : TypeId)
    (ho : o.op = .call { callee := .builtin .append, args := #[s, x], argTypes := #[t, t] })
    (base : Nat) (e : TypeId) (i : TypeInfo) (z : Value) (size bytes : Nat) (ht : P.underlying t = some (.slice e)) (hi : P.info? e = some i) (hz : i.zero = some z)
    (hsize : i.size = size) (hby : i.bytes = bytes) (hzs : z.cells.size = size) (hsz : 0 < size)
    (v : Value) (n : Nat) (xs : List Value) (hs : a.eval s = v) (hown : w.ownsRow base e size v n xs) (cs : List Value)
    (hx : a.eval x = .slice (some ⟨w.heap.size, 0, none⟩) 1 1) (hl : cs.length = size) (h1 : ∀ u ∈ cs, u.oneCell' = true)
    (h63 : n + 1 ≤ maxLen) (hbytes : (n + 1) * bytes ≤ 140737488355328) (hbase : base ≤ w.heap.size)
    (h : ∀ v' w', w'.ownsRow base e size v' (n + 1) (xs ++ cs) → w.grownBy w' v.ownBlock → Below base w w' → wpList P ops Q rest (a.put o.dst v') w') :
    wpList P ops Q (o :: rest) a (w.alloc (.cells cs.toArray e)) := by
  refine wpList_append_own (w := w.alloc (.cells cs.toArray e)) hgd s x t ho base e i z size bytes ht hi hz hsize hby hzs hsz v n xs hs (hown.alloc _) ⟨w.heap.size, 0, none⟩ 1 1 cs hx (by simpa using hl) ?_ h1 h63 hbytes (by simp; omega) ?_
  · intro j u hj
    have hc : (w.alloc (.cells cs.toArray e)).cell? ⟨w.heap.size, j, none⟩ = cs[j]? := by
      rw [cell_of_row _ _ _ _ _ _ (heap_alloc_new w _)]
      simp
    simp only [Addr.add_lit, Nat.zero_add]
    rw [hc]; exact hj
  · intro v' w' h2 h3 _
    have hlt := hown.lt
    refine h v' w' h2 ⟨h3.os, h3.tape, h3.output, Nat.le_trans (by simp) h3.size, fun k hk hne => ?_⟩ ⟨h3.os, h3.tape, h3.output, Nat.le_trans (by simp) h3.size, fun k hk => ?_⟩
    · rw [h3.block k (by simp; omega) hne]
      exact Below.heap_alloc _ _ _ hk
    · rw [h3.block k (by simp; omega) (fun e => by have := hlt k e.symm; omega)]
      exact Below.heap_alloc _ _ _ (by omega)

/-- The cells of bytes. -/
def bcells (l : List UInt8) : List Value := l.map fun b => .int .u8 (b.toNat : Int)

theorem push_foldl (l : List UInt8) : ∀ s : ByteArray, (l.map fun b : UInt8 => (b.toNat : Int)).foldl (fun r n => r.push (UInt8.ofNat n.toNat)) s = ⟨s.data ++ l.toArray⟩ := by
  induction l with
  | nil => intro s; simp
  | cons b l ih =>
    intro s
    simp only [List.map_cons, List.foldl_cons]
    rw [ih]
    simp [ByteArray.push]

/-- 'string(b)', b a slice of bytes of the call's own. -/
theorem run_string_own {P : Program} {w : World} {base : Nat} {src dst e : TypeId} {v : Value} {n : Nat} {l : List UInt8} (hown : w.ownsRow base e 1 v n (bcells l))
    (hs : P.underlying src = some (.slice e)) (he : P.underlying e = some (.int .u8)) (hd : P.underlying dst = some .string) : (convert src dst v).run P w = .ok (.string ⟨l.toArray⟩) w := by
  have hlen : (bcells l).length = n := by simpa using hown.1
  have hln : l.length = n := by simpa [bcells] using hlen
  rcases hown.2 with ⟨rfl, hn⟩ | ⟨g, cap, cur, rfl, _, hg, _, _, _, _⟩
  · have : l = [] := List.eq_nil_of_length_eq_zero (by omega)
    subst this
    rw [run_convert_bytes_string w src dst e _ _ _ hs he hd]
    simp only [Conv.bytesToString, Sem.run_pure]
    rfl
  · rw [run_convert_bytes_string w src dst e _ _ _ hs he hd]
    have hb : bcells l = (l.map fun b : UInt8 => (b.toNat : Int)).map (Value.int .u8) := by simp [bcells]
    have := run_bytesToString (P := P) w ⟨g, 0, none⟩ n cap (l.map fun b : UInt8 => (b.toNat : Int)) (by
      rw [← hb]
      rw [← hlen]
      refine run_loadCells_list (w := w) _ (bcells l) fun j u hj => ?_
      exact hown.cells rfl j u hj)
    rw [this, push_foldl]
    simp

theorem below_bytes (w : World) (e : TypeId) (s : ByteArray) : Below w.heap.size w (Lib.bytesWorld w e s) :=
  ⟨rfl, rfl, rfl, by rw [Lib.bytesWorld_size]; omega, fun k hk => Lib.bytesWorld_at_old w e s k hk⟩

theorem bsize {W w1 : World} (hb : Below W.heap.size W w1) : ∀ b, b < W.heap.size → b < w1.heap.size := fun _ h => Nat.lt_of_lt_of_le h hb.size

end Go.Proofs.YtkbhmcdoedmffaaDoor

namespace Go.Proofs.YtkbhmcdoedmffaaDoor
set_option linter.unusedVariables false
set_option linter.unusedSimpArgs false
open Go.ChangeShapes Go.WideShapes Go.ChangeAt Go.RowKit

theorem own : ownKnob Tryd.prog.godebug = none := by kernel_rfl
theorem laidOut : laidOutB Tryd.prog = true := by kernel_rfl

section
variable {H : Type} {enc : TypeId × Value → H} {P : Program} {W W' : World}

theorem trodAll_below (hl : laidOutB P = true) (hb : Below W.heap.size W W') : ∀ (ts : List TypeId) (vs : List Value) (ds : List (DataW H)) (ps : List MemPlace), (∀ t ∈ ts, P.readableRec t = true ∧ t < P.types.size) →
    DataW.TrodAll enc P W 0 (fun _ => true) true ts vs ds ps → (∀ x ∈ ps, x.block < W.heap.size) → DataW.TrodAll enc P W' 0 (fun b => decide (b < W.heap.size)) true ts vs ds ps
  | [], [], [], _, _, h, _ => h
  | t :: ts, v :: vs, d :: ds, ps, hr, h, hlt => by
    obtain ⟨p, q, h1, h2, rfl⟩ := h
    have ht := hr t (by simp)
    exact ⟨p, q, Below.trod hl ht.1 ht.2 h1 hb (fun x hx => hlt x (by simp [hx])), trodAll_below hl hb ts vs ds q (fun t' h' => hr t' (by simp [h'])) h2 (fun x hx => hlt x (by simp [hx])), rfl⟩
  | [], [], _ :: _, _, _, h, _ => h.elim
  | [], _ :: _, _, _, _, h, _ => h.elim
  | _ :: _, [], _, _, _, h, _ => h.elim
  | _ :: _, _ :: _, [], _, _, h, _ => h.elim

/-- A law's row: true, and every argument reads as it did. -/
theorem law_post {f : Func} {s : ChangeSpec} {args : Array Value} {ds : List (DataW H)} {before : List MemPlace} {tb : TypeId} (hl : laidOutB P = true)
    (hW : DataW.Whole enc P f.params.toList s.vars false W args.toList ds [] before) (hsv : s.vars = []) (hr0 : (f.params.toList.all fun t => P.readableRec t && decide (t < P.types.size)) = true)
    (hrt : f.resultTypes = #[tb]) (htb : P.underlying tb = some .bool) (h1 : (s.fn H (ds ++ [])).results = [.lit (.bool true)]) (h2 : (s.fn H (ds ++ [])).args = ds) (h3 : (s.fn H (ds ++ [])).vars = [])
    (hb : Below W.heap.size W W') : s.post enc P f false true false false W args (.bool true) W' := by
  have hr : ∀ t ∈ f.params.toList, P.readableRec t = true ∧ t < P.types.size := fun t ht => by simpa using List.all_eq_true.1 hr0 t ht
  have hlt : ∀ p ∈ before, p.block < W.heap.size := fun p hp => hW.lt p hp
  have hW0 := hW
  obtain ⟨p, q, hA, hV, rfl, _, _⟩ := hW0
  rw [hsv] at hV
  obtain rfl : q = [] := hV
  refine ⟨ds, [], _, [], p, [], hW, ?_, ?_, ?_, hb.frame _, fun h => by cases h⟩
  · rw [h1, hrt]
    exact trodAll_mk1 (shut_bool htb true)
  · rw [h2]
    exact trodAll_below hl hb _ _ _ _ hr hA (fun x hx => hlt x (by simp [hx]))
  · rw [h3, hsv]; rfl
end

section
variable {H : Type} {enc : TypeId × Value → H} {P : Program} {w : World} {base : Nat} {sp : Nat → Bool} {held : Bool}

theorem okWide_array {r : Reach} {b : Nat} {t e : TypeId} {n : Nat} {v : Value} (ht : P.underlying t = some (.array n e)) (h : Value.okWide P w r b t v) : ∃ cs, v = .agg cs ∧ cs.size = P.cellsOf t := by
  simp only [Value.okWide, ht] at h
  obtain ⟨cs, h1, h2, _⟩ := h
  exact ⟨cs, h1, h2⟩

/-- An array of integers by value. -/
theorem open_int_array {r : Reach} {b0 : Nat} {t e : TypeId} {n : Nat} {k : IntKind} {v : Value} {d : DataW H} {ps : List MemPlace} (ht : P.underlying t = some (.array n e)) (he : P.underlying e = some (.int k)) (hc : P.cellsOf e = 1) (hn : P.cellsOf t = n)
    (hval : Value.okWide P w r b0 t v) (hd : DataW.Trod enc P w base sp held t v d ps) : ∃ zs : List Int, zs.length = n ∧ v = .agg (zs.map (Value.int k)).toArray ∧ ∀ z ∈ zs, (Lit.int k z).wf = true := by
  obtain ⟨cs, rfl, hs⟩ := okWide_array ht hval
  obtain ⟨fuel, hf⟩ := hd
  obtain ⟨xs, m, _, _, hl, hx, hall⟩ := DataW.trod_array ht hf
  have hcs : (Value.agg cs).cells.toList = cs.toList := rfl
  rw [hcs] at hl hall
  have hlen : cs.toList.length = n := by rw [hl, hn]
  have key : ∀ i, (h : i < cs.toList.length) → ∃ z, cs.toList[i] = .int k z ∧ (Lit.int k z).wf = true := by
    intro i h
    have h1 := hall i (by omega)
    rw [hc, Nat.mul_one, List.take_one, List.head?_drop, List.getElem?_eq_getElem h, List.getElem?_eq_getElem (by omega)] at h1
    obtain ⟨z, hz, _, hw⟩ := DataW.trod_int he h1
    exact ⟨z, by simpa using hz, hw⟩
  have all : ∀ l : List Value, (∀ i, (h : i < l.length) → ∃ z, l[i] = .int k z ∧ (Lit.int k z).wf = true) → ∃ zs : List Int, zs.length = l.length ∧ l = zs.map (Value.int k) ∧ ∀ z ∈ zs, (Lit.int k z).wf = true := by
    intro l
    induction l with
    | nil => exact fun _ => ⟨[], rfl, rfl, by simp⟩
    | cons c l ih =>
      intro h
      obtain ⟨z, hz, hw⟩ := h 0 (by simp)
      obtain ⟨zs, h1, h2, h3⟩ := ih (fun i hi => by obtain ⟨z', h', w'⟩ := h (i + 1) (by simpa using hi); exact ⟨z', h', w'⟩)
      refine ⟨z :: zs, by simp [h1], ?_, ?_⟩
      · simp only [List.map_cons]
        rw [← h2, ← hz]; rfl
      · intro y hy
        rcases List.mem_cons.1 hy with rfl | hy
        · exact hw
        · exact h3 y hy
  obtain ⟨zs, h1, h2, h3⟩ := all cs.toList key
  exact ⟨zs, by rw [h1, hlen], by rw [← h2], h3⟩

theorem len2 {zs : List Int} (h : zs.length = 2) : ∃ a b, zs = [a, b] := by
  match zs, h with
  | [a, b], _ => exact ⟨a, b, rfl⟩
theorem len3 {zs : List Int} (h : zs.length = 3) : ∃ a b c, zs = [a, b, c] := by
  match zs, h with
  | [a, b, c], _ => exact ⟨a, b, c, rfl⟩
theorem len4 {zs : List Int} (h : zs.length = 4) : ∃ a b c d, zs = [a, b, c, d] := by
  match zs, h with
  | [a, b, c, d], _ => exact ⟨a, b, c, d, rfl⟩

theorem wf_i64 {n : Int} (h : (Lit.int .i64 n).wf = true) : -9223372036854775808 ≤ n ∧ n ≤ 9223372036854775807 := by
  have h1 : IntKind.i64.min = -9223372036854775808 := rfl
  have h2 : IntKind.i64.max = 9223372036854775807 := rfl
  simpa [Lit.wf, h1, h2] using h
theorem wf_u64 {n : Int} (h : (Lit.int .u64 n).wf = true) : 0 ≤ n ∧ n ≤ 18446744073709551615 := by
  have h1 : IntKind.u64.min = 0 := rfl
  have h2 : IntKind.u64.max = 18446744073709551615 := rfl
  simpa [Lit.wf, h1, h2] using h
theorem wf_u32 {n : Int} (h : (Lit.int .u32 n).wf = true) : 0 ≤ n ∧ n ≤ 4294967295 := by
  have h1 : IntKind.u32.min = 0 := rfl
  have h2 : IntKind.u32.max = 4294967295 := rfl
  simpa [Lit.wf, h1, h2] using h
theorem wf_u16 {n : Int} (h : (Lit.int .u16 n).wf = true) : 0 ≤ n ∧ n ≤ 65535 := by
  have h1 : IntKind.u16.min = 0 := rfl
  have h2 : IntKind.u16.max = 65535 := rfl
  simpa [Lit.wf, h1, h2] using h
theorem wf_u8 {n : Int} (h : (Lit.int .u8 n).wf = true) : 0 ≤ n ∧ n ≤ 255 := by
  have h1 : IntKind.u8.min = 0 := rfl
  have h2 : IntKind.u8.max = 255 := rfl
  simpa [Lit.wf, h1, h2] using h
end
end Go.Proofs.YtkbhmcdoedmffaaDoor

namespace Go.Proofs.YtkbhmcdoedmffaaDoor
set_option linter.unusedVariables false
set_option linter.unusedSimpArgs false
set_option maxRecDepth 100000
abbrev bs (l : List UInt8) : ByteArray := ⟨l.toArray⟩
theorem bs_app (l m : List UInt8) : bs l ++ bs m = bs (l ++ m) := by
  apply ByteArray.ext
  rw [ByteArray.data_append]
  simp
theorem bs_size (l : List UInt8) : (bs l).size = l.length := by simp [ByteArray.size]
/-! ### The lexer as a plain function of bytes -/
structure TokP where
  k : Nat
  t : List UInt8
  n : Nat
  l : Nat
  c : Nat
def isDig (b : UInt8) : Bool := decide (48 ≤ b.toNat) && decide (b.toNat ≤ 57)
def isLet (b : UInt8) : Bool := (decide (65 ≤ b.toNat) && decide (b.toNat ≤ 90)) || ((decide (97 ≤ b.toNat) && decide (b.toNat ≤ 122)) || decide (b.toNat = 95))
def alnum (b : UInt8) : Bool := isDig b || isLet b
def isHex (b : UInt8) : Bool := isDig b || ((decide (97 ≤ b.toNat) && decide (b.toNat ≤ 102)) || (decide (65 ≤ b.toNat) && decide (b.toNat ≤ 70)))
def hexN (b : UInt8) : Nat := if b.toNat ≤ 57 then b.toNat - 48 else if 97 ≤ b.toNat then b.toNat - 87 else b.toNat - 55
def valF (base : Nat) : Nat → List UInt8 → Option Nat
  | n, [] => some n
  | n, b :: r => if n * base + hexN b < 18446744073709551616 then valF base (n * base + hexN b) r else none
/-- A run that begins with a digit: its number, or the error. -/
inductive TR where
  | ok (k : Nat) (t : List UInt8) (n : Nat)
  | err (e : Nat)
def numR (s : List UInt8) : Option Nat → TR
  | some n => .ok 1 s n
  | none => .err 5
def sixteen (s : List UInt8) : Bool := [48, 120].isPrefixOf s && (decide (2 < s.length) && (s.drop 2).all isHex)
def numF (s : List UInt8) : TR :=
  if sixteen s then numR s (valF 16 0 (s.drop 2)) else if s.all isDig then numR s (valF 10 0 s) else .err 4
def signsL : List (List UInt8) := [[46, 46], [61, 61], [33, 61], [60, 61], [62, 61], [60, 60], [62, 62], [38, 38], [124, 124], [123], [125], [40], [41], [91], [93], [59], [58], [44], [61], [60], [62], [43], [45], [42], [47], [37], [38], [124], [33]]
def signF (r : List UInt8) : Option (List UInt8) := signsL.find? (·.isPrefixOf r)
def tokF (r : List UInt8) : TR :=
  match r.takeWhile alnum with
  | [] => match signF r with | none => .err 4 | some t => .ok 2 t 0
  | b :: w => if isDig b then numF (b :: w) else if (b :: w).length ≤ 32 then .ok 0 (b :: w) 0 else .err 7
def isCom (r : List UInt8) : Bool := [47, 47].isPrefixOf r
inductive Stp where
  | done
  | go (r : List UInt8) (l c : Nat)
  | tok (k : Nat) (t : List UInt8) (n : Nat)
  | err (e : Nat)
def notNl (b : UInt8) : Bool := b != 10
def TR.stp : TR → Stp
  | .ok k t n => .tok k t n
  | .err e => .err e
def stp (r : List UInt8) (l c : Nat) : Stp :=
  match r with
  | [] => .done
  | b :: r' => if b = 10 then .go r' (l + 1) 1 else if b = 32 ∨ b = 9 ∨ b = 13 then .go r' l (c + 1)
    else if isCom (b :: r') then .go ((b :: r').dropWhile notNl) l (c + ((b :: r').takeWhile notNl).length)
    else (tokF (b :: r')).stp
inductive LR where
  | ok (ts : List TokP)
  | err (l c e : Nat)
def LR.pre (o : List TokP) : LR → LR
  | .ok ts => .ok (o ++ ts)
  | .err l c e => .err l c e
def lexN : Nat → List UInt8 → Nat → Nat → LR
  | 0, _, _, _ => .ok []
  | n + 1, r, l, c => match stp r l c with
    | .done => .ok [⟨3, [], 0, l, c⟩]
    | .go r' l' c' => lexN n r' l' c'
    | .tok k t v => (lexN n (r.drop t.length) l (c + t.length)).pre [⟨k, t, v, l, c⟩]
    | .err e => .err l c e
def lexF (r : List UInt8) (l c : Nat) : LR := lexN (r.length + 1) r l c

theorem takeWhile_split {α} (p : α → Bool) : ∀ l : List α, ∃ X, l = l.takeWhile p ++ X ∧ (∀ c, X[0]? = some c → p c = false)
  | [] => ⟨[], rfl, fun c h => by cases h⟩
  | a :: l => by
    rcases h : p a with _ | _
    · exact ⟨a :: l, by rw [List.takeWhile_cons, h]; rfl, fun c hc => by cases hc; exact h⟩
    · obtain ⟨X, h1, h2⟩ := takeWhile_split p l
      exact ⟨X, by rw [List.takeWhile_cons, h]; show a :: l = a :: (l.takeWhile p ++ X); rw [← h1], h2⟩
theorem takeWhile_all {α} (p : α → Bool) : ∀ l : List α, ∀ c ∈ l.takeWhile p, p c = true
  | [], c, h => by cases h
  | a :: l, c, h => by
    rw [List.takeWhile_cons] at h
    split at h
    · rename_i ha
      rcases List.mem_cons.1 h with rfl | h
      · exact ha
      · exact takeWhile_all p l c h
    · cases h
theorem dropWhile_eq {α} (p : α → Bool) : ∀ l : List α, l.dropWhile p = l.drop (l.takeWhile p).length
  | [] => rfl
  | a :: l => by
    rw [List.dropWhile_cons, List.takeWhile_cons]
    split
    · rw [dropWhile_eq p l]; rfl
    · rfl
theorem takeWhile_app {α : Type} {p : α → Bool} : ∀ {l X : List α}, (∀ c ∈ l, p c = true) → (∀ c, X[0]? = some c → p c = false) → (l ++ X).takeWhile p = l
  | [], [], _, _ => rfl
  | [], c :: X, _, h => by rw [List.nil_append, List.takeWhile_cons, if_neg (by rw [h c rfl]; decide)]
  | c :: l, X, h1, h2 => by
    rw [List.cons_append, List.takeWhile_cons, if_pos (h1 c (by simp)), takeWhile_app (fun d hd => h1 d (by simp [hd])) h2]
theorem signs_len : ∀ t ∈ signsL, 0 < t.length ∧ t.length ≤ 2 ∧ (∀ c ∈ t, alnum c = false) ∧ 10 ∉ t := by decide +kernel
theorem signF_mem {r t : List UInt8} (h : signF r = some t) : t ∈ signsL ∧ ∃ X, r = t ++ X := by
  have h1 := List.find?_some h
  exact ⟨List.mem_of_find?_eq_some h, by obtain ⟨X, hX⟩ := List.isPrefixOf_iff_prefix.1 h1; exact ⟨X, hX.symm⟩⟩
theorem numF_ok {s t : List UInt8} {k n : Nat} (h : numF s = .ok k t n) : k = 1 ∧ t = s := by
  unfold numF at h
  split at h
  · revert h; cases valF 16 0 (s.drop 2) <;> intro h <;> cases h; exact ⟨rfl, rfl⟩
  · split at h
    · revert h; cases valF 10 0 s <;> intro h <;> cases h; exact ⟨rfl, rfl⟩
    · cases h
/-- What a token is. -/
theorem tokF_ok {r t : List UInt8} {k n : Nat} (h : tokF r = .ok k t n) : (∃ X, r = t ++ X) ∧ t ≠ [] ∧ k < 3 ∧ 10 ∉ t := by
  unfold tokF at h
  split at h
  · split at h
    · cases h
    · rename_i hs
      cases h
      obtain ⟨h1, h2⟩ := signF_mem hs
      have h3 := signs_len t h1
      exact ⟨h2, by intro e; rw [e] at h3; exact absurd h3.1 (by decide), by decide, h3.2.2.2⟩
  · rename_i b w hw
    obtain ⟨X, hX, -⟩ := takeWhile_split alnum r
    have ha : 10 ∉ r.takeWhile alnum := fun hc => absurd (takeWhile_all alnum r 10 hc) (by decide)
    rw [hw] at hX ha
    split at h
    · obtain ⟨rfl, rfl⟩ := numF_ok h
      exact ⟨⟨X, hX⟩, by simp, by decide, ha⟩
    · split at h
      · cases h
        exact ⟨⟨X, hX⟩, by simp, by decide, ha⟩
      · cases h
theorem stp_go {r r' : List UInt8} {l c l' c' : Nat} (h : stp r l c = .go r' l' c') : r'.length < r.length := by
  unfold stp at h
  split at h
  · cases h
  · rename_i b x
    split at h
    · cases h; simp
    · split at h
      · cases h; simp
      · split at h
        · rename_i hc
          cases h
          have hb : b = 47 := by
            have := List.isPrefixOf_iff_prefix.1 hc
            obtain ⟨X, hX⟩ := this
            simp at hX
            exact hX.1.symm
          rw [List.dropWhile_cons, if_pos (by rw [hb]; decide)]
          rw [dropWhile_eq, List.length_drop]
          simp; omega
        · revert h; cases tokF (b :: x) <;> intro h <;> cases h
theorem stp_tok {r t : List UInt8} {l c k n : Nat} (h : stp r l c = .tok k t n) : tokF r = .ok k t n := by
  unfold stp at h
  split at h
  · cases h
  · rename_i b x
    split at h
    · cases h
    · split at h
      · cases h
      · split at h
        · cases h
        · revert h; cases tokF (b :: x) <;> intro h <;> cases h; rfl
theorem lexN_two : ∀ (n m : Nat) (r : List UInt8) (l c : Nat), r.length < n → r.length < m → lexN n r l c = lexN m r l c := by
  intro n
  induction n with
  | zero => intro m r l c h; omega
  | succ n ih =>
    intro m r l c h hm
    obtain ⟨m, rfl⟩ : ∃ k, m = k + 1 := ⟨m - 1, by omega⟩
    rw [lexN, lexN]
    rcases hs : stp r l c with _ | ⟨r', l', c'⟩ | ⟨k, t, v⟩ | e <;> dsimp only
    · have h1 := stp_go hs
      exact ih m r' l' c' (by omega) (by omega)
    · obtain ⟨⟨X, rfl⟩, h2, -⟩ := tokF_ok (stp_tok hs)
      have h3 : 0 < t.length := List.length_pos_iff.2 h2
      rw [List.length_append] at h hm
      rw [ih m ((t ++ X).drop t.length) l (c + t.length) (by simp; omega) (by simp; omega)]
theorem lexF_eq (r : List UInt8) (l c : Nat) : lexF r l c = match stp r l c with
    | .done => .ok [⟨3, [], 0, l, c⟩]
    | .go r' l' c' => lexF r' l' c'
    | .tok k t v => (lexF (r.drop t.length) l (c + t.length)).pre [⟨k, t, v, l, c⟩]
    | .err e => .err l c e := by
  unfold lexF
  rw [lexN]
  rcases hs : stp r l c with _ | ⟨r', l', c'⟩ | ⟨k, t, v⟩ | e <;> dsimp only
  · have h1 := stp_go hs
    exact lexN_two _ _ r' l' c' (by omega) (by omega)
  · obtain ⟨⟨X, rfl⟩, h2, -⟩ := tokF_ok (stp_tok hs)
    have h3 : 0 < t.length := List.length_pos_iff.2 h2
    rw [lexN_two _ (((t ++ X).drop t.length).length + 1) ((t ++ X).drop t.length) l (c + t.length) (by simp; omega) (by simp)]
theorem LR.pre_pre (a b : List TokP) (x : LR) : (x.pre b).pre a = x.pre (a ++ b) := by
  cases x <;> simp [LR.pre]
/-! ### Skipping: the place behind bytes -/
def skipP (p : Nat × Nat) (b : UInt8) : Nat × Nat := if b = 10 then (p.1 + 1, 1) else (p.1, p.2 + 1)
def blank (b : UInt8) : Bool := decide (b = 32) || (decide (b = 9) || (decide (b = 10) || decide (b = 13)))
theorem skip_line : ∀ (x : List UInt8) (l c : Nat), 10 ∉ x → x.foldl skipP (l, c) = (l, c + x.length)
  | [], l, c, _ => rfl
  | b :: x, l, c, h => by
    rw [List.foldl_cons]
    unfold skipP
    rw [if_neg (fun e => h (by rw [e]; simp))]
    rw [show List.foldl (fun p b => if b = 10 then (p.1 + 1, 1) else (p.1, p.2 + 1)) (l, c + 1) x = x.foldl skipP (l, c + 1) from rfl, skip_line x l (c + 1) (fun e => h (by simp [e]))]
    rw [List.length_cons, Nat.add_assoc, Nat.add_comm 1]
theorem lexF_blank : ∀ (x r : List UInt8) (p : Nat × Nat), (∀ c ∈ x, blank c = true) → lexF (x ++ r) p.1 p.2 = lexF r (x.foldl skipP p).1 (x.foldl skipP p).2
  | [], r, p, _ => rfl
  | b :: x, r, p, h => by
    rw [List.cons_append, lexF_eq, List.foldl_cons]
    have hb := h b (by simp)
    unfold stp
    dsimp only
    by_cases h10 : b = 10
    · rw [if_pos h10]
      dsimp only
      rw [show skipP p b = (p.1 + 1, 1) from by unfold skipP; rw [if_pos h10]]
      exact lexF_blank x r (p.1 + 1, 1) (fun c hc => h c (by simp [hc]))
    · rw [if_neg h10, if_pos (by simp [blank, h10] at hb; rcases hb with hb | hb | hb <;> simp [hb])]
      dsimp only
      rw [show skipP p b = (p.1, p.2 + 1) from by unfold skipP; rw [if_neg h10]]
      exact lexF_blank x r (p.1, p.2 + 1) (fun c hc => h c (by simp [hc]))
theorem isCom_eq {r : List UInt8} (h : isCom r = true) : ∃ X, r = 47 :: 47 :: X := by
  obtain ⟨X, hX⟩ := List.isPrefixOf_iff_prefix.1 h
  exact ⟨X, hX.symm⟩
theorem takeWhile_nl (r : List UInt8) : 10 ∉ r.takeWhile notNl := fun h => absurd (takeWhile_all notNl r 10 h) (by decide)
/-- A comment is passed over at once. -/
theorem lexF_com {r : List UInt8} (p : Nat × Nat) (h : isCom r = true) : lexF r p.1 p.2 = lexF (r.dropWhile notNl) ((r.takeWhile notNl).foldl skipP p).1 ((r.takeWhile notNl).foldl skipP p).2 := by
  obtain ⟨X, rfl⟩ := isCom_eq h
  rw [lexF_eq, skip_line _ _ _ (takeWhile_nl _)]
  unfold stp
  dsimp only
  rw [if_neg (by decide), if_neg (by decide), if_pos h]
/-- Where no blank and no comment stands, a token is due. -/
theorem lexF_tok {r : List UInt8} (l c : Nat) (hr : r ≠ []) (hb : ∀ b, r[0]? = some b → blank b = false) (hc : isCom r = false) : lexF r l c = match tokF r with
    | .ok k t v => (lexF (r.drop t.length) l (c + t.length)).pre [⟨k, t, v, l, c⟩]
    | .err e => .err l c e := by
  rw [lexF_eq]
  rcases r with _ | ⟨b, x⟩
  · exact absurd rfl hr
  have h0 := hb b rfl
  unfold stp
  dsimp only
  rw [if_neg (by intro e; rw [e] at h0; revert h0; decide), if_neg (by rintro (e | e | e) <;> (rw [e] at h0; revert h0; decide)), if_neg (by rw [hc]; decide)]
  cases tokF (b :: x) <;> rfl
theorem lexF_nil (l c : Nat) : lexF [] l c = .ok [⟨3, [], 0, l, c⟩] := by rw [lexF_eq]; rfl
/-! ### Lines: what follows a text -/
def LR.shift (k : Nat) : LR → LR
  | .ok ts => .ok (ts.map fun t => ⟨t.k, t.t, t.n, t.l + k, t.c⟩)
  | .err l c e => .err (l + k) c e
def Stp.shift (k : Nat) : Stp → Stp
  | .go r l c => .go r (l + k) c
  | x => x
theorem LR.shift_pre (k : Nat) (u : TokP) (x : LR) : (x.pre [u]).shift k = (x.shift k).pre [⟨u.k, u.t, u.n, u.l + k, u.c⟩] := by
  cases x <;> simp [LR.pre, LR.shift]
theorem stp_shift (k : Nat) (r : List UInt8) (l c : Nat) : stp r (l + k) c = (stp r l c).shift k := by
  unfold stp
  split
  · rfl
  · rename_i b x
    split
    · simp [Stp.shift]; omega
    · split
      · rfl
      · split
        · rfl
        · cases tokF (b :: x) <;> rfl
theorem lexN_shift (k : Nat) : ∀ (n : Nat) (r : List UInt8) (l c : Nat), lexN n r (l + k) c = (lexN n r l c).shift k
  | 0, _, _, _ => rfl
  | n + 1, r, l, c => by
    rw [lexN, lexN, stp_shift]
    rcases stp r l c with _ | ⟨r', l', c'⟩ | ⟨k', t, v⟩ | e <;> dsimp only [Stp.shift]
    · rfl
    · exact lexN_shift k n r' l' c'
    · rw [lexN_shift k n, LR.shift_pre]
    · rfl
theorem lexF_shift (k : Nat) (r : List UInt8) (l c : Nat) : lexF r (l + k) c = (lexF r l c).shift k := lexN_shift k _ r l c
theorem takeWhile_end {α} {p : α → Bool} : ∀ {s Y : List α}, (∀ c, Y[0]? = some c → p c = false) → (s ++ Y).takeWhile p = s.takeWhile p
  | [], [], _ => rfl
  | [], y :: Y, h => by rw [List.nil_append, List.takeWhile_cons, if_neg (by rw [h y rfl]; decide)]; rfl
  | a :: s, Y, h => by rw [List.cons_append, List.takeWhile_cons, List.takeWhile_cons, takeWhile_end h]
theorem signs_slash : ∀ p ∈ signsL, p[1]? ≠ some 47 := by decide +kernel
theorem isPre_end {p s Y : List UInt8} (hp : 0 < p.length) (hl : p.length ≤ 2) (h1 : p[1]? ≠ some 47) (hs : s ≠ []) (hY : Y[0]? = some 47) : p.isPrefixOf (s ++ Y) = p.isPrefixOf s := by
  rcases Y with _ | ⟨y, Y⟩
  · cases hY
  cases hY
  match p, s, hp, hl, hs with
  | [a], b :: s, _, _, _ => simp [List.isPrefixOf]
  | [a, a'], [b], _, _, _ => simp [List.isPrefixOf]; intro _ e; exact absurd (by rw [← e]; rfl) h1
  | [a, a'], b :: b' :: s, _, _, _ => simp [List.isPrefixOf]
theorem find_congr {α} {p q : α → Bool} : ∀ {l : List α}, (∀ a ∈ l, p a = q a) → l.find? p = l.find? q
  | [], _ => rfl
  | a :: l, h => by rw [List.find?_cons, List.find?_cons, h a (by simp), find_congr (fun b hb => h b (by simp [hb]))]
theorem signF_end {s Y : List UInt8} (hs : s ≠ []) (hY : Y[0]? = some 47) : signF (s ++ Y) = signF s :=
  find_congr fun p hp => isPre_end (signs_len p hp).1 (signs_len p hp).2.1 (signs_slash p hp) hs hY
theorem tokF_end {s Y : List UInt8} (hs : s ≠ []) (hY : Y[0]? = some 47) : tokF (s ++ Y) = tokF s := by
  unfold tokF
  rw [takeWhile_end (fun c hc => by rw [hY] at hc; cases hc; decide), signF_end hs hY]
theorem isCom_end {s Y : List UInt8} (hs : s ≠ []) (hl : s.getLast? ≠ some 47) : isCom (s ++ Y) = isCom s := by
  match s, hs with
  | [b], _ =>
    have : (47 == b) = false := by
      rcases h : (47 == b) with _ | _
      · rfl
      · rw [eq_of_beq h.symm.symm] at hl; simp at hl
    simp [isCom, List.isPrefixOf, this]
  | b :: b' :: s, _ => simp [isCom, List.isPrefixOf]
theorem last_drop {s : List UInt8} (n : Nat) (hl : s.getLast? ≠ some 47) : (s.drop n).getLast? ≠ some 47 := by
  rw [List.getLast?_drop]
  split
  · simp
  · exact hl
/-- A text that ends well, and behind it a comment's line and another text. -/
theorem lexF_lines (note t : List UInt8) (hn : 10 ∉ note) : ∀ (n : Nat) (s : List UInt8) (l c : Nat) (ts : List TokP), s.length < n → s.getLast? ≠ some 47 → lexF s l c = .ok ts →
    ∃ us l' c', ts = us ++ [⟨3, [], 0, l', c'⟩] ∧ l' = l + s.count 10 ∧ lexF (s ++ 47 :: 47 :: (note ++ 10 :: t)) l c = (lexF t (l' + 1) 1).pre us := by
  intro n
  induction n with
  | zero => intro s l c ts h; omega
  | succ n ih =>
    intro s l c ts hlen hl h
    have hcom : ∀ (x : List UInt8) (l c : Nat), 10 ∉ x → lexF (47 :: 47 :: (x ++ 10 :: t)) l c = lexF t (l + 1) 1 := fun x l c hx => by
      have hx2 : ∀ d ∈ 47 :: 47 :: x, notNl d = true := fun d hd => by
        rcases h : notNl d with _ | _
        · unfold notNl at h
          have : d = 10 := by simpa using h
          rw [this] at hd
          simp at hd
          exact absurd hd hx
        · rfl
      have h1 : (47 :: 47 :: (x ++ 10 :: t)).takeWhile notNl = 47 :: 47 :: x := takeWhile_app (l := 47 :: 47 :: x) (X := 10 :: t) hx2 (fun d hd => by cases hd; decide)
      have h2 : (47 :: 47 :: (x ++ 10 :: t)).dropWhile notNl = 10 :: t := by
        rw [dropWhile_eq, h1]
        exact List.drop_left (l₁ := 47 :: 47 :: x)
      rw [lexF_com (l, c) rfl, h1, h2, skip_line _ _ _ (fun e => by simp at e; exact hx e), lexF_eq]
      rfl
    rcases s with _ | ⟨b, x⟩
    · rw [lexF_nil] at h
      cases h
      refine ⟨[], l, c, rfl, rfl, ?_⟩
      rw [List.nil_append, hcom note l c hn]
      cases lexF t (l + 1) 1 <;> rfl
    have hlx : x.getLast? ≠ some 47 := last_drop (s := b :: x) 1 hl
    by_cases h10 : b = 10
    · subst h10
      rw [lexF_eq] at h
      obtain ⟨us, l', c', e1, e2, e3⟩ := ih x (l + 1) 1 ts (by simp at hlen; omega) hlx h
      refine ⟨us, l', c', e1, by rw [e2, List.count_cons]; simp; omega, ?_⟩
      rw [List.cons_append, lexF_eq]
      exact e3
    by_cases hbl : b = 32 ∨ b = 9 ∨ b = 13
    · have hst : ∀ y, stp (b :: y) l c = .go y l (c + 1) := fun y => by unfold stp; dsimp only; rw [if_neg h10, if_pos hbl]
      rw [lexF_eq, hst] at h
      obtain ⟨us, l', c', e1, e2, e3⟩ := ih x l (c + 1) ts (by simp at hlen; omega) hlx h
      refine ⟨us, l', c', e1, by rw [e2, List.count_cons]; simp [h10], ?_⟩
      rw [List.cons_append, lexF_eq, hst]
      exact e3
    have hnb : ∀ d, (b :: x)[0]? = some d → blank d = false := fun d hd => by
      cases hd
      rcases hh : blank b with _ | _
      · rfl
      · simp [blank, h10] at hh; rcases hh with hh | hh | hh <;> simp [hh] at hbl
    rcases hc : isCom (b :: x) with _ | _
    · rw [lexF_tok l c (by simp) hnb hc] at h
      rw [lexF_tok l c (by simp) (fun d hd => hnb d (by simpa using hd)) (by rw [isCom_end (by simp) hl]; exact hc), tokF_end (by simp) rfl]
      rcases ht : tokF (b :: x) with ⟨k, w, v⟩ | e
      · rw [ht] at h
        dsimp only at h ⊢
        obtain ⟨⟨X, hX⟩, hw, -, hw10⟩ := tokF_ok ht
        have hw0 : 0 < w.length := List.length_pos_iff.2 hw
        rw [hX, List.append_assoc, List.drop_left]
        rw [hX, List.drop_left] at h
        have hX2 : X = (b :: x).drop w.length := by rw [hX, List.drop_left]
        rcases hr : lexF X l (c + w.length) with ts' | _
        · rw [hr] at h
          have h' : [⟨k, w, v, l, c⟩] ++ ts' = ts := by injection h
          obtain ⟨us, l', c', e1, e2, e3⟩ := ih X l (c + w.length) ts' (by rw [hX, List.length_append] at hlen; omega) (by rw [hX2]; exact last_drop _ hl) hr
          refine ⟨[⟨k, w, v, l, c⟩] ++ us, l', c', by rw [← h', e1, List.append_assoc], by rw [e2, List.count_append, List.count_eq_zero.2 hw10, Nat.zero_add], ?_⟩
          rw [e3, LR.pre_pre]
        · rw [hr] at h; cases h
      · rw [ht] at h; cases h
    · obtain ⟨Z, hZ⟩ := isCom_eq hc
      obtain ⟨X, hX, hX0⟩ := takeWhile_split notNl (b :: x)
      have hd : (b :: x).dropWhile notNl = X := by
        rw [dropWhile_eq]
        conv => lhs; rw [hX, List.takeWhile_append_of_pos (takeWhile_all _ _)]
        have : X.takeWhile notNl = [] := by
          rcases X with _ | ⟨d, X⟩
          · rfl
          · rw [List.takeWhile_cons, if_neg (by rw [hX0 d rfl]; decide)]
        rw [this, List.append_nil, List.drop_left]
      rw [lexF_com (l, c) hc, hd, skip_line _ _ _ (takeWhile_nl _)] at h
      rcases X with _ | ⟨d, X⟩
      · rw [List.append_nil] at hX
        rw [lexF_nil] at h
        cases h
        have hb10 : 10 ∉ b :: x := by rw [hX]; exact takeWhile_nl _
        refine ⟨[], l, _, rfl, by rw [List.count_eq_zero.2 hb10]; rfl, ?_⟩
        have : b :: x ++ 47 :: 47 :: (note ++ 10 :: t) = 47 :: 47 :: ((Z ++ 47 :: 47 :: note) ++ 10 :: t) := by rw [hZ]; simp
        rw [this, hcom _ l c (by
          rw [hZ] at hb10
          intro e
          simp at e hb10
          rcases e with e | e
          · exact hb10 e
          · exact hn e)]
        cases lexF t (l + 1) 1 <;> rfl
      · have hd10 : d = 10 := by
          have := hX0 d rfl
          unfold notNl at this
          simpa using this
        subst hd10
        have htw := takeWhile_nl (b :: x)
        obtain ⟨us, l', c', e1, e2, e3⟩ := ih (10 :: X) l _ ts (by
          have := congrArg List.length hX
          rw [List.length_append] at this
          have h2 : 0 < ((b :: x).takeWhile notNl).length := by
            rw [hZ, List.takeWhile_cons, if_pos (by decide)]
            simp
          omega) (by rw [← hd, dropWhile_eq]; exact last_drop _ hl) h
        refine ⟨us, l', c', e1, by rw [e2]; conv => rhs; rw [hX, List.count_append, List.count_eq_zero.2 htw, Nat.zero_add], ?_⟩
        have hcY : isCom (b :: x ++ 47 :: 47 :: (note ++ 10 :: t)) = true := by rw [hZ]; rfl
        have hs2 : b :: x ++ 47 :: 47 :: (note ++ 10 :: t) = (b :: x).takeWhile notNl ++ (10 :: X ++ 47 :: 47 :: (note ++ 10 :: t)) := by
          rw [← List.append_assoc, ← hX]
        have ht2 : (b :: x ++ 47 :: 47 :: (note ++ 10 :: t)).takeWhile notNl = (b :: x).takeWhile notNl := by
          rw [hs2]
          exact takeWhile_app (takeWhile_all _ _) (fun d hd => by cases hd; decide)
        have hd2 : (b :: x ++ 47 :: 47 :: (note ++ 10 :: t)).dropWhile notNl = 10 :: X ++ 47 :: 47 :: (note ++ 10 :: t) := by
          rw [dropWhile_eq, ht2, hs2, List.drop_left]
        rw [lexF_com (l, c) hcY, ht2, hd2, skip_line _ _ _ htw]
        exact e3
/-! ### Tokens joined are tokens again -/
def TokP.key (t : TokP) : Nat × List UInt8 × Nat := (t.k, t.t, t.n)
def blankX (X : List UInt8) : Prop := X = [] ∨ X[0]? = some 32
theorem signs_self : ∀ t ∈ signsL, signF t = some t ∧ isCom t = false := by decide +kernel
theorem signs_self32 : ∀ t ∈ signsL, signF (t ++ [32]) = some t ∧ isCom (t ++ [32]) = false := by decide +kernel
theorem isPre_three {p a : List UInt8} (hp : p.length ≤ 2) (ha : 1 ≤ a.length) (X : List UInt8) : p.isPrefixOf (a ++ 32 :: X) = p.isPrefixOf (a ++ [32]) := by
  match p, a, hp, ha with
  | [], a, _, _ => simp [List.isPrefixOf]
  | [x], a :: y, _, _ => simp [List.isPrefixOf]
  | [x, x'], [a], _, _ => simp [List.isPrefixOf]
  | [x, x'], a :: a' :: y, _, _ => simp [List.isPrefixOf]
theorem signs_blank {t X : List UInt8} (h : t ∈ signsL) (hX : blankX X) : signF (t ++ X) = some t ∧ isCom (t ++ X) = false := by
  rcases hX with rfl | hX
  · rw [List.append_nil]; exact signs_self t h
  rcases X with _ | ⟨x, X⟩
  · cases hX
  cases hX
  have hl := signs_len t h
  constructor
  · rw [← (signs_self32 t h).1]
    exact find_congr fun p hp => isPre_three (signs_len p hp).2.1 hl.1 X
  · rw [← (signs_self32 t h).2]
    exact isPre_three (by decide) hl.1 X
/-- A token behind which a blank stands, or nothing. -/
theorem tokF_blank {r t X : List UInt8} {k n : Nat} (h : tokF r = .ok k t n) (hX : blankX X) : tokF (t ++ X) = .ok k t n ∧ isCom (t ++ X) = false ∧ ∀ b, (t ++ X)[0]? = some b → blank b = false := by
  have hX0 : ∀ c, X[0]? = some c → alnum c = false := fun c hc => by
    rcases hX with rfl | hX
    · cases hc
    · rw [hX] at hc; cases hc; decide
  unfold tokF at h
  split at h
  · rename_i hw
    split at h
    · cases h
    · rename_i s hs
      cases h
      obtain ⟨hm, -⟩ := signF_mem hs
      obtain ⟨h1, h2⟩ := signs_blank hm hX
      have hl := signs_len t hm
      rcases t with _ | ⟨a, t⟩
      · exact absurd hl.1 (by decide)
      refine ⟨?_, h2, ?_⟩
      · unfold tokF
        rw [List.cons_append, List.takeWhile_cons, if_neg (by rw [hl.2.2.1 a (by simp)]; decide), ← List.cons_append, h1]
      · intro b hb
        cases hb
        have : ∀ u ∈ signsL, ∀ b, u[0]? = some b → blank b = false := by decide +kernel
        exact this _ hm a rfl
  · rename_i b w hw
    have hall := takeWhile_all alnum r
    rw [hw] at hall
    have htw : (b :: w ++ X).takeWhile alnum = b :: w := takeWhile_app hall hX0
    have hb : alnum b = true := hall b (by simp)
    have fin : (b :: w) = t → tokF (t ++ X) = .ok k t n ∧ isCom (t ++ X) = false ∧ ∀ b, (t ++ X)[0]? = some b → blank b = false := by
      intro ht
      refine ⟨?_, ?_, ?_⟩
      · rw [← ht]
        unfold tokF
        rw [htw]
        dsimp only
        rw [h, ht]
      · rw [← ht]
        rcases hc : isCom (b :: w ++ X) with _ | _
        · rfl
        · obtain ⟨Z, hZ⟩ := isCom_eq hc
          have : b = 47 := by injection hZ
          rw [this] at hb
          exact absurd hb (by decide)
      · intro d hd
        rw [← ht] at hd
        cases hd
        rcases hh : blank b with _ | _
        · rfl
        · simp [blank] at hh
          rcases hh with e | e | e | e <;> (rw [e] at hb; exact absurd hb (by decide))
    split at h
    · exact fin (numF_ok h).2.symm
    · split at h
      · exact fin (by cases h; rfl)
      · cases h
def tailJ (us : List TokP) : List UInt8 := us.flatMap fun u => 32 :: u.t
/-- The text of tokens: a blank between each two. -/
def joinF (us : List TokP) : List UInt8 := (tailJ us).drop 1
def GoodTok (u : TokP) : Prop := u.k < 3 ∧ u.t ≠ [] ∧ ∃ r, tokF r = .ok u.k u.t u.n
theorem lexN_good : ∀ (n : Nat) (r : List UInt8) (l c : Nat) (ts : List TokP), r.length < n → lexN n r l c = .ok ts → ∃ us l' c', ts = us ++ [⟨3, [], 0, l', c'⟩] ∧ ∀ u ∈ us, GoodTok u := by
  intro n
  induction n with
  | zero => intro r l c ts h; omega
  | succ n ih =>
    intro r l c ts hlen h
    rw [lexN] at h
    rcases hs : stp r l c with _ | ⟨r', l', c'⟩ | ⟨k, t, v⟩ | e <;> rw [hs] at h <;> dsimp only at h
    · cases h; exact ⟨[], l, c, rfl, fun u h => by cases h⟩
    · exact ih r' l' c' ts (by have := stp_go hs; omega) h
    · have ht := stp_tok hs
      obtain ⟨⟨X, rfl⟩, h2, h3, -⟩ := tokF_ok ht
      have h4 : 0 < t.length := List.length_pos_iff.2 h2
      rw [List.drop_left] at h
      rcases hr : lexN n X l (c + t.length) with ts' | _
      · rw [hr] at h
        have h' : [⟨k, t, v, l, c⟩] ++ ts' = ts := by injection h
        obtain ⟨us, l', c', e1, e2⟩ := ih X l (c + t.length) ts' (by rw [List.length_append] at hlen; omega) hr
        refine ⟨⟨k, t, v, l, c⟩ :: us, l', c', by rw [← h', e1]; rfl, fun u hu => ?_⟩
        rcases List.mem_cons.1 hu with rfl | hu
        · exact ⟨h3, h2, _, ht⟩
        · exact e2 u hu
      · rw [hr] at h; cases h
    · cases h
theorem lexF_good {r : List UInt8} {l c : Nat} {ts : List TokP} (h : lexF r l c = .ok ts) : ∃ us l' c', ts = us ++ [⟨3, [], 0, l', c'⟩] ∧ ∀ u ∈ us, GoodTok u :=
  lexN_good _ r l c ts (by omega) h
theorem tailJ_blank : ∀ us : List TokP, blankX (tailJ us)
  | [] => .inl rfl
  | u :: us => .inr rfl
theorem lexF_tail : ∀ (us : List TokP) (l c : Nat), (∀ u ∈ us, GoodTok u) → ∃ ts l' c', lexF (tailJ us) l c = .ok (ts ++ [⟨3, [], 0, l', c'⟩]) ∧ ts.map TokP.key = us.map TokP.key
  | [], l, c, _ => ⟨[], l, c, lexF_nil l c, rfl⟩
  | u :: us, l, c, h => by
    obtain ⟨h1, h2, r, h3⟩ := h u (by simp)
    obtain ⟨e1, e2, e3⟩ := tokF_blank h3 (tailJ_blank us)
    have hs : stp (32 :: (u.t ++ tailJ us)) l c = .go (u.t ++ tailJ us) l (c + 1) := rfl
    have ht : tailJ (u :: us) = 32 :: (u.t ++ tailJ us) := rfl
    obtain ⟨ts, l', c', e4, e5⟩ := lexF_tail us l (c + 1 + u.t.length) (fun v hv => h v (by simp [hv]))
    refine ⟨⟨u.k, u.t, u.n, l, c + 1⟩ :: ts, l', c', ?_, by rw [List.map_cons, List.map_cons, e5]; rfl⟩
    rw [ht, lexF_eq, hs]
    dsimp only
    rw [lexF_tok l (c + 1) (by simp [h2]) e3 e2, e1]
    dsimp only
    rw [List.drop_left, e4]
    rfl
/-- The tokens of what is joined are these again. -/
theorem lexF_join (us : List TokP) (h : ∀ u ∈ us, GoodTok u) : ∃ ts l' c', lexF (joinF us) 1 1 = .ok (ts ++ [⟨3, [], 0, l', c'⟩]) ∧ ts.map TokP.key = us.map TokP.key := by
  rcases us with _ | ⟨u, us⟩
  · exact ⟨[], 1, 1, lexF_nil 1 1, rfl⟩
  obtain ⟨h1, h2, r, h3⟩ := h u (by simp)
  obtain ⟨e1, e2, e3⟩ := tokF_blank h3 (tailJ_blank us)
  obtain ⟨ts, l', c', e4, e5⟩ := lexF_tail us 1 (1 + u.t.length) (fun v hv => h v (by simp [hv]))
  refine ⟨⟨u.k, u.t, u.n, 1, 1⟩ :: ts, l', c', ?_, by rw [List.map_cons, List.map_cons, e5]; rfl⟩
  have ht : joinF (u :: us) = u.t ++ tailJ us := rfl
  rw [ht, lexF_tok 1 1 (by simp [h2]) e3 e2, e1]
  dsimp only
  rw [List.drop_left, e4]
  rfl
/-! ### The limits -/
def bigW (d : UInt8) (k : Nat) : List UInt8 := 32 :: List.replicate k d
def repN (d : Nat) : Nat → Nat
  | 0 => 0
  | k + 1 => 10 * repN d k + d
def okWord (k : Nat) : Bool := match lexF (bigW 120 k) 1 1 with
  | .ok [t, _] => decide (k ≤ 32) && (t.k == 0 && (t.t == List.replicate k 120 && (t.n == 0 && (t.l == 1 && t.c == 2))))
  | .err l c e => decide (32 < k) && (e == 7 && (l == 1 && c == 2))
  | _ => false
theorem words_ok : ∀ k : Fin 40, okWord (k.val + 1) = true := by decide +kernel
def okNum (d k : Nat) : Bool := match lexF (bigW (UInt8.ofNat (49 + d)) k) 1 1 with
  | .ok [t, _] => decide (k ≤ 20) && (t.n == repN (1 + d) k && decide (repN (1 + d) k < 18446744073709551616))
  | .err l c e => decide (20 ≤ k) && (e == 5 && (l == 1 && c == 2))
  | _ => false
theorem nums_ok : ∀ (d : Fin 9) (k : Fin 40), okNum d.val (k.val + 1) = true := by decide +kernel
end Go.Proofs.YtkbhmcdoedmffaaDoor

namespace Go.Proofs.YtkbhmcdoedmffaaDoor
set_option linter.unusedVariables false
set_option linter.unusedSimpArgs false
set_option maxRecDepth 100000

/-! ### What a file is made of -/
structure EX where
  k : Nat
  op : List UInt8
  n : Nat
  nm : List UInt8
  kids : List Int
structure CA where
  n : Nat
  t : Int
structure TY where
  k : Nat
  size : Nat
  little : Bool
  nm : List UInt8
  args : List Int
  ex : Int
  inn : Int
  cases : List CA
structure SB where
  nm : List UInt8
  bits : Nat
structure IT where
  nm : List UInt8
  ty : Int
  der : Nat
  a : List UInt8
  b : List UInt8
  wh : Int
  size : Nat
  little : Bool
  subs : List SB
structure RC where
  nm : List UInt8
  ps : List (List UInt8)
  its : List IT
structure CO where
  nm : List UInt8
  n : Nat
/-- The place, and the expressions and types so far. -/
structure PS where
  i : Nat
  xs : List EX
  ts : List TY
inductive PR (α : Type) where
  | ok (v : α) (s : PS)
  | err (i e : Nat)
def PM (α : Type) : Type := PS → PR α
def PM.and {α β : Type} (x : PM α) (f : α → PM β) : PM β := fun s => match x s with
  | .ok v s' => f v s'
  | .err i e => .err i e
def PM.ret {α : Type} (v : α) : PM α := fun s => .ok v s
instance : Monad PM where
  pure := PM.ret
  bind := PM.and
theorem and_ok {α β : Type} {x : PM α} {f : α → PM β} {s s' : PS} {v : α} (h : x s = .ok v s') : (x >>= f) s = f v s' := by show PM.and x f s = _; unfold PM.and; rw [h]
theorem and_err {α β : Type} {x : PM α} {f : α → PM β} {s : PS} {i e : Nat} (h : x s = .err i e) : (x >>= f) s = .err i e := by show PM.and x f s = _; unfold PM.and; rw [h]

/-! ### Words -/
abbrev bu (s : String) : List UInt8 := s.toUTF8.toList
def intsL : List (List UInt8 × Nat × Bool) := [([117, 56], 1, false), ([117, 49, 54, 98, 101], 2, false), ([117, 49, 54, 108, 101], 2, true), ([117, 50, 52, 98, 101], 3, false), ([117, 50, 52, 108, 101], 3, true), ([117, 51, 50, 98, 101], 4, false), ([117, 51, 50, 108, 101], 4, true), ([117, 54, 52, 98, 101], 8, false), ([117, 54, 52, 108, 101], 8, true)]
def integerV (w : List UInt8) : Option (Nat × Bool) := (intsL.find? fun p => p.1 == w).map (·.2)
def keysL : List (List UInt8) := [[99, 111, 110, 115, 116], [115, 116, 114, 117, 99, 116], [112, 97, 99, 107], [119, 104, 101, 114, 101], [115, 105, 122, 101, 111, 102], [99, 111, 117, 110, 116, 111, 102], [99, 114, 99, 51, 50], [97, 100, 108, 101, 114, 51, 50], [98, 121, 116, 101, 115], [122, 101, 114, 111], [115, 107, 105, 112], [119, 105, 110, 100, 111, 119], [97, 116], [114, 101, 115, 116], [116, 97, 105, 108], [110, 111, 110, 101], [115, 119, 105, 116, 99, 104], [99, 97, 115, 101], [101, 108, 115, 101]]
def keyV (w : List UInt8) : Bool := keysL.contains w || (integerV w).isSome
def levelsL : List (List UInt8 × Nat) := [([124, 124], 1), ([38, 38], 2), ([61, 61], 3), ([33, 61], 3), ([60], 3), ([60, 61], 3), ([62], 3), ([62, 61], 3), ([124], 4), ([38], 5), ([60, 60], 6), ([62, 62], 6), ([43], 7), ([45], 7), ([42], 8), ([47], 8), ([37], 8)]
def levelV (w : List UInt8) : Nat := ((levelsL.find? fun p => p.1 == w).map (·.2)).getD 0
def typesL : List (List UInt8) := [[98, 121, 116, 101, 115], [122, 101, 114, 111], [115, 107, 105, 112], [119, 105, 110, 100, 111, 119], [97, 116], [114, 101, 115, 116], [116, 97, 105, 108], [110, 111, 110, 101], [115, 119, 105, 116, 99, 104]]
abbrev w_const : List UInt8 := [99, 111, 110, 115, 116]
abbrev w_struct : List UInt8 := [115, 116, 114, 117, 99, 116]
abbrev w_pack : List UInt8 := [112, 97, 99, 107]
abbrev w_where : List UInt8 := [119, 104, 101, 114, 101]
abbrev w_sizeof : List UInt8 := [115, 105, 122, 101, 111, 102]
abbrev w_countof : List UInt8 := [99, 111, 117, 110, 116, 111, 102]
abbrev w_crc32 : List UInt8 := [99, 114, 99, 51, 50]
abbrev w_adler32 : List UInt8 := [97, 100, 108, 101, 114, 51, 50]
abbrev w_bytes : List UInt8 := [98, 121, 116, 101, 115]
abbrev w_zero : List UInt8 := [122, 101, 114, 111]
abbrev w_skip : List UInt8 := [115, 107, 105, 112]
abbrev w_window : List UInt8 := [119, 105, 110, 100, 111, 119]
abbrev w_at : List UInt8 := [97, 116]
abbrev w_rest : List UInt8 := [114, 101, 115, 116]
abbrev w_tail : List UInt8 := [116, 97, 105, 108]
abbrev w_none : List UInt8 := [110, 111, 110, 101]
abbrev w_switch : List UInt8 := [115, 119, 105, 116, 99, 104]
abbrev w_case : List UInt8 := [99, 97, 115, 101]
abbrev w_else : List UInt8 := [101, 108, 115, 101]
abbrev t_bang : List UInt8 := [33]
abbrev t_lpar : List UInt8 := [40]
abbrev t_rpar : List UInt8 := [41]
abbrev t_lsq : List UInt8 := [91]
abbrev t_rsq : List UInt8 := [93]
abbrev t_lcur : List UInt8 := [123]
abbrev t_rcur : List UInt8 := [125]
abbrev t_colon : List UInt8 := [58]
abbrev t_semi : List UInt8 := [59]
abbrev t_comma : List UInt8 := [44]
abbrev t_eq : List UInt8 := [61]
abbrev t_dots : List UInt8 := [46, 46]

/-! ### Tokens -/
section
variable (L : List TokP)
def tk (i : Nat) : TokP := L.getD i ⟨3, [], 0, 0, 0⟩
def isV (i : Nat) (t : List UInt8) : Bool := !decide ((tk L i).k = 3) && decide ((tk L i).t = t)
def namedV (i : Nat) : Bool := decide ((tk L i).k = 0) && !keyV (tk L i).t
def beginsV (i : Nat) : Bool := isV L i t_bang || (isV L i t_lpar || (namedV L i || decide ((tk L i).k = 1)))
def startsV (i : Nat) : Bool := namedV L i || (decide ((tk L i).k = 0) && (typesL.contains (tk L i).t || (integerV (tk L i).t).isSome))
def stepM : PM Unit := fun s => .ok () { s with i := s.i + 1 }
def failM {α : Type} (e : Nat) : PM α := fun s => .err s.i e
def takeM (t : List UInt8) : PM Unit := fun s => if isV L s.i t = true then stepM s else failM 4 s
def nameM : PM (List UInt8) := fun s => if namedV L s.i = true then .ok (tk L s.i).t { s with i := s.i + 1 } else failM 4 s
def numberM : PM Nat := fun s => if (tk L s.i).k = 1 then .ok (tk L s.i).n { s with i := s.i + 1 } else failM 4 s
def roomM (n : Nat) : PM Unit := fun s => if 64 ≤ n then failM 10 s else .ok () s
def enterM (m : Nat) (may : Bool) : PM Unit := fun s => if may = false then failM 4 s else if m = 0 then failM 8 s else .ok () s
def putM (x : EX) : PM Int := fun s => .ok s.xs.length { s with xs := s.xs ++ [x] }
def layM (t : TY) : PM Int := fun s => .ok s.ts.length { s with ts := s.ts ++ [t] }
/-- Behind a test of the place. -/
def atM {α : Type} (p : Nat → Bool) (x y : PM α) : PM α := fun s => if p s.i = true then x s else y s
/-! ### Expressions: m steps more may be gone down -/
def unF (m : Nat) (un ex : PM Int) : PM Int :=
  atM (isV L · t_bang) (stepM >>= fun _ => (fun s => enterM m (beginsV L s.i) s) >>= fun _ => un >>= fun k => putM ⟨2, [], 0, [], [k]⟩)
  (atM (isV L · t_lpar) (stepM >>= fun _ => (fun s => enterM m (beginsV L s.i) s) >>= fun _ => ex >>= fun k => takeM L t_rpar >>= fun _ => pure k)
  (atM (namedV L ·) (nameM L >>= fun w => putM ⟨1, [], 0, w, []⟩) (numberM L >>= fun n => putM ⟨0, [], n, [], []⟩)))
def opAt (lv i : Nat) : Bool := decide ((tk L i).k = 2) && decide (levelV (tk L i).t = lv)
def lineN (lv : Nat) (x : PM Int) : Nat → Int → PM Int
  | 0, left => pure left
  | n + 1, left => fun s => if opAt L lv s.i = true then
      (stepM >>= fun _ => x >>= fun right => putM ⟨3, (tk L s.i).t, 0, [], [left, right]⟩ >>= fun k => lineN lv x n k) s
    else .ok left s
/-- Operands with operators of level 9 - j and of those that bind more. -/
def lineJ (un : PM Int) : Nat → PM Int
  | 0 => un
  | j + 1 => lineJ un j >>= fun left => fun s => lineN L (8 - j) (lineJ un j) (L.length - s.i + 1) left s
def unM : Nat → PM Int
  | 0 => unF L 0 (failM 8) (failM 8)
  | m + 1 => unF L (m + 1) (unM m) (lineJ L (unM m) 8)
def exprM (m : Nat) : PM Int := lineJ L (unM L m) 8
def bracketM (m : Nat) : PM Int := takeM L t_lsq >>= fun _ => exprM L m >>= fun k => takeM L t_rsq >>= fun _ => pure k
/-! ### Types -/
def tyP (k : Nat) : TY := ⟨k, 0, false, [], [], -1, -1, []⟩
def arrayM (m : Nat) (t : TY) : PM Int := layM t >>= fun k => atM (isV L · t_lsq) (bracketM L m >>= fun x => layM { tyP 5 with ex := x, inn := k }) (pure k)
def argsN (m : Nat) : Nat → List Int → PM (List Int)
  | 0, l => pure l
  | n + 1, l => atM (isV L · t_comma) (stepM >>= fun _ => (fun s => if beginsV L s.i = true then roomM l.length s else .ok () s) >>= fun _ => exprM L m >>= fun x => argsN m n (l ++ [x])) (pure l)
def refM (m : Nat) : PM TY := nameM L >>= fun w => atM (isV L · t_lpar)
  (stepM >>= fun _ => exprM L m >>= fun x => (fun s => argsN L m (L.length - s.i + 1) [x] s) >>= fun l => takeM L t_rpar >>= fun _ => pure { tyP 10 with nm := w, args := l })
  (pure { tyP 10 with nm := w })
/-- A type within another one. -/
def innerM (m : Nat) (kd : PM Int) : PM Int := (fun s => enterM m (startsV L s.i) s) >>= fun _ => kd
def casesN (m : Nat) (kd : PM Int) : Nat → List CA → PM (List CA)
  | 0, l => pure l
  | n + 1, l => atM (isV L · w_case) (roomM l.length >>= fun _ => stepM >>= fun _ => numberM L >>= fun c => takeM L t_colon >>= fun _ => innerM L m kd >>= fun k => takeM L t_semi >>= fun _ => casesN m kd n (l ++ [⟨c, k⟩])) (pure l)
def choiceM (m : Nat) (kd : PM Int) : PM Int :=
  takeM L t_lpar >>= fun _ => exprM L m >>= fun x => takeM L t_rpar >>= fun _ => takeM L t_lcur >>= fun _ =>
  (fun s => casesN L m kd (L.length - s.i + 1) [] s) >>= fun cs =>
  atM (isV L · w_else) (stepM >>= fun _ => takeM L t_colon >>= fun _ => innerM L m kd >>= fun k => takeM L t_semi >>= fun _ => pure k) (pure (-1)) >>= fun k =>
  takeM L t_rcur >>= fun _ => layM { tyP 9 with ex := x, inn := k, cases := cs }
def sizedV (w : List UInt8) : Option Nat := if w = w_bytes then some 1 else if w = w_zero then some 2 else if w = w_skip then some 3 else if w = w_window then some 7 else if w = w_at then some 8 else none
def wordM (m : Nat) (kd : PM Int) (w : List UInt8) : PM Int :=
  match sizedV w with
  | some k => bracketM L m >>= fun x => (if k = 7 ∨ k = 8 then innerM L m kd else pure (-1)) >>= fun i => layM { tyP k with ex := x, inn := i }
  | none =>
    if w = w_rest then innerM L m kd >>= fun i => layM { tyP 6 with inn := i } else
    if w = w_tail then layM (tyP 4) else
    if w = w_none then layM (tyP 11) else
    if w = w_switch then choiceM L m kd else
    arrayM L m { tyP 0 with size := ((integerV w).getD (0, false)).1, little := ((integerV w).getD (0, false)).2 }
def kindF (m : Nat) (kd : PM Int) : PM Int :=
  atM (namedV L ·) (refM L m >>= fun t => arrayM L m t) (atM (startsV L ·) (fun s => (stepM >>= fun _ => wordM L m kd (tk L s.i).t) s) (failM 4))
def kindM : Nat → PM Int
  | 0 => kindF L 0 (failM 8)
  | m + 1 => kindF L (m + 1) (kindM m)
/-! ### Items -/
def derOf (w : List UInt8) : Nat := if w = w_sizeof then 1 else if w = w_countof then 2 else if w = w_crc32 then 3 else if w = w_adler32 then 4 else 0
/-- How a field is derived: of what. -/
def derivedM : PM (Nat × List UInt8 × List UInt8) :=
  atM (fun i => !decide ((tk L i).k = 3) && !decide (derOf (tk L i).t = 0))
    (fun s => (stepM >>= fun _ => takeM L t_lpar >>= fun _ => nameM L >>= fun a =>
      (if 3 ≤ derOf (tk L s.i).t then takeM L t_dots >>= fun _ => nameM L else pure []) >>= fun b => takeM L t_rpar >>= fun _ => pure (derOf (tk L s.i).t, a, b)) s)
    (failM 4)
def fieldM : PM IT :=
  nameM L >>= fun w => takeM L t_colon >>= fun _ => kindM L 32 >>= fun t =>
  atM (isV L · t_eq) (stepM >>= fun _ => derivedM L) (pure (0, [], [])) >>= fun d =>
  atM (isV L · w_where) (stepM >>= fun _ => exprM L 32) (pure (-1)) >>= fun x =>
  takeM L t_semi >>= fun _ => pure ⟨w, t, d.1, d.2.1, d.2.2, x, 0, false, []⟩
def subsN : Nat → List SB → PM (List SB)
  | 0, l => pure l
  | n + 1, l => (fun s => if namedV L s.i = true then roomM l.length s else .ok () s) >>= fun _ => nameM L >>= fun w => takeM L t_colon >>= fun _ => numberM L >>= fun b => takeM L t_semi >>= fun _ =>
      atM (namedV L ·) (subsN n (l ++ [⟨w, min b 1048576⟩])) (pure (l ++ [⟨w, min b 1048576⟩]))
def packM : PM IT :=
  takeM L w_pack >>= fun _ => fun s => match (if (tk L s.i).k = 0 then integerV (tk L s.i).t else none) with
    | none => failM 4 s
    | some (z, lt) => (stepM >>= fun _ => takeM L t_lcur >>= fun _ => (fun s => subsN L (L.length - s.i + 1) [] s) >>= fun l => takeM L t_rcur >>= fun _ => pure (⟨[], -1, 0, [], [], -1, z, lt, l⟩ : IT)) s
def parsN : Nat → List (List UInt8) → PM (List (List UInt8))
  | 0, l => pure l
  | n + 1, l => atM (isV L · t_comma) (stepM >>= fun _ => (fun s => if namedV L s.i = true then roomM l.length s else .ok () s) >>= fun _ => nameM L >>= fun x => parsN n (l ++ [x])) (pure l)
def itemsN : Nat → List IT → PM (List IT)
  | 0, l => pure l
  | n + 1, l => atM (fun i => isV L i w_pack || namedV L i) (roomM l.length >>= fun _ => atM (isV L · w_pack) (packM L) (fieldM L) >>= fun x => itemsN n (l ++ [x])) (pure l)
def recordM : PM RC :=
  takeM L w_struct >>= fun _ => nameM L >>= fun w =>
  atM (isV L · t_lpar) (stepM >>= fun _ => nameM L >>= fun x => (fun s => parsN L (L.length - s.i + 1) [x] s) >>= fun l => takeM L t_rpar >>= fun _ => pure l) (pure []) >>= fun ps =>
  takeM L t_lcur >>= fun _ => (fun s => itemsN L (L.length - s.i + 1) [] s) >>= fun is => takeM L t_rcur >>= fun _ => pure ⟨w, ps, is⟩
def constM : PM CO := takeM L w_const >>= fun _ => nameM L >>= fun w => takeM L t_eq >>= fun _ => numberM L >>= fun n => takeM L t_semi >>= fun _ => pure ⟨w, n⟩
def wholeN : Nat → List CO → List RC → PM (List CO × List RC)
  | 0, cs, rs => pure (cs, rs)
  | n + 1, cs, rs => atM (isV L · w_const) (roomM cs.length >>= fun _ => constM L >>= fun c => wholeN n (cs ++ [c]) rs)
    (atM (isV L · w_struct) (roomM rs.length >>= fun _ => recordM L >>= fun r => wholeN n cs (rs ++ [r]))
    (atM (fun i => decide ((tk L i).k = 3)) (pure (cs, rs)) (failM 4)))
end
/-- A file, or the place at which it fails, and why. -/
inductive FR where
  | ok (cs : List CO) (rs : List RC) (xs : List EX) (ts : List TY)
  | err (l c e : Nat)
def fileV : LR → FR
  | .err l c e => .err l c e
  | .ok L => match wholeN L (L.length + 1) [] [] ⟨0, [], []⟩ with
    | .ok (cs, rs) s => .ok cs rs s.xs s.ts
    | .err i e => .err (tk L i).l (tk L i).c e
end Go.Proofs.YtkbhmcdoedmffaaDoor

namespace Go.Proofs.YtkbhmcdoedmffaaDoor
set_option linter.unusedVariables false
set_option linter.unusedSimpArgs false
set_option maxRecDepth 100000

/-- The last token is the end. -/
def TokOk (L : List TokP) : Prop := 0 < L.length ∧ ∀ i, i + 1 = L.length → (tk L i).k = 3
/-- Within the tokens, and so many more tokens read than expressions, and than types. -/
structure SOk (L : List TokP) (c : Nat) (s : PS) : Prop where
  i : s.i < L.length
  x : s.xs.length + c ≤ s.i
  t : s.ts.length + c ≤ s.i
def Up (L : List TokP) {α : Type} (x : PM α) (a b : Nat) : Prop := ∀ s c, SOk L (c + a) s → match x s with
  | .ok _ s' => SOk L (c + b) s' ∧ s.i ≤ s'.i
  | .err i e => s.i ≤ i ∧ i < L.length ∧ 0 < e ∧ e ≤ 10
section
variable {L : List TokP}
theorem SOk.less {c d : Nat} {s : PS} (h : SOk L c s) (hd : d ≤ c) : SOk L d s := ⟨h.i, by have := h.x; omega, by have := h.t; omega⟩
theorem Up.and {α β : Type} {x : PM α} {f : α → PM β} {a b c : Nat} (hx : Up L x a b) (hf : ∀ v, Up L (f v) b c) : Up L (x >>= f) a c := fun s d h => by
  have h1 := hx s d h
  show match PM.and x f s with
    | .ok _ s' => SOk L (d + c) s' ∧ s.i ≤ s'.i
    | .err i e => s.i ≤ i ∧ i < L.length ∧ 0 < e ∧ e ≤ 10
  unfold PM.and
  revert h1
  cases x s with
  | err i e => exact id
  | ok v s1 =>
    rintro ⟨h1, h2⟩
    have h3 := hf v s1 d h1
    revert h3
    dsimp only
    cases f v s1 with
    | err i e => rintro ⟨h3, h4⟩; exact ⟨by omega, h4⟩
    | ok w s2 => rintro ⟨h3, h4⟩; exact ⟨h3, by omega⟩
theorem Up.pure {α : Type} (v : α) (a : Nat) : Up L (pure v) a a := fun _ _ h => ⟨h, Nat.le_refl _⟩
theorem Up.less {α : Type} {x : PM α} {a b : Nat} (h : Up L x a b) {a' b' : Nat} (n : Nat) (ha : a + n ≤ a') (hb : b' ≤ b + n) : Up L x a' b' := fun s c hs => by
  have h1 := h s (c + n) (hs.less (by omega))
  revert h1
  cases x s with
  | err i e => exact id
  | ok v s1 => rintro ⟨h1, h2⟩; exact ⟨h1.less (by omega), h2⟩
theorem Up.fail {α : Type} {e : Nat} (h0 : 0 < e) (h1 : e ≤ 10) (a b : Nat) : Up L (failM e : PM α) a b := fun _ _ h => ⟨Nat.le_refl _, h.i, h0, h1⟩
/-- A part that looks at the place first. -/
theorem Up.look {α : Type} {f : PS → PM α} {a b : Nat} (h : ∀ s, Up L (f s) a b) : Up L (fun s => f s s) a b := fun s c hs => h s s c hs
theorem Up.at {α : Type} {p : Nat → Bool} {x y : PM α} {a b : Nat} (hx : Up L x a b) (hy : Up L y a b) : Up L (atM p x y) a b := fun s c hs => by
  unfold atM
  by_cases h : p s.i = true
  · rw [if_pos h]; exact hx s c hs
  · rw [if_neg h]; exact hy s c hs
theorem stepP_ok (hL : TokOk L) {s : PS} {c : Nat} (h : SOk L c s) (hk : (tk L s.i).k ≠ 3) : SOk L (c + 1) { s with i := s.i + 1 } := by
  have h1 := h.x
  have h2 := h.t
  have h3 := h.i
  have h4 := hL.2 s.i
  exact ⟨by show s.i + 1 < _; by_cases he : s.i + 1 = L.length; exact absurd (h4 he) hk; omega, by show s.xs.length + (c + 1) ≤ s.i + 1; omega, by show s.ts.length + (c + 1) ≤ s.i + 1; omega⟩
theorem Up.step {α : Type} (hL : TokOk L) {p : Nat → Bool} {f : Unit → PM α} {y : PM α} {a b : Nat} (hp : ∀ i, p i = true → (tk L i).k ≠ 3) (hx : Up L (f ()) (a + 1) b) (hy : Up L y a b) : Up L (atM p (stepM >>= f) y) a b := fun s c hs => by
  unfold atM
  by_cases h : p s.i = true
  · rw [if_pos h]
    have := hx { s with i := s.i + 1 } c (stepP_ok hL hs (hp _ h))
    show match f () { s with i := s.i + 1 } with
      | .ok _ s' => SOk L (c + b) s' ∧ s.i ≤ s'.i
      | .err i e => s.i ≤ i ∧ i < L.length ∧ 0 < e ∧ e ≤ 10
    revert this
    cases f () { s with i := s.i + 1 } with
    | err i e => rintro ⟨h3, h4⟩; exact ⟨Nat.le_of_succ_le h3, h4⟩
    | ok w s2 => rintro ⟨h3, h4⟩; exact ⟨h3, Nat.le_of_succ_le h4⟩
  · rw [if_neg h]; exact hy s c hs
theorem isV_k {i : Nat} {t : List UInt8} (h : isV L i t = true) : (tk L i).k ≠ 3 := by
  unfold isV at h
  rw [Bool.and_eq_true] at h
  simpa using h.1
theorem namedV_k {i : Nat} (h : namedV L i = true) : (tk L i).k ≠ 3 := by
  unfold namedV at h
  rw [Bool.and_eq_true] at h
  have := of_decide_eq_true h.1
  omega
theorem startsV_k {i : Nat} (h : startsV L i = true) : (tk L i).k ≠ 3 := by
  unfold startsV at h
  rw [Bool.or_eq_true] at h
  rcases h with h | h
  · exact namedV_k h
  · rw [Bool.and_eq_true] at h
    have := of_decide_eq_true h.1
    omega
theorem Up.take (hL : TokOk L) (t : List UInt8) (a : Nat) : Up L (takeM L t) a (a + 1) := fun s c hs => by
  unfold takeM
  by_cases h : isV L s.i t = true
  · rw [if_pos h]; exact ⟨stepP_ok hL hs (isV_k h), Nat.le_succ _⟩
  · rw [if_neg h]; exact ⟨Nat.le_refl _, hs.i, by decide, by decide⟩
theorem Up.name (hL : TokOk L) (a : Nat) : Up L (nameM L) a (a + 1) := fun s c hs => by
  unfold nameM
  by_cases h : namedV L s.i = true
  · rw [if_pos h]; exact ⟨stepP_ok hL hs (namedV_k h), Nat.le_succ _⟩
  · rw [if_neg h]; exact ⟨Nat.le_refl _, hs.i, by decide, by decide⟩
theorem Up.number (hL : TokOk L) (a : Nat) : Up L (numberM L) a (a + 1) := fun s c hs => by
  unfold numberM
  by_cases h : (tk L s.i).k = 1
  · rw [if_pos h]; exact ⟨stepP_ok hL hs (by omega), Nat.le_succ _⟩
  · rw [if_neg h]; exact ⟨Nat.le_refl _, hs.i, by decide, by decide⟩
theorem Up.room (n a : Nat) : Up L (roomM n) a a := fun s c hs => by
  unfold roomM
  by_cases h : 64 ≤ n
  · rw [if_pos h]; exact ⟨Nat.le_refl _, hs.i, by decide, by decide⟩
  · rw [if_neg h]; exact ⟨hs, Nat.le_refl _⟩
theorem Up.enter (m : Nat) (b : Bool) (a : Nat) : Up L (enterM m b) a a := fun s c hs => by
  unfold enterM
  by_cases h : b = false
  · rw [if_pos h]; exact ⟨Nat.le_refl _, hs.i, by decide, by decide⟩
  · rw [if_neg h]
    by_cases h2 : m = 0
    · rw [if_pos h2]; exact ⟨Nat.le_refl _, hs.i, by decide, by decide⟩
    · rw [if_neg h2]; exact ⟨hs, Nat.le_refl _⟩
theorem Up.put (x : EX) (a : Nat) : Up L (putM x) (a + 1) a := fun s c hs =>
  ⟨⟨hs.i, by have := hs.x; show (s.xs ++ [x]).length + _ ≤ s.i; rw [List.length_append, List.length_singleton]; omega, by have := hs.t; show s.ts.length + _ ≤ s.i; omega⟩, Nat.le_refl _⟩
theorem Up.lay (x : TY) (a : Nat) : Up L (layM x) (a + 1) a := fun s c hs =>
  ⟨⟨hs.i, by have := hs.x; show s.xs.length + _ ≤ s.i; omega, by have := hs.t; show (s.ts ++ [x]).length + _ ≤ s.i; rw [List.length_append, List.length_singleton]; omega⟩, Nat.le_refl _⟩
theorem Up.roomIf (p : Nat → Bool) (n a : Nat) : Up L (fun s => if p s.i = true then roomM n s else .ok () s) a a := fun s c hs => by
  dsimp only
  by_cases h : p s.i = true
  · rw [if_pos h]; exact Up.room n a s c hs
  · rw [if_neg h]; exact ⟨hs, Nat.le_refl _⟩
theorem Up.roomStep {α : Type} (hL : TokOk L) {p : Nat → Bool} {n : Nat} {f : Unit → PM α} {y : PM α} {a b : Nat} (hp : ∀ i, p i = true → (tk L i).k ≠ 3) (hx : Up L (f ()) (a + 1) b) (hy : Up L y a b) : Up L (atM p (roomM n >>= fun _ => stepM >>= f) y) a b := fun s c hs => by
  have h1 := Up.step hL hp hx hy s c hs
  unfold atM at h1 ⊢
  by_cases h : p s.i = true
  · rw [if_pos h] at h1 ⊢
    by_cases hr : 64 ≤ n
    · rw [and_err (i := s.i) (e := 10) (by unfold roomM; rw [if_pos hr]; rfl)]
      exact ⟨Nat.le_refl _, hs.i, by decide, by decide⟩
    · rw [and_ok (s' := s) (v := ()) (by unfold roomM; rw [if_neg hr])]
      exact h1
  · rw [if_neg h] at h1 ⊢
    exact h1
/-! ### Expressions -/
theorem up_un (hL : TokOk L) (m : Nat) {un ex : PM Int} (h1 : Up L un 0 0) (h2 : Up L ex 0 0) : Up L (unF L m un ex) 0 0 := by
  unfold unF
  refine Up.step hL (fun i h => isV_k h) ?_ (Up.step hL (fun i h => isV_k h) ?_ (Up.at ?_ ?_))
  · exact (Up.look fun s => Up.enter _ _ _).and fun _ => (h1.less 1 (by omega) (Nat.le_refl _)).and fun k => Up.put _ _
  · exact (Up.look fun s => Up.enter _ _ _).and fun _ => (h2.less 1 (by omega) (Nat.le_refl _)).and fun k => (Up.take hL _ _).and fun _ => (Up.pure _ _).less 0 (Nat.le_refl _) (by omega)
  · exact (Up.name hL 0).and fun w => Up.put _ _
  · exact (Up.number hL 0).and fun w => Up.put _ _
theorem up_line (hL : TokOk L) (lv : Nat) {x : PM Int} (hx : Up L x 0 0) : ∀ n left, Up L (lineN L lv x n left) 0 0
  | 0, left => Up.pure _ _
  | n + 1, left => by
    refine Up.look (f := fun s => fun s' => if opAt L lv s'.i = true then (stepM >>= fun _ => x >>= fun right => putM ⟨3, (tk L s.i).t, 0, [], [left, right]⟩ >>= fun k => lineN L lv x n k) s' else .ok left s') fun s => ?_
    refine Up.step hL (p := fun i => opAt L lv i) (fun i h => ?_) ?_ (Up.pure left 0)
    · unfold opAt at h
      rw [Bool.and_eq_true] at h
      have := of_decide_eq_true h.1
      omega
    · exact (hx.less 1 (by omega) (Nat.le_refl _)).and fun r => (Up.put _ 0).and fun k => up_line hL lv hx n k
theorem up_lineJ (hL : TokOk L) {un : PM Int} (hx : Up L un 0 0) : ∀ j, Up L (lineJ L un j) 0 0
  | 0 => hx
  | j + 1 => (up_lineJ hL hx j).and fun left => Up.look fun s => up_line hL _ (up_lineJ hL hx j) _ _
theorem up_unM (hL : TokOk L) : ∀ m, Up L (unM L m) 0 0
  | 0 => up_un hL 0 (Up.fail (by decide) (by decide) _ _) (Up.fail (by decide) (by decide) _ _)
  | m + 1 => up_un hL _ (up_unM hL m) (up_lineJ hL (up_unM hL m) 8)
theorem up_expr (hL : TokOk L) (m a : Nat) : Up L (exprM L m) a a := (up_lineJ hL (up_unM hL m) 8).less a (by omega) (by omega)
theorem up_bracket (hL : TokOk L) (m a : Nat) : Up L (bracketM L m) a (a + 2) := (Up.take hL _ a).and fun _ => (up_expr hL m _).and fun k => (Up.take hL _ _).and fun _ => Up.pure _ _
/-! ### Types -/
theorem up_array (hL : TokOk L) (m : Nat) (t : TY) : Up L (arrayM L m t) 1 0 :=
  (Up.lay t 0).and fun k => Up.at ((up_bracket hL m 0).and fun x => (Up.lay _ 0).less 1 (Nat.le_refl _) (by omega)) (Up.pure _ _)
theorem up_args (hL : TokOk L) (m : Nat) : ∀ n l, Up L (argsN L m n l) 0 0
  | 0, l => Up.pure _ _
  | n + 1, l => Up.step hL (fun i h => isV_k h) ((Up.roomIf (beginsV L ·) _ _).and fun _ => (up_expr hL m 1).and fun x => (up_args hL m n (l ++ [x])).less 0 (by omega) (Nat.le_refl _)) (Up.pure _ _)
theorem up_ref (hL : TokOk L) (m : Nat) : Up L (refM L m) 0 1 :=
  (Up.name hL 0).and fun w => Up.step hL (fun i h => isV_k h) ((up_expr hL m _).and fun x => (Up.look fun s => (up_args hL m _ _).less 2 (by omega) (Nat.le_refl _)).and fun l => (Up.take hL _ _).and fun _ => (Up.pure _ _).less 0 (Nat.le_refl _) (by omega)) (Up.pure _ _)
theorem up_inner (m : Nat) {kd : PM Int} (h : Up L kd 0 0) (a : Nat) : Up L (innerM L m kd) a a :=
  (Up.look fun s => Up.enter _ _ _).and fun _ => h.less a (by omega) (by omega)
theorem up_cases (hL : TokOk L) (m : Nat) {kd : PM Int} (h : Up L kd 0 0) : ∀ n l, Up L (casesN L m kd n l) 0 0
  | 0, l => Up.pure _ _
  | n + 1, l => Up.roomStep hL (fun i h => isV_k h) ((Up.number hL 1).and fun c => (Up.take hL t_colon _).and fun _ => (up_inner m h _).and fun k => (Up.take hL t_semi _).and fun _ => (up_cases hL m h n (l ++ [⟨c, k⟩])).less 0 (by omega) (Nat.le_refl _)) (Up.pure _ _)
theorem up_choice (hL : TokOk L) (m : Nat) {kd : PM Int} (h : Up L kd 0 0) (a : Nat) : Up L (choiceM L m kd) a a := by
  unfold choiceM
  exact (Up.take hL _ _).and fun _ => (up_expr hL m _).and fun x => (Up.take hL _ _).and fun _ => (Up.take hL _ _).and fun _ => (Up.look fun s => (up_cases hL m h _ _).less (a + 3) (by omega) (Nat.le_refl _)).and fun cs =>
    (Up.step hL (fun i h => isV_k h) ((Up.take hL _ _).and fun _ => (up_inner m h _).and fun k => (Up.take hL _ _).and fun _ => (Up.pure _ _).less 0 (Nat.le_refl _) (b' := 0 + (a + 3)) (by omega)) (Up.pure _ _)).and fun k =>
    (Up.take hL _ _).and fun _ => (Up.lay _ a).less 3 (by omega) (by omega)
theorem up_word (hL : TokOk L) (m : Nat) {kd : PM Int} (h : Up L kd 0 0) (w : List UInt8) : Up L (wordM L m kd w) 1 0 := by
  unfold wordM
  split
  · rename_i k _
    refine (up_bracket hL m _).and fun x => ?_
    by_cases hk : k = 7 ∨ k = 8
    · rw [if_pos hk]; exact (up_inner m h _).and fun i => (Up.lay _ 0).less 2 (by omega) (by omega)
    · rw [if_neg hk]; exact (Up.pure _ _).and fun i => (Up.lay _ 0).less 2 (by omega) (by omega)
  · repeat' split
    · exact (up_inner m h _).and fun i => Up.lay _ 0
    · exact Up.lay _ 0
    · exact Up.lay _ 0
    · exact (up_choice hL m h 0).less 1 (Nat.le_refl _) (by omega)
    · exact up_array hL m _
theorem up_kindF (hL : TokOk L) (m : Nat) {kd : PM Int} (h : Up L kd 0 0) : Up L (kindF L m kd) 0 0 := by
  unfold kindF
  refine Up.at ((up_ref hL m).and fun t => up_array hL m t) (Up.look (f := fun s => atM (startsV L ·) (stepM >>= fun _ => wordM L m kd (tk L s.i).t) (failM 4)) fun s => ?_)
  exact Up.step hL (fun i h => startsV_k h) (up_word hL m h _) (Up.fail (by decide) (by decide) _ _)
theorem up_kind (hL : TokOk L) : ∀ m, Up L (kindM L m) 0 0
  | 0 => up_kindF hL 0 (Up.fail (by decide) (by decide) _ _)
  | m + 1 => up_kindF hL _ (up_kind hL m)
/-! ### Items -/
theorem up_derived (hL : TokOk L) (a : Nat) : Up L (derivedM L) a a := by
  unfold derivedM
  refine Up.look (f := fun s => atM (fun i => !decide ((tk L i).k = 3) && !decide (derOf (tk L i).t = 0)) (stepM >>= fun _ => takeM L t_lpar >>= fun _ => nameM L >>= fun a =>
      (if 3 ≤ derOf (tk L s.i).t then takeM L t_dots >>= fun _ => nameM L else pure []) >>= fun b => takeM L t_rpar >>= fun _ => pure (derOf (tk L s.i).t, a, b)) (failM 4)) fun s => ?_
  refine Up.step hL (fun i h => ?_) ((Up.take hL _ _).and fun _ => (Up.name hL _).and fun w => ?_) (Up.fail (by decide) (by decide) _ _)
  · rw [Bool.and_eq_true] at h
    simpa using h.1
  · by_cases hd : 3 ≤ derOf (tk L s.i).t
    · rw [if_pos hd]
      exact ((Up.take hL _ _).and fun _ => Up.name hL _).and fun b => (Up.take hL _ _).and fun _ => (Up.pure _ _).less 0 (Nat.le_refl _) (by omega)
    · rw [if_neg hd]
      exact (Up.pure _ _).and fun b => (Up.take hL _ _).and fun _ => (Up.pure _ _).less 0 (Nat.le_refl _) (by omega)
theorem up_field (hL : TokOk L) : Up L (fieldM L) 0 0 := by
  unfold fieldM
  exact (Up.name hL 0).and fun w => (Up.take hL _ _).and fun _ => ((up_kind hL 32).less 2 (by omega) (Nat.le_refl _)).and fun t =>
    (Up.step hL (fun i h => isV_k h) ((up_derived hL _).less 0 (Nat.le_refl _) (b' := 2) (by omega)) (Up.pure _ _)).and fun d =>
    (Up.step hL (fun i h => isV_k h) ((up_expr hL 32 _).less 0 (Nat.le_refl _) (b' := 2) (by omega)) (Up.pure _ _)).and fun x =>
    (Up.take hL _ _).and fun _ => (Up.pure _ _).less 0 (Nat.le_refl _) (by omega)
theorem up_subs (hL : TokOk L) : ∀ n l, Up L (subsN L n l) 0 0
  | 0, l => Up.pure _ _
  | n + 1, l => by
    rw [subsN]
    exact (Up.roomIf (namedV L ·) _ _).and fun _ => (Up.name hL _).and fun w => (Up.take hL _ _).and fun _ => (Up.number hL _).and fun b => (Up.take hL _ _).and fun _ =>
      Up.at ((up_subs hL n _).less 4 (by omega) (by omega)) ((Up.pure _ _).less 0 (Nat.le_refl _) (by omega))
theorem up_pack (hL : TokOk L) : Up L (packM L) 0 0 := by
  unfold packM
  refine (Up.take hL _ _).and fun _ => ?_
  intro s c hs
  dsimp only
  by_cases hk : (tk L s.i).k = 0
  · rw [if_pos hk]
    cases integerV (tk L s.i).t with
    | none => exact ⟨Nat.le_refl _, hs.i, by decide, by decide⟩
    | some p =>
      obtain ⟨z, lt⟩ := p
      have := Up.step (L := L) hL (p := fun i => decide ((tk L i).k = 0)) (f := fun _ => takeM L t_lcur >>= fun _ => (fun s => subsN L (L.length - s.i + 1) [] s) >>= fun l => takeM L t_rcur >>= fun _ => pure (⟨[], -1, 0, [], [], -1, z, lt, l⟩ : IT)) (y := failM 4) (a := 1) (b := 0) (fun i h => by have := of_decide_eq_true h; omega)
        ((Up.take hL t_lcur 2).and fun _ => (Up.look fun s => (up_subs hL (L.length - s.i + 1) []).less (a' := 3) (b' := 3) 3 (by omega) (by omega)).and fun l => (Up.take hL t_rcur 3).and fun _ => (Up.pure (⟨[], -1, 0, [], [], -1, z, lt, l⟩ : IT) 4).less (b' := 0) 0 (Nat.le_refl _) (by omega)) (Up.fail (by decide) (by decide) _ _) s c hs
      unfold atM at this
      rw [if_pos (decide_eq_true hk)] at this
      exact this
  · rw [if_neg hk]; exact ⟨Nat.le_refl _, hs.i, by decide, by decide⟩
theorem up_pars (hL : TokOk L) : ∀ n l, Up L (parsN L n l) 0 0
  | 0, l => Up.pure _ _
  | n + 1, l => Up.step hL (fun i h => isV_k h) ((Up.roomIf (namedV L ·) _ _).and fun _ => (Up.name hL _).and fun x => (up_pars hL n (l ++ [x])).less 2 (by omega) (by omega)) (Up.pure _ _)
theorem up_items (hL : TokOk L) : ∀ n l, Up L (itemsN L n l) 0 0
  | 0, l => Up.pure _ _
  | n + 1, l => Up.at ((Up.room _ _).and fun _ => (Up.at (up_pack hL) (up_field hL)).and fun x => up_items hL n _) (Up.pure _ _)
theorem up_record (hL : TokOk L) : Up L (recordM L) 0 0 := by
  unfold recordM
  exact (Up.take hL _ _).and fun _ => (Up.name hL _).and fun w =>
    (Up.step hL (fun i h => isV_k h) ((Up.name hL _).and fun x => (Up.look fun s => (up_pars hL _ _).less 4 (by omega) (Nat.le_refl _)).and fun l => (Up.take hL _ _).and fun _ => (Up.pure _ _).less 0 (Nat.le_refl _) (b' := 2) (by omega)) (Up.pure _ _)).and fun ps =>
    (Up.take hL _ _).and fun _ => (Up.look fun s => (up_items hL _ _).less 3 (by omega) (Nat.le_refl _)).and fun is => (Up.take hL _ _).and fun _ => (Up.pure _ _).less 0 (Nat.le_refl _) (by omega)
theorem up_const (hL : TokOk L) : Up L (constM L) 0 0 := by
  unfold constM
  exact (Up.take hL _ _).and fun _ => (Up.name hL _).and fun w => (Up.take hL _ _).and fun _ => (Up.number hL _).and fun n => (Up.take hL _ _).and fun _ => (Up.pure _ _).less 0 (Nat.le_refl _) (by omega)
theorem up_whole (hL : TokOk L) : ∀ n cs rs, Up L (wholeN L n cs rs) 0 0
  | 0, cs, rs => Up.pure _ _
  | n + 1, cs, rs => Up.at ((Up.room _ _).and fun _ => (up_const hL).and fun c => up_whole hL n _ _) (Up.at ((Up.room _ _).and fun _ => (up_record hL).and fun c => up_whole hL n _ _) (Up.at (Up.pure _ _) (Up.fail (by decide) (by decide) _ _)))
end
end Go.Proofs.YtkbhmcdoedmffaaDoor

namespace Go.Proofs
open Go.Shelf
def Tryd.lays161_ren : Go.Shelf.Ren := ⟨fun | 161 => 34 | 231 => 42 | 227 => 43 | 233 => 44 | 235 => 45 | 228 => 60 | 197 => 61 | 151 => 62 | 260 => 78 | 152 => 79 | 137 => 85 | 119 => 86 | 224 => 65 | 225 => 64 | 217 => 63 | 266 => 80 | n => n, fun | 9 => 9 | 4 => 4 | 3 => 3 | 5 => 5 | 117 => 110 | 116 => 109 | 0 => 0 | 124 => 113 | 105 => 124 | 21 => 21 | 119 => 147 | 46 => 128 | 139 => 150 | 138 => 149 | n => n, fun | 3 => 4 | 4 => 5 | n => n⟩
theorem Tryd.lays161 : Go.Proofs.Lays.n161 Tryd.prog Tryd.lays161_ren := {
  mixed := by kernel_rfl
  f119 := Tryd.func86.trans (congrArg some (by kernel_rfl))
  f137 := Tryd.func85.trans (congrArg some (by kernel_rfl))
  f151 := Tryd.func62.trans (congrArg some (by kernel_rfl))
  f152 := Tryd.func79.trans (congrArg some (by kernel_rfl))
  f161 := Tryd.func34.trans (congrArg some (by kernel_rfl))
  f197 := Tryd.func61.trans (congrArg some (by kernel_rfl))
  f217 := Tryd.func63.trans (congrArg some (by kernel_rfl))
  f224 := Tryd.func65.trans (congrArg some (by kernel_rfl))
  f225 := Tryd.func64.trans (congrArg some (by kernel_rfl))
  f227 := Tryd.func43.trans (congrArg some (by kernel_rfl))
  f228 := Tryd.func60.trans (congrArg some (by kernel_rfl))
  f231 := Tryd.func42.trans (congrArg some (by kernel_rfl))
  f233 := Tryd.func44.trans (congrArg some (by kernel_rfl))
  f235 := Tryd.func45.trans (congrArg some (by kernel_rfl))
  f260 := Tryd.func78.trans (congrArg some (by kernel_rfl))
  f266 := Tryd.func80.trans (congrArg some (by kernel_rfl))
  t0 := Tryd.underlying0
  a0 := Tryd.isAgg0
  z0 := Tryd.sizeOf0
  v0 := Tryd.zeroValue0
  t3 := Tryd.underlying3
  a3 := Tryd.isAgg3
  z3 := Tryd.sizeOf3
  v3 := Tryd.zeroValue3
  t4 := Tryd.underlying4
  a4 := Tryd.isAgg4
  z4 := Tryd.sizeOf4
  v4 := Tryd.zeroValue4
  t5 := Tryd.underlying5
  a5 := Tryd.isAgg5
  z5 := Tryd.sizeOf5
  v5 := Tryd.zeroValue5
  t9 := Tryd.underlying9
  a9 := Tryd.isAgg9
  z9 := Tryd.sizeOf9
  v9 := Tryd.zeroValue9
  t21 := Tryd.underlying21
  a21 := Tryd.isAgg21
  z21 := Tryd.sizeOf21
  v21 := Tryd.zeroValue21
  t46 := Tryd.underlying128
  a46 := Tryd.isAgg128
  z46 := Tryd.sizeOf128
  v46 := Tryd.zeroValue128
  t105 := Tryd.underlying124
  a105 := Tryd.isAgg124
  z105 := Tryd.sizeOf124
  v105 := Tryd.zeroValue124
  t116 := Tryd.underlying109
  a116 := Tryd.isAgg109
  z116 := Tryd.sizeOf109
  t117 := Tryd.underlying110
  a117 := Tryd.isAgg110
  z117 := Tryd.sizeOf110
  v117 := Tryd.zeroValue110
  t119 := Tryd.underlying147
  a119 := Tryd.isAgg147
  z119 := Tryd.sizeOf147
  t124 := Tryd.underlying113
  a124 := Tryd.isAgg113
  z124 := Tryd.sizeOf113
  v124 := Tryd.zeroValue113
  t138 := Tryd.underlying149
  a138 := Tryd.isAgg149
  z138 := Tryd.sizeOf149
  v138 := Tryd.zeroValue149
  t139 := Tryd.underlying150
  a139 := Tryd.isAgg150
  z139 := Tryd.sizeOf150
  v139 := Tryd.zeroValue150
  g3 := by kernel_rfl
  g4 := by kernel_rfl }
open Go.RowKit in
theorem Tryd.strings_TrimLeft_one (s : ByteArray) (c : UInt8) (hc : c.toNat < 128) (w : World) :
    Calls Tryd.prog 34 #[.string s, .string ⟨#[c]⟩] w fun e w' => e = .returned (.string ⟨(Lib.trimLeftB s.data.toList c).toArray⟩) ∧ w' = w := Any.strings_TrimLeft_one Tryd.lays161 s c hc w
def Tryd.lays137_ren : Go.Shelf.Ren := ⟨fun | 137 => 85 | 217 => 63 | 266 => 80 | n => n, fun | 9 => 9 | 5 => 5 | 3 => 3 | n => n, fun | n => n⟩
theorem Tryd.lays137 : Go.Proofs.Lays.n137 Tryd.prog Tryd.lays137_ren := {
  mixed := by kernel_rfl
  f137 := Tryd.func85.trans (congrArg some (by kernel_rfl))
  f217 := Tryd.func63.trans (congrArg some (by kernel_rfl))
  f266 := Tryd.func80.trans (congrArg some (by kernel_rfl))
  t3 := Tryd.underlying3
  a3 := Tryd.isAgg3
  z3 := Tryd.sizeOf3
  v3 := Tryd.zeroValue3
  t5 := Tryd.underlying5
  a5 := Tryd.isAgg5
  z5 := Tryd.sizeOf5
  v5 := Tryd.zeroValue5
  t9 := Tryd.underlying9
  a9 := Tryd.isAgg9
  z9 := Tryd.sizeOf9
  v9 := Tryd.zeroValue9 }
open Go.RowKit in
theorem Tryd.strings_IndexByte (s : ByteArray) (c : Int) (w : World) :
    Calls Tryd.prog 85 #[.string s, .int .u8 c] w fun e w' => e = .returned (.int .i64 (Lib.indexByte s.data.toList c.toNat.toUInt8)) ∧ w' = w := Any.strings_IndexByte Tryd.lays137 s c w
def Tryd.laysC245_ren : Go.Shelf.Ren := ⟨fun | 245 => 49 | 279 => 70 | 280 => 71 | 281 => 72 | 282 => 73 | 316 => 82 | 171 => 84 | 205 => 83 | 243 => 87 | 246 => 88 | 283 => 89 | 284 => 90 | 285 => 91 | 286 => 92 | 129 => 94 | 317 => 93 | 318 => 95 | 319 => 96 | 320 => 97 | 337 => 98 | 338 => 99 | n => n, fun | 9 => 9 | 3 => 3 | 75 => 99 | 167 => 129 | 4 => 4 | 168 => 131 | 210 => 144 | 37 => 83 | 0 => 0 | 127 => 152 | 145 => 155 | 143 => 153 | 2 => 2 | 171 => 157 | 53 => 35 | 5 => 5 | 173 => 160 | 212 => 163 | 51 => 139 | 20 => 20 | 213 => 164 | 46 => 128 | 232 => 168 | 233 => 169 | 80 => 85 | n => n, fun | 15 => 2 | 16 => 3 | 17 => 6 | 18 => 7 | 19 => 8 | n => n⟩
theorem Tryd.laysC245 : Go.Proofs.LaysC.n245 Tryd.prog Tryd.laysC245_ren := {
  mixed := by kernel_rfl
  f129 := Tryd.func94.trans (congrArg some (by kernel_rfl))
  f171 := Tryd.func84.trans (congrArg some (by kernel_rfl))
  f205 := Tryd.func83.trans (congrArg some (by kernel_rfl))
  f243 := Tryd.func87.trans (congrArg some (by kernel_rfl))
  f245 := Tryd.func49.trans (congrArg some (by kernel_rfl))
  f246 := Tryd.func88.trans (congrArg some (by kernel_rfl))
  f279 := Tryd.func70.trans (congrArg some (by kernel_rfl))
  f280 := Tryd.func71.trans (congrArg some (by kernel_rfl))
  f281 := Tryd.func72.trans (congrArg some (by kernel_rfl))
  f282 := Tryd.func73.trans (congrArg some (by kernel_rfl))
  f283 := Tryd.func89.trans (congrArg some (by kernel_rfl))
  f284 := Tryd.func90.trans (congrArg some (by kernel_rfl))
  f285 := Tryd.func91.trans (congrArg some (by kernel_rfl))
  f286 := Tryd.func92.trans (congrArg some (by kernel_rfl))
  f316 := Tryd.func82.trans (congrArg some (by kernel_rfl))
  f317 := Tryd.func93.trans (congrArg some (by kernel_rfl))
  f318 := Tryd.func95.trans (congrArg some (by kernel_rfl))
  f319 := Tryd.func96.trans (congrArg some (by kernel_rfl))
  f320 := Tryd.func97.trans (congrArg some (by kernel_rfl))
  f337 := Tryd.func98.trans (congrArg some (by kernel_rfl))
  f338 := Tryd.func99.trans (congrArg some (by kernel_rfl))
  t0 := Tryd.underlying0
  a0 := Tryd.isAgg0
  z0 := Tryd.sizeOf0
  v0 := Tryd.zeroValue0
  t2 := Tryd.underlying2
  a2 := Tryd.isAgg2
  z2 := Tryd.sizeOf2
  v2 := Tryd.zeroValue2
  t3 := Tryd.underlying3
  a3 := Tryd.isAgg3
  z3 := Tryd.sizeOf3
  v3 := Tryd.zeroValue3
  t4 := Tryd.underlying4
  a4 := Tryd.isAgg4
  z4 := Tryd.sizeOf4
  v4 := Tryd.zeroValue4
  t5 := Tryd.underlying5
  a5 := Tryd.isAgg5
  z5 := Tryd.sizeOf5
  v5 := Tryd.zeroValue5
  t9 := Tryd.underlying9
  a9 := Tryd.isAgg9
  z9 := Tryd.sizeOf9
  v9 := Tryd.zeroValue9
  t20 := Tryd.underlying20
  a20 := Tryd.isAgg20
  z20 := Tryd.sizeOf20
  v20 := Tryd.zeroValue20
  t37 := Tryd.underlying83
  a37 := Tryd.isAgg83
  z37 := Tryd.sizeOf83
  v37 := Tryd.zeroValue83
  t46 := Tryd.underlying128
  a46 := Tryd.isAgg128
  z46 := Tryd.sizeOf128
  v46 := Tryd.zeroValue128
  t51 := Tryd.underlying139
  a51 := Tryd.isAgg139
  z51 := Tryd.sizeOf139
  v51 := Tryd.zeroValue139
  t53 := Tryd.underlying35
  a53 := Tryd.isAgg35
  z53 := Tryd.sizeOf35
  v53 := Tryd.zeroValue35
  t75 := Tryd.underlying99
  a75 := Tryd.isAgg99
  z75 := Tryd.sizeOf99
  v75 := Tryd.zeroValue99
  t127 := Tryd.underlying152
  a127 := Tryd.isAgg152
  z127 := Tryd.sizeOf152
  v127 := Tryd.zeroValue152
  t143 := Tryd.underlying153
  a143 := Tryd.isAgg153
  z143 := Tryd.sizeOf153
  v143 := Tryd.zeroValue153
  t145 := Tryd.underlying155
  a145 := Tryd.isAgg155
  z145 := Tryd.sizeOf155
  v145 := Tryd.zeroValue155
  t167 := Tryd.underlying129
  a167 := Tryd.isAgg129
  z167 := Tryd.sizeOf129
  v167 := Tryd.zeroValue129
  t168 := Tryd.underlying131
  a168 := Tryd.isAgg131
  z168 := Tryd.sizeOf131
  v168 := Tryd.zeroValue131
  t171 := Tryd.underlying157
  a171 := Tryd.isAgg157
  z171 := Tryd.sizeOf157
  v171 := Tryd.zeroValue157
  t173 := Tryd.underlying160
  a173 := Tryd.isAgg160
  z173 := Tryd.sizeOf160
  v173 := Tryd.zeroValue160
  t210 := Tryd.underlying144
  a210 := Tryd.isAgg144
  z210 := Tryd.sizeOf144
  v210 := Tryd.zeroValue144
  t212 := Tryd.underlying163
  a212 := Tryd.isAgg163
  z212 := Tryd.sizeOf163
  v212 := Tryd.zeroValue163
  t213 := Tryd.underlying164
  a213 := Tryd.isAgg164
  z213 := Tryd.sizeOf164
  t232 := Tryd.underlying168
  a232 := Tryd.isAgg168
  z232 := Tryd.sizeOf168
  v232 := Tryd.zeroValue168
  t233 := Tryd.underlying169
  a233 := Tryd.isAgg169
  z233 := Tryd.sizeOf169
  v233 := Tryd.zeroValue169
  g15 := by kernel_rfl
  g16 := by kernel_rfl
  g17 := by kernel_rfl
  g18 := by kernel_rfl
  g19 := by kernel_rfl
  t80 := Tryd.underlying85
  a80 := Tryd.isAgg85
  z80 := Tryd.sizeOf85
  v80 := Tryd.zeroValue85
  i0 := by kernel_rfl
  i2 := by kernel_rfl
  i3 := by kernel_rfl
  i4 := by kernel_rfl
  i5 := by kernel_rfl
  i9 := by kernel_rfl
  i20 := by kernel_rfl
  i37 := by kernel_rfl
  i46 := by kernel_rfl
  i51 := by kernel_rfl
  i53 := by kernel_rfl
  i75 := by kernel_rfl
  i80 := by kernel_rfl
  i127 := by kernel_rfl
  i143 := by kernel_rfl
  i145 := by kernel_rfl
  i167 := by kernel_rfl
  i168 := by kernel_rfl
  i171 := by kernel_rfl
  i173 := by kernel_rfl
  i210 := by kernel_rfl
  i212 := by kernel_rfl
  i232 := by kernel_rfl
  i233 := by kernel_rfl
  m15 := by kernel_rfl
  m16 := by kernel_rfl
  m17 := by kernel_rfl
  m18 := by kernel_rfl
  m19 := by kernel_rfl
  c0 := by kernel_rfl
  c2 := by kernel_rfl
  c3 := by kernel_rfl
  c4 := by kernel_rfl
  c5 := by kernel_rfl
  c9 := by kernel_rfl
  c20 := by kernel_rfl
  c37 := by kernel_rfl
  c46 := by kernel_rfl
  c51 := by kernel_rfl
  c53 := by kernel_rfl
  c75 := by kernel_rfl
  c80 := by kernel_rfl
  c127 := by kernel_rfl
  c143 := by kernel_rfl
  c145 := by kernel_rfl
  c167 := by kernel_rfl
  c168 := by kernel_rfl
  c171 := by kernel_rfl
  c173 := by kernel_rfl
  c210 := by kernel_rfl
  c212 := by kernel_rfl
  c213 := by kernel_rfl
  c232 := by kernel_rfl
  c233 := by kernel_rfl }
def Tryd.lays321_ren : Go.Shelf.Ren := ⟨fun | 321 => 68 | n => n, fun | 5 => 5 | n => n, fun | n => n⟩
theorem Tryd.lays321 : Go.Proofs.Lays.n321 Tryd.prog Tryd.lays321_ren := {
  mixed := by kernel_rfl
  f321 := Tryd.func68.trans (congrArg some (by kernel_rfl))
  t5 := Tryd.underlying5
  a5 := Tryd.isAgg5
  z5 := Tryd.sizeOf5
  v5 := Tryd.zeroValue5 }
open Go.RowKit in
theorem Tryd.internal_strconv_lower (c : Int) (w : World) :
    Calls Tryd.prog 68 #[.int .u8 c] w fun e w' => e = .returned (.int .u8 (bits .or .u8 c 32)) ∧ w' = w := Any.internal_strconv_lower Tryd.lays321 c w
open Go.RowKit in
theorem Tryd.strconv_toError_range (fn s : ByteArray) (base bits : Int) (ev : Value) (w : World) (hlim : s.size ≤ 281474976710656) (hv : w.cell? ⟨3, 0, none⟩ = some ev) (hev : ev = .nilIface ∨ ∃ te pe, ev = .iface te pe) :
    Calls Tryd.prog 49 #[.string fn, .string s, .int .i64 base, .int .i64 bits, .iface 129 (.int .i64 1)] w fun e w' => ∃ N, e = .returned (.iface 131 (.pointer (some ⟨N, 0, none⟩))) ∧ w.heap.size ≤ N ∧ w'.heap[N]? = some (.cells #[.string fn, .string s, ev] 144 (0, 0)) ∧ Below w.heap.size w w' := Any.strconv_toError_range Tryd.laysC245 fn s base bits ev w hlim hv hev
def Tryd.laysPu14_ren : Go.Shelf.Ren := ⟨fun | 14 => 38 | 16 => 48 | 17 => 49 | 19 => 68 | 20 => 69 | 21 => 70 | 22 => 71 | 23 => 72 | 24 => 73 | 25 => 82 | 27 => 84 | 26 => 83 | 28 => 87 | 29 => 88 | 30 => 89 | 31 => 90 | 32 => 91 | 33 => 92 | 35 => 94 | 34 => 93 | 36 => 95 | 37 => 96 | 38 => 97 | 39 => 98 | 40 => 99 | n => n, fun | 9 => 9 | 3 => 3 | 22 => 35 | 24 => 99 | 25 => 100 | 4 => 4 | 34 => 129 | 5 => 5 | 36 => 128 | 37 => 83 | 0 => 0 | 39 => 131 | 21 => 21 | 44 => 144 | 47 => 152 | 50 => 155 | 48 => 153 | 2 => 2 | 52 => 157 | 55 => 160 | 59 => 163 | 60 => 139 | 20 => 20 | 61 => 164 | 65 => 168 | 66 => 169 | 67 => 85 | n => n, fun | 0 => 2 | 1 => 3 | 2 => 6 | 3 => 7 | 4 => 8 | n => n⟩
theorem Tryd.laysPu14 : Go.Proofs.LaysPu.n14 Tryd.prog Tryd.laysPu14_ren := {
  mixed := by kernel_rfl
  f14 := Tryd.func38.trans (congrArg some (by kernel_rfl))
  f16 := Tryd.func48.trans (congrArg some (by kernel_rfl))
  f17 := Tryd.func49.trans (congrArg some (by kernel_rfl))
  f19 := Tryd.func68.trans (congrArg some (by kernel_rfl))
  f20 := Tryd.func69.trans (congrArg some (by kernel_rfl))
  f21 := Tryd.func70.trans (congrArg some (by kernel_rfl))
  f22 := Tryd.func71.trans (congrArg some (by kernel_rfl))
  f23 := Tryd.func72.trans (congrArg some (by kernel_rfl))
  f24 := Tryd.func73.trans (congrArg some (by kernel_rfl))
  f25 := Tryd.func82.trans (congrArg some (by kernel_rfl))
  f26 := Tryd.func83.trans (congrArg some (by kernel_rfl))
  f27 := Tryd.func84.trans (congrArg some (by kernel_rfl))
  f28 := Tryd.func87.trans (congrArg some (by kernel_rfl))
  f29 := Tryd.func88.trans (congrArg some (by kernel_rfl))
  f30 := Tryd.func89.trans (congrArg some (by kernel_rfl))
  f31 := Tryd.func90.trans (congrArg some (by kernel_rfl))
  f32 := Tryd.func91.trans (congrArg some (by kernel_rfl))
  f33 := Tryd.func92.trans (congrArg some (by kernel_rfl))
  f34 := Tryd.func93.trans (congrArg some (by kernel_rfl))
  f35 := Tryd.func94.trans (congrArg some (by kernel_rfl))
  f36 := Tryd.func95.trans (congrArg some (by kernel_rfl))
  f37 := Tryd.func96.trans (congrArg some (by kernel_rfl))
  f38 := Tryd.func97.trans (congrArg some (by kernel_rfl))
  f39 := Tryd.func98.trans (congrArg some (by kernel_rfl))
  f40 := Tryd.func99.trans (congrArg some (by kernel_rfl))
  t0 := Tryd.underlying0
  a0 := Tryd.isAgg0
  z0 := Tryd.sizeOf0
  v0 := Tryd.zeroValue0
  i0 := by kernel_rfl
  t2 := Tryd.underlying2
  a2 := Tryd.isAgg2
  z2 := Tryd.sizeOf2
  v2 := Tryd.zeroValue2
  i2 := by kernel_rfl
  t3 := Tryd.underlying3
  a3 := Tryd.isAgg3
  z3 := Tryd.sizeOf3
  v3 := Tryd.zeroValue3
  i3 := by kernel_rfl
  t4 := Tryd.underlying4
  a4 := Tryd.isAgg4
  z4 := Tryd.sizeOf4
  v4 := Tryd.zeroValue4
  i4 := by kernel_rfl
  t5 := Tryd.underlying5
  a5 := Tryd.isAgg5
  z5 := Tryd.sizeOf5
  v5 := Tryd.zeroValue5
  i5 := by kernel_rfl
  t9 := Tryd.underlying9
  a9 := Tryd.isAgg9
  z9 := Tryd.sizeOf9
  v9 := Tryd.zeroValue9
  i9 := by kernel_rfl
  t20 := Tryd.underlying20
  a20 := Tryd.isAgg20
  z20 := Tryd.sizeOf20
  v20 := Tryd.zeroValue20
  i20 := by kernel_rfl
  t21 := Tryd.underlying21
  a21 := Tryd.isAgg21
  z21 := Tryd.sizeOf21
  v21 := Tryd.zeroValue21
  i21 := by kernel_rfl
  t22 := Tryd.underlying35
  a22 := Tryd.isAgg35
  z22 := Tryd.sizeOf35
  v22 := Tryd.zeroValue35
  i22 := by kernel_rfl
  t24 := Tryd.underlying99
  a24 := Tryd.isAgg99
  z24 := Tryd.sizeOf99
  v24 := Tryd.zeroValue99
  i24 := by kernel_rfl
  t25 := Tryd.underlying100
  a25 := Tryd.isAgg100
  z25 := Tryd.sizeOf100
  v25 := Tryd.zeroValue100
  i25 := by kernel_rfl
  t34 := Tryd.underlying129
  a34 := Tryd.isAgg129
  z34 := Tryd.sizeOf129
  v34 := Tryd.zeroValue129
  i34 := by kernel_rfl
  c34 := by kernel_rfl
  t36 := Tryd.underlying128
  a36 := Tryd.isAgg128
  z36 := Tryd.sizeOf128
  v36 := Tryd.zeroValue128
  i36 := by kernel_rfl
  t37 := Tryd.underlying83
  a37 := Tryd.isAgg83
  z37 := Tryd.sizeOf83
  v37 := Tryd.zeroValue83
  i37 := by kernel_rfl
  t39 := Tryd.underlying131
  a39 := Tryd.isAgg131
  z39 := Tryd.sizeOf131
  v39 := Tryd.zeroValue131
  i39 := by kernel_rfl
  t44 := Tryd.underlying144
  a44 := Tryd.isAgg144
  z44 := Tryd.sizeOf144
  v44 := Tryd.zeroValue144
  i44 := by kernel_rfl
  t47 := Tryd.underlying152
  a47 := Tryd.isAgg152
  z47 := Tryd.sizeOf152
  v47 := Tryd.zeroValue152
  i47 := by kernel_rfl
  t48 := Tryd.underlying153
  a48 := Tryd.isAgg153
  z48 := Tryd.sizeOf153
  v48 := Tryd.zeroValue153
  i48 := by kernel_rfl
  t50 := Tryd.underlying155
  a50 := Tryd.isAgg155
  z50 := Tryd.sizeOf155
  v50 := Tryd.zeroValue155
  i50 := by kernel_rfl
  t52 := Tryd.underlying157
  a52 := Tryd.isAgg157
  z52 := Tryd.sizeOf157
  v52 := Tryd.zeroValue157
  i52 := by kernel_rfl
  t55 := Tryd.underlying160
  a55 := Tryd.isAgg160
  z55 := Tryd.sizeOf160
  v55 := Tryd.zeroValue160
  i55 := by kernel_rfl
  t59 := Tryd.underlying163
  a59 := Tryd.isAgg163
  z59 := Tryd.sizeOf163
  v59 := Tryd.zeroValue163
  i59 := by kernel_rfl
  t60 := Tryd.underlying139
  a60 := Tryd.isAgg139
  z60 := Tryd.sizeOf139
  v60 := Tryd.zeroValue139
  i60 := by kernel_rfl
  t61 := Tryd.underlying164
  a61 := Tryd.isAgg164
  z61 := Tryd.sizeOf164
  t65 := Tryd.underlying168
  a65 := Tryd.isAgg168
  z65 := Tryd.sizeOf168
  v65 := Tryd.zeroValue168
  i65 := by kernel_rfl
  t66 := Tryd.underlying169
  a66 := Tryd.isAgg169
  z66 := Tryd.sizeOf169
  v66 := Tryd.zeroValue169
  i66 := by kernel_rfl
  t67 := Tryd.underlying85
  a67 := Tryd.isAgg85
  z67 := Tryd.sizeOf85
  v67 := Tryd.zeroValue85
  i67 := by kernel_rfl
  g0 := by kernel_rfl
  m0 := by kernel_rfl
  g1 := by kernel_rfl
  m1 := by kernel_rfl
  g2 := by kernel_rfl
  m2 := by kernel_rfl
  g3 := by kernel_rfl
  m3 := by kernel_rfl
  g4 := by kernel_rfl
  m4 := by kernel_rfl }
open Go.RowKit in
theorem Tryd.strconv_ParseUint_10_at64_ok (s : ByteArray) (hmax : s.size ≤ 9223372036854775806) (u : Nat) (h : Lib.parseUintB 64 s.data.toList = .ok u) (w : World) :
    Calls Tryd.prog 38 #[.string s, .int .i64 10, .int .i64 64] w fun e w' => e = .returned (.tuple #[.int .u64 u, .nilIface]) ∧ (w' = w ∨ w' = Lib.bytesWorld w 5 s) := Any.strconv_ParseUint_10_at64_ok Tryd.laysPu14 s hmax u h w
open Go.RowKit in
theorem Tryd.strconv_ParseUint_10_at64_range (s : ByteArray) (hlim : s.size ≤ 281474976710656) (h : Lib.parseUintB 64 s.data.toList = .range) (ev : Value) (w : World) (hv : w.cell? ⟨3, 0, none⟩ = some ev) (hev : ev = .nilIface ∨ ∃ te pe, ev = .iface te pe) :
    Calls Tryd.prog 38 #[.string s, .int .i64 10, .int .i64 64] w fun e w' => ∃ N, e = .returned (.tuple #[.int .u64 18446744073709551615, .iface 131 (.pointer (some ⟨N, 0, none⟩))]) ∧ w.heap.size ≤ N ∧ w'.heap[N]? = some (.cells #[.string ⟨#[80, 97, 114, 115, 101, 85, 105, 110, 116]⟩, .string s, ev] 144 (0, 0)) ∧ Below w.heap.size w w' := Any.strconv_ParseUint_10_at64_range Tryd.laysPu14 s hlim h ev w hv hev
def Tryd.lays145_ren : Go.Shelf.Ren := ⟨fun | 145 => 24 | 220 => 36 | 219 => 46 | 217 => 63 | 225 => 64 | 224 => 65 | 267 => 66 | 266 => 80 | 314 => 81 | n => n, fun | 9 => 9 | 4 => 4 | 59 => 79 | 3 => 3 | 5 => 5 | 46 => 128 | 146 => 140 | 51 => 139 | n => n, fun | 1 => 1 | n => n⟩
theorem Tryd.lays145 : Go.Proofs.Lays.n145 Tryd.prog Tryd.lays145_ren := {
  mixed := by kernel_rfl
  f145 := Tryd.func24.trans (congrArg some (by kernel_rfl))
  f217 := Tryd.func63.trans (congrArg some (by kernel_rfl))
  f219 := Tryd.func46.trans (congrArg some (by kernel_rfl))
  f220 := Tryd.func36.trans (congrArg some (by kernel_rfl))
  f224 := Tryd.func65.trans (congrArg some (by kernel_rfl))
  f225 := Tryd.func64.trans (congrArg some (by kernel_rfl))
  f266 := Tryd.func80.trans (congrArg some (by kernel_rfl))
  f267 := Tryd.func66.trans (congrArg some (by kernel_rfl))
  f314 := Tryd.func81.trans (congrArg some (by kernel_rfl))
  t3 := Tryd.underlying3
  a3 := Tryd.isAgg3
  z3 := Tryd.sizeOf3
  v3 := Tryd.zeroValue3
  t4 := Tryd.underlying4
  a4 := Tryd.isAgg4
  z4 := Tryd.sizeOf4
  v4 := Tryd.zeroValue4
  t5 := Tryd.underlying5
  a5 := Tryd.isAgg5
  z5 := Tryd.sizeOf5
  v5 := Tryd.zeroValue5
  t9 := Tryd.underlying9
  a9 := Tryd.isAgg9
  z9 := Tryd.sizeOf9
  v9 := Tryd.zeroValue9
  t46 := Tryd.underlying128
  a46 := Tryd.isAgg128
  z46 := Tryd.sizeOf128
  v46 := Tryd.zeroValue128
  t51 := Tryd.underlying139
  a51 := Tryd.isAgg139
  z51 := Tryd.sizeOf139
  v51 := Tryd.zeroValue139
  t59 := Tryd.underlying79
  a59 := Tryd.isAgg79
  z59 := Tryd.sizeOf79
  v59 := Tryd.zeroValue79
  t146 := Tryd.underlying140
  a146 := Tryd.isAgg140
  z146 := Tryd.sizeOf140
  v146 := Tryd.zeroValue140
  g1 := by kernel_rfl }
open Go.RowKit Go.Lib in
theorem Tryd.strings_Cut (s sep : ByteArray) (m : Int) (w : World) (hs : s.size < 4294967281) (hm : w.cell? ⟨1, 0, none⟩ = some (.int .i64 m)) :
    Calls Tryd.prog 24 #[.string s, .string sep] w fun e w' => e = .returned (.tuple #[.string ⟨(Lib.cut s.data.toList sep.data.toList).1.toArray⟩, .string ⟨(Lib.cut s.data.toList sep.data.toList).2.1.toArray⟩, .bool (Lib.cut s.data.toList sep.data.toList).2.2]) ∧ ∃ n, w' = w.drewN n := Any.strings_Cut Tryd.lays145 s sep m w hs hm
def Tryd.laysM145_ren : Go.Shelf.Ren := ⟨fun | 145 => 24 | 220 => 36 | 219 => 46 | 217 => 63 | 225 => 64 | 224 => 65 | 267 => 66 | 266 => 80 | 314 => 81 | n => n, fun | 9 => 9 | 4 => 4 | 59 => 79 | 3 => 3 | 5 => 5 | 46 => 128 | 146 => 140 | 51 => 139 | n => n, fun | 1 => 1 | n => n⟩
theorem Tryd.laysM145 : Go.Proofs.LaysM.n145 Tryd.prog Tryd.laysM145_ren := {
  mixed := by kernel_rfl
  f145 := Tryd.func24.trans (congrArg some (by kernel_rfl))
  f217 := Tryd.func63.trans (congrArg some (by kernel_rfl))
  f219 := Tryd.func46.trans (congrArg some (by kernel_rfl))
  f220 := Tryd.func36.trans (congrArg some (by kernel_rfl))
  f224 := Tryd.func65.trans (congrArg some (by kernel_rfl))
  f225 := Tryd.func64.trans (congrArg some (by kernel_rfl))
  f266 := Tryd.func80.trans (congrArg some (by kernel_rfl))
  f267 := Tryd.func66.trans (congrArg some (by kernel_rfl))
  f314 := Tryd.func81.trans (congrArg some (by kernel_rfl))
  t3 := Tryd.underlying3
  a3 := Tryd.isAgg3
  z3 := Tryd.sizeOf3
  v3 := Tryd.zeroValue3
  t4 := Tryd.underlying4
  a4 := Tryd.isAgg4
  z4 := Tryd.sizeOf4
  v4 := Tryd.zeroValue4
  t5 := Tryd.underlying5
  a5 := Tryd.isAgg5
  z5 := Tryd.sizeOf5
  v5 := Tryd.zeroValue5
  t9 := Tryd.underlying9
  a9 := Tryd.isAgg9
  z9 := Tryd.sizeOf9
  v9 := Tryd.zeroValue9
  t46 := Tryd.underlying128
  a46 := Tryd.isAgg128
  z46 := Tryd.sizeOf128
  v46 := Tryd.zeroValue128
  t51 := Tryd.underlying139
  a51 := Tryd.isAgg139
  z51 := Tryd.sizeOf139
  v51 := Tryd.zeroValue139
  t59 := Tryd.underlying79
  a59 := Tryd.isAgg79
  z59 := Tryd.sizeOf79
  v59 := Tryd.zeroValue79
  t146 := Tryd.underlying140
  a146 := Tryd.isAgg140
  z146 := Tryd.sizeOf140
  v146 := Tryd.zeroValue140
  g1 := by kernel_rfl
  i3 := by kernel_rfl
  i4 := by kernel_rfl
  i5 := by kernel_rfl
  i9 := by kernel_rfl
  i46 := by kernel_rfl
  i51 := by kernel_rfl
  i59 := by kernel_rfl
  i146 := by kernel_rfl
  m1 := by kernel_rfl
  s1_3 := fun w h => Go.Proofs.cell_of_shapedOpen_int (zero := #[.int .i64 0]) (t := 3) h (of_decide_eq_true (by kernel_rfl)) (by kernel_rfl) rfl (by kernel_rfl) (by kernel_rfl) Tryd.underlying3 }
open Go.RowKit Go.Lib in
theorem Tryd.strings_Cut_shaped (s sep : ByteArray) (w : World) (h : w.ShapedOpen Tryd.prog) (hs : s.size < 4294967281) :
    Calls Tryd.prog 24 #[.string s, .string sep] w fun e w' => e = .returned (.tuple #[.string ⟨(Lib.cut s.data.toList sep.data.toList).1.toArray⟩, .string ⟨(Lib.cut s.data.toList sep.data.toList).2.1.toArray⟩, .bool (Lib.cut s.data.toList sep.data.toList).2.2]) ∧ ∃ n, w' = w.drewN n := Any.strings_Cut_shaped Tryd.laysM145 s sep w h hs
def Tryd.lays206_ren : Go.Shelf.Ren := ⟨fun | 206 => 35 | n => n, fun | 9 => 9 | 4 => 4 | 3 => 3 | n => n, fun | n => n⟩
theorem Tryd.lays206 : Go.Proofs.Lays.n206 Tryd.prog Tryd.lays206_ren := {
  mixed := by kernel_rfl
  f206 := Tryd.func35.trans (congrArg some (by kernel_rfl))
  t3 := Tryd.underlying3
  a3 := Tryd.isAgg3
  z3 := Tryd.sizeOf3
  v3 := Tryd.zeroValue3
  t4 := Tryd.underlying4
  a4 := Tryd.isAgg4
  z4 := Tryd.sizeOf4
  v4 := Tryd.zeroValue4
  t9 := Tryd.underlying9
  a9 := Tryd.isAgg9
  z9 := Tryd.sizeOf9
  v9 := Tryd.zeroValue9 }
open Go.RowKit Go.Lib in
theorem Tryd.stringslite_HasPrefix (s p : ByteArray) (w : World) :
    Calls Tryd.prog 35 #[.string s, .string p] w fun e w' => e = .returned (.bool (Lib.hasPrefix s.data.toList p.data.toList)) ∧ w' = w := Any.stringslite_HasPrefix Tryd.lays206 s p w
def Tryd.lays99_ren : Go.Shelf.Ren := ⟨fun | 99 => 23 | 206 => 35 | n => n, fun | 9 => 9 | 4 => 4 | 3 => 3 | n => n, fun | n => n⟩
theorem Tryd.lays99 : Go.Proofs.Lays.n99 Tryd.prog Tryd.lays99_ren := {
  mixed := by kernel_rfl
  f99 := Tryd.func23.trans (congrArg some (by kernel_rfl))
  f206 := Tryd.func35.trans (congrArg some (by kernel_rfl))
  t3 := Tryd.underlying3
  a3 := Tryd.isAgg3
  z3 := Tryd.sizeOf3
  v3 := Tryd.zeroValue3
  t4 := Tryd.underlying4
  a4 := Tryd.isAgg4
  z4 := Tryd.sizeOf4
  v4 := Tryd.zeroValue4
  t9 := Tryd.underlying9
  a9 := Tryd.isAgg9
  z9 := Tryd.sizeOf9
  v9 := Tryd.zeroValue9 }
open Go.RowKit Go.Lib in
theorem Tryd.strings_HasPrefix (s p : ByteArray) (w : World) :
    Calls Tryd.prog 23 #[.string s, .string p] w fun e w' => e = .returned (.bool (Lib.hasPrefix s.data.toList p.data.toList)) ∧ w' = w := Any.strings_HasPrefix Tryd.lays99 s p w
end Go.Proofs

namespace Go.Proofs.YtkbhmcdoedmffaaDoor
set_option linter.unusedVariables false
set_option linter.unusedSimpArgs false
open Go.RowKit
set_option maxRecDepth 100000

/-- What is known of the program's variables: the powers of ten, and the errors of strconv. -/
def ErrAt (w : World) (b : Nat) : Prop := ∃ ev, w.cell? ⟨b, 0, none⟩ = some ev ∧ (ev = .nilIface ∨ ∃ te pe, ev = .iface te pe)
theorem one_arg {S : Nat → Prop} {w : World} {a : T1} {vs : List Value} (h : All2 (V1 ι0 S w) [a] vs) : ∃ u, vs = [u] ∧ V1 ι0 S w a u := by
  obtain ⟨u, rfl, e⟩ := h.one_left
  exact ⟨u, rfl, e⟩
theorem two_args {S : Nat → Prop} {w : World} {a b : T1} {vs : List Value} (h : All2 (V1 ι0 S w) [a, b] vs) : ∃ u v, vs = [u, v] ∧ V1 ι0 S w a u ∧ V1 ι0 S w b v := by
  obtain ⟨u, vs, rfl, e0, h⟩ := h.cons_left
  obtain ⟨v, rfl, e1⟩ := h.one_left
  exact ⟨u, v, rfl, e0, e1⟩
theorem open_v {S : Nat → Prop} {w : World} {v u : Value} (h : V1 ι0 S w (c1 (.v v)) u) : u = v := by
  have h' : Imm S w _ u := h
  cases h'; rfl
theorem three_args {S : Nat → Prop} {w : World} {a b c : T1} {vs : List Value} (h : All2 (V1 ι0 S w) [a, b, c] vs) : ∃ u v x, vs = [u, v, x] ∧ V1 ι0 S w a u ∧ V1 ι0 S w b v ∧ V1 ι0 S w c x := by
  obtain ⟨u, vs, rfl, e0, h⟩ := h.cons_left
  obtain ⟨v, x, rfl, e1, e2⟩ := two_args h
  exact ⟨u, v, x, rfl, e0, e1, e2⟩
def signsAt (w : World) (g : Nat) : Prop := ∀ j l, signsL[j]? = some l → w.cell? ⟨g, j, none⟩ = some (.string (bs l))
/-- What is known of the program's variables: strconv's errors, the library's MaxLen, the signs. -/
def ΓL : Glob := ⟨fun S w => (ErrAt w 2 ∧ S 2) ∧ (ErrAt w 3 ∧ S 3) ∧ (∃ m, w.cell? ⟨1, 0, none⟩ = some (.int .i64 m) ∧ S 1) ∧ signsAt w 0 ∧ S 0,
  fun {S S' w w'} hw hS ⟨⟨⟨ev, h1, h2⟩, h3⟩, ⟨⟨er, h4, h5⟩, h6⟩, ⟨m, h7, h8⟩, h9, h10⟩ => ⟨⟨⟨ev, by rw [cell_same (hw _ h3)]; exact h1, h2⟩, hS _ h3⟩, ⟨⟨er, by rw [cell_same (hw _ h6)]; exact h4, h5⟩, hS _ h6⟩, ⟨m, by rw [cell_same (hw _ h8)]; exact h7, hS _ h8⟩, fun j l hj => by rw [cell_same (hw _ h10)]; exact h9 j l hj, hS _ h10⟩,
  [], fun g => match Nat.beq g 0 with
    | true => some (signsL.map fun l => ds (bs l))
    | false => none,
  fun {S w g cs} hG hg => by
    split at hg
    · rename_i hb
      obtain rfl := Nat.eq_of_beq_eq_true hb
      cases hg
      obtain ⟨-, -, -, h9, h10⟩ := hG
      refine ⟨fun j => .string (bs (signsL.getD j [])), fun _ => h10, fun j d hj => ?_⟩
      rw [List.getElem?_map] at hj
      obtain ⟨l, h1, rfl⟩ := Option.map_eq_some_iff.1 hj
      have : signsL.getD j [] = l := by rw [List.getD, h1]; rfl
      dsimp only
      rw [this]
      exact ⟨h9 j l h1, Imm.v rfl⟩
    · cases hg⟩
theorem CallsA.gL {f : FuncId} {xs : List T1} {r : TV} (h : CallsA Tryd.prog Γ0 f xs r) : CallsA Tryd.prog ΓL f xs r := ⟨h.1, fun S w vs hS _ hv => h.2 S w vs hS trivial hv⟩
theorem trimLeft_c (Γ : Glob) (r cs : List UInt8) (hcs : cs.length < 4294967281) (ha : (cs.all fun b => decide (b.toNat < 128)) = true) :
    CallsA Tryd.prog Γ 34 [c1 (ds (bs r)), c1 (ds (bs cs))] (Tstr (bs (r.dropWhile (cs.contains ·)))) :=
  ⟨⟨_, Tryd.func34, by kernel_rfl, rfl⟩, fun S w vs hS hG hvs => by
    obtain ⟨u, v, rfl, e1, e2⟩ := two_args hvs
    obtain rfl := open_v e1
    obtain rfl := open_v e2
    refine (Any.strings_TrimLeft_laid Tryd.lays161 (by kernel_rfl) (bs r) (bs cs) w (by rw [bs_size]; exact hcs) (fun j b hb => of_decide_eq_true (List.all_eq_true.1 ha b (List.mem_of_getElem? hb)))).mono fun e w' ⟨he, hb⟩ => ?_
    subst he
    exact flat_end hS hb (Imm.v rfl)⟩
theorem prefix_c (Γ : Glob) (r p : List UInt8) : CallsA Tryd.prog Γ 23 [c1 (ds (bs r)), c1 (ds (bs p))] (Tb (Lib.hasPrefix r p)) :=
  ⟨⟨_, Tryd.func23, by kernel_rfl, rfl⟩, fun S w vs hS hG hvs => by
    obtain ⟨u, v, rfl, e1, e2⟩ := two_args hvs
    obtain rfl := open_v e1
    obtain rfl := open_v e2
    refine (Tryd.strings_HasPrefix (bs r) (bs p) w).mono fun e w' ⟨he, hb⟩ => ?_
    subst he; subst hb
    exact flat_end hS (Below.refl _ _) (Imm.v rfl)⟩
theorem lprefix_c (Γ : Glob) (r p : List UInt8) : CallsA Tryd.prog Γ 35 [c1 (ds (bs r)), c1 (ds (bs p))] (Tb (Lib.hasPrefix r p)) :=
  ⟨⟨_, Tryd.func35, by kernel_rfl, rfl⟩, fun S w vs hS hG hvs => by
    obtain ⟨u, v, rfl, e1, e2⟩ := two_args hvs
    obtain rfl := open_v e1
    obtain rfl := open_v e2
    refine (Tryd.stringslite_HasPrefix (bs r) (bs p) w).mono fun e w' ⟨he, hb⟩ => ?_
    subst he; subst hb
    exact flat_end hS (Below.refl _ _) (Imm.v rfl)⟩
theorem cut_c (r p : List UInt8) (hr : r.length < 4294967281) : CallsA Tryd.prog ΓL 24 [c1 (ds (bs r)), c1 (ds (bs p))] (.tup [c1 (ds (bs (Lib.cut r p).1)), c1 (ds (bs (Lib.cut r p).2.1)), c1 (db (Lib.cut r p).2.2)]) :=
  ⟨⟨_, Tryd.func24, by kernel_rfl, rfl⟩, fun S w vs hS hG hvs => by
    obtain ⟨u, v, rfl, e1, e2⟩ := two_args hvs
    obtain rfl := open_v e1
    obtain rfl := open_v e2
    obtain ⟨-, -, ⟨m, hm, -⟩, -⟩ := hG
    refine (Tryd.strings_Cut (bs r) (bs p) m w (by rw [bs_size]; exact hr) hm).mono fun e w' ⟨he, n, hb⟩ => ?_
    subst he; subst hb
    exact flat_end hS ((Below.refl _ _).trans ⟨rfl, rfl, rfl, Nat.le_refl _, fun _ _ => rfl⟩) ⟨[_, _, _], rfl, .cons (Imm.v rfl) (.cons (Imm.v rfl) (.cons (Imm.v rfl) .nil))⟩⟩
theorem ext_drop (r : List UInt8) (n : Nat) (h : n ≤ r.length) : (bs r).extract (n : Int).toNat ((bs r).size : Int).toNat = bs (r.drop n) := by
  apply ByteArray.ext
  rw [ByteArray.data_extract, Int.toNat_natCast, Int.toNat_natCast, bs_size]
  apply Array.ext'
  simp only [List.extract_toArray, List.extract_eq_take_drop]
  exact List.take_of_length_le (by simp)
theorem ext_take (r : List UInt8) (n : Nat) : (bs r).extract (0 : Int).toNat (n : Int).toNat = bs (r.take n) := by
  apply ByteArray.ext
  rw [ByteArray.data_extract, Int.toNat_natCast]
  apply Array.ext'
  simp [List.extract_eq_take_drop]
end Go.Proofs.YtkbhmcdoedmffaaDoor

namespace Go.Proofs.YtkbhmcdoedmffaaDoor
set_option linter.unusedVariables false
set_option linter.unusedSimpArgs false
open Go.RowKit
set_option maxRecDepth 100000

theorem u8_all {p q : UInt8 → Bool} (h : ∀ n : Fin 256, p (UInt8.ofNat n.val) = q (UInt8.ofNat n.val)) (b : UInt8) : p b = q b := by
  have := h ⟨b.toNat, b.toNat_lt⟩
  rwa [show UInt8.ofNat (⟨b.toNat, b.toNat_lt⟩ : Fin 256).val = b by simp] at this
def digS : List UInt8 := [48, 49, 50, 51, 52, 53, 54, 55, 56, 57]
def hexS : List UInt8 := [48, 49, 50, 51, 52, 53, 54, 55, 56, 57, 97, 98, 99, 100, 101, 102, 65, 66, 67, 68, 69, 70]
def runS : List UInt8 := [65, 66, 67, 68, 69, 70, 71, 72, 73, 74, 75, 76, 77, 78, 79, 80, 81, 82, 83, 84, 85, 86, 87, 88, 89, 90, 97, 98, 99, 100, 101, 102, 103, 104, 105, 106, 107, 108, 109, 110, 111, 112, 113, 114, 115, 116, 117, 118, 119, 120, 121, 122, 95, 48, 49, 50, 51, 52, 53, 54, 55, 56, 57]
def blankS : List UInt8 := [32, 9, 10, 13]
theorem digS_eq (b : UInt8) : digS.contains b = isDig b := u8_all (p := digS.contains) (q := isDig) (by decide +kernel) b
theorem hexS_eq (b : UInt8) : hexS.contains b = isHex b := u8_all (p := hexS.contains) (q := isHex) (by decide +kernel) b
theorem runS_eq (b : UInt8) : runS.contains b = alnum b := u8_all (p := runS.contains) (q := alnum) (by decide +kernel) b
theorem blankS_eq (b : UInt8) : blankS.contains b = blank b := u8_all (p := blankS.contains) (q := blank) (by decide +kernel) b
theorem drop_len (p : UInt8 → Bool) : ∀ l : List UInt8, (l.dropWhile p).length + (l.takeWhile p).length = l.length
  | [] => rfl
  | a :: l => by
    rw [List.dropWhile_cons, List.takeWhile_cons]
    have := drop_len p l
    split <;> simp <;> omega
theorem take_all (p : UInt8 → Bool) : ∀ l : List UInt8, (l.takeWhile p).length = l.length ↔ l.all p = true
  | [] => by simp
  | a :: l => by
    have := take_all p l
    have h9 : (l.takeWhile p).length ≤ l.length := by have := drop_len p l; omega
    rw [List.takeWhile_cons, List.all_cons]
    split
    · rename_i h
      rw [h, Bool.true_and, List.length_cons, List.length_cons, ← this]
      omega
    · rename_i h
      simp [h]
theorem run_c (cs : List UInt8) (p : UInt8 → Bool) (hp : ∀ b, cs.contains b = p b) (hcs : cs.length < 4294967281) (ha : (cs.all fun b => decide (b.toNat < 128)) = true) (r : List UInt8) (hr : r.length ≤ 16384) :
    CallsA Tryd.prog Γ0 22 [c1 (ds (bs r)), c1 (ds (bs cs))] (Ti ((r.takeWhile p).length : Nat)) := by
  have hd := drop_len p r
  have hpe : (fun b => cs.contains b) = p := funext hp
  have ht := trimLeft_c Γ0 r cs hcs ha
  rw [hpe] at ht
  refine fn_rule (C := ⟨Tryd.prog, layF, Tryd.f22.ntmps, Γ0, 0, [], []⟩) layF_ok mixed Tryd.func22 rfl (by kernel_rfl) rfl rfl rfl ?_
  refine ex_call (ht) ?_
  refine ex_i64 ((r.takeWhile p).length : Nat) (by rw [bs_size, bs_size]; omega) (by omega) (by omega) ?_
  exact TLe.rfl
theorem runD_c (r : List UInt8) (hr : r.length ≤ 16384) : CallsA Tryd.prog Γ0 22 [c1 (ds (bs r)), c1 (ds (bs digS))] (Ti ((r.takeWhile isDig).length : Nat)) := run_c digS isDig digS_eq (by decide) (by decide) r hr
theorem runH_c (r : List UInt8) (hr : r.length ≤ 16384) : CallsA Tryd.prog Γ0 22 [c1 (ds (bs r)), c1 (ds (bs hexS))] (Ti ((r.takeWhile isHex).length : Nat)) := run_c hexS isHex hexS_eq (by decide) (by decide) r hr
theorem runR_c (r : List UInt8) (hr : r.length ≤ 16384) : CallsA Tryd.prog Γ0 22 [c1 (ds (bs r)), c1 (ds (bs runS))] (Ti ((r.takeWhile alnum).length : Nat)) := run_c runS alnum runS_eq (by decide) (by decide) r hr
theorem runB_c (r : List UInt8) (hr : r.length ≤ 16384) : CallsA Tryd.prog Γ0 22 [c1 (ds (bs r)), c1 (ds (bs blankS))] (Ti ((r.takeWhile blank).length : Nat)) := run_c blankS blank blankS_eq (by decide) (by decide) r hr
/-- The scan's object. -/
abbrev Sc (r : List UInt8) (p : Nat × Nat) : Blk := .obj [.d (ds (bs r)), .d (di (p.1 : Nat)), .d (di (p.2 : Nat))]
theorem byteRows_ln (l : List UInt8) : (byteRows l).length = l.length := by simp [byteRows]
theorem ex_byte {bs : List UInt8} {n : Int} (i : Nat) (x : UInt8) (hn : n = i) (hx : bs[i]? = some x) {K : List D → Prop} (h : K [.v (.int .u8 x.toNat)]) : ∃ r, 0 ≤ n ∧ (byteRows bs)[n.toNat]? = some r ∧ K r := by
  subst hn
  exact ⟨_, by omega, by simp [byteRows, hx], h⟩
theorem skip_c (r : List UInt8) (p : Nat × Nat) (n : Nat) (hr : r.length ≤ 16384) (hn : n ≤ r.length) (hp1 : p.1 ≤ 100000) (hp2 : p.2 ≤ 100000) :
    CallsM Tryd.prog Γ0 14 [(0, Sc r p)] 1 [.c (.ptr 0 0), c1 (di n)] (.tup []) [(0, Sc (r.drop n) ((r.take n).foldl skipP p))] [] := by
  obtain ⟨T, hT⟩ : ∃ T, r.take n = T := ⟨_, rfl⟩
  have hTl : T.length = n := by rw [← hT, List.length_take]; omega
  rw [hT]
  obtain ⟨Q, hQ⟩ : ∃ Q, T.foldl skipP p = Q := ⟨_, rfl⟩
  rw [hQ]
  have hrs := bs_size r
  refine fn_ruleM (C := ⟨Tryd.prog, layF, Tryd.f14.ntmps, Γ0, 1, [], []⟩) layF_ok mixed Tryd.func14 rfl (by kernel_rfl) rfl rfl rfl ?_
  refine ⟨by omega, by omega, by omega, ?_⟩
  rw [ext_take, hT]
  refine ex_is n (by rw [byteRows_ln]; exact hTl) ?_
  refine ex_loop (X := Nat × Nat × Nat) (fun ⟨q, u, v⟩ => ⟨[(0, .o (.c (.ptr 0 0))), (1, Ti n), (12, .o (c1 (.sl 1 (byteRows T)))), (13, Ti n), (14, Ti q)], [(0, .obj [.d (ds (bs r)), .d (di (u : Nat)), .d (di (v : Nat))])], 1⟩) (fun x => n - x.1)
    (fun ⟨q, u, v⟩ => q ≤ n ∧ u ≤ p.1 + q ∧ v ≤ p.2 + q + 1 ∧ (T.drop q).foldl skipP (u, v) = Q) (0, p.1, p.2) ⟨Nat.zero_le _, Nat.le_refl _, by show p.2 ≤ _; omega, hQ⟩ (SLe.of ⟨⟨rfl, rfl, rfl, rfl, rfl, trivial⟩, ⟨rfl, trivial⟩⟩) ?_
  rintro ⟨q, u, v⟩ ⟨hq, hu, hv, hs⟩
  refine ex_dec (fun h => ?_) (fun h => ?_)
  · have hql : q < T.length := by omega
    have hc : T[q]? = some T[q] := at_some hql
    rw [List.drop_eq_getElem_cons hql, List.foldl_cons] at hs
    generalize T[q] = c at *
    refine ex_byte q c rfl hc ?_
    refine ex_i64 (((v + 1 : Nat) : Int)) (by first | rfl | omega | simp) (by omega) (by omega) ?_
    refine ex_chr 0 10 rfl rfl ?_
    refine ex_dec (fun h2 => ?_) (fun h2 => ?_)
    · have hc10 : c = 10 := UInt8.toNat_inj.1 (Int.ofNat_inj.1 h2)
      rw [show skipP (u, v) c = (u + 1, 1) from if_pos hc10] at hs
      refine ex_i64 (((u + 1 : Nat) : Int)) (by first | rfl | omega | simp) (by omega) (by omega) ?_
      refine ex_i64 (((q + 1 : Nat) : Int)) (by first | rfl | omega | simp) (by omega) (by omega) ?_
      exact ex_round (q + 1, u + 1, 1) ⟨by omega, by omega, by omega, hs⟩ (by show _ - _ < _ - _; omega) (SLe.of ⟨⟨rfl, rfl, rfl, rfl, rfl, trivial⟩, ⟨rfl, trivial⟩⟩)
    · have hc10 : c ≠ 10 := fun e => h2 (by rw [e])
      rw [show skipP (u, v) c = (u, v + 1) from if_neg hc10] at hs
      refine ex_i64 (((q + 1 : Nat) : Int)) (by first | rfl | omega | simp) (by omega) (by omega) ?_
      exact ex_round (q + 1, u, v + 1) ⟨by omega, by omega, by omega, hs⟩ (by show _ - _ < _ - _; omega) (SLe.of ⟨⟨rfl, rfl, rfl, rfl, rfl, trivial⟩, ⟨rfl, trivial⟩⟩)
  · rw [List.drop_eq_nil_of_le (by omega), List.foldl_nil] at hs
    subst hs
    refine ⟨by omega, by omega, by omega, ?_⟩
    rw [ext_drop r n hn]
    exact ⟨rfl, TLe.rfl, rfl, rfl⟩
theorem cutpre_c (r p : List UInt8) : CallsA Tryd.prog Γ0 47 [c1 (ds (bs r)), c1 (ds (bs p))] (.tup [c1 (ds (bs (if Lib.hasPrefix r p then r.drop p.length else r))), c1 (db (Lib.hasPrefix r p))]) := by
  have hin : CallsA Tryd.prog Γ0 67 [c1 (ds (bs r)), c1 (ds (bs p))] (.tup [c1 (ds (bs (if Lib.hasPrefix r p then r.drop p.length else r))), c1 (db (Lib.hasPrefix r p))]) := by
    have hrs := bs_size r
    have hps := bs_size p
    refine fn_rule (C := ⟨Tryd.prog, layF, Tryd.f67.ntmps, Γ0, 0, [], []⟩) layF_ok mixed Tryd.func67 rfl (by kernel_rfl) rfl rfl rfl ?_
    refine ex_call (lprefix_c Γ0 r p) ?_
    rcases h : Lib.hasPrefix r p with _ | _
    · repeat' (first | refine ex_true (by first | decide | omega | assumption | (with_reducible exact rfl)) ?_ | refine ex_false (by first | decide | omega | assumption | exact (fun h => h rfl)) ?_ | refine ex_dec (fun _ => ?_) (fun _ => ?_) | refine ex_u8 _ rfl (by omega) (by omega) ?_ | refine ex_i64 _ rfl (by omega) (by omega) ?_ | refine ex_u64 _ rfl (by omega) (by omega) ?_ | refine and_mk (by first | omega | (with_reducible rfl) | (show drawOk _ _ _ = true; kernel_rfl)) ?_ | refine and_mk ⟨_, rfl⟩ ?_ | refine ex_is _ (List.length_map _) ?_ | refine ex_is _ List.length_nil ?_ | fail "no step")
      exact TLe.rfl
    · have hl : p.length ≤ r.length := by
        obtain ⟨X, rfl⟩ := List.isPrefixOf_iff_prefix.1 h
        rw [List.length_append]; omega
      repeat' (first | refine ex_true (by first | decide | omega | assumption | (with_reducible exact rfl)) ?_ | refine ex_false (by first | decide | omega | assumption | exact (fun h => h rfl)) ?_ | refine ex_dec (fun _ => ?_) (fun _ => ?_) | refine ex_u8 _ rfl (by omega) (by omega) ?_ | refine ex_i64 _ rfl (by omega) (by omega) ?_ | refine ex_u64 _ rfl (by omega) (by omega) ?_ | refine and_mk (by first | omega | (with_reducible rfl) | (show drawOk _ _ _ = true; kernel_rfl)) ?_ | refine and_mk ⟨_, rfl⟩ ?_ | refine ex_is _ (List.length_map _) ?_ | refine ex_is _ List.length_nil ?_ | fail "no step")
      rw [hps, ext_drop r p.length hl]
      exact TLe.rfl
  refine fn_rule (C := ⟨Tryd.prog, layF, Tryd.f47.ntmps, Γ0, 0, [], []⟩) layF_ok mixed Tryd.func47 rfl (by kernel_rfl) rfl rfl rfl ?_
  refine ex_call (hin) ?_
  exact TLe.rfl
theorem size_pos {l : List UInt8} (h : l ≠ []) : bs l ≠ ByteArray.empty := fun e => h (by
  have := congrArg ByteArray.size e
  rw [bs_size] at this
  exact List.length_eq_zero_iff.1 this)
/-- A run as a number's digits, and in what. -/
def digF (s : List UInt8) : List UInt8 × Nat := if sixteen s then (s.drop 2, 16) else if s.all isDig then (s, 10) else ([], 0)
theorem digits_c (s : List UInt8) (hs : s.length ≤ 16384) : CallsA Tryd.prog Γ0 37 [c1 (ds (bs s))] (.tup [c1 (ds (bs (digF s).1)), c1 (di ((digF s).2 : Nat))]) := by
  have hsz := bs_size s
  have h1 := runD_c s hs
  have ha := take_all isDig s
  have hcut := cutpre_c s [48, 120]
  unfold digF sixteen
  rw [show [48, 120].isPrefixOf s = Lib.hasPrefix s [48, 120] from rfl]
  have hA : if s.all isDig then (s.takeWhile isDig).length = s.length else (s.takeWhile isDig).length ≠ s.length := by
    split
    · rename_i h; exact ha.2 h
    · rename_i h; exact fun e => h (ha.1 e)
  rcases hp : Lib.hasPrefix s [48, 120] with _ | _ <;> rw [hp] at hcut
  · rcases hd : s.all isDig with _ | _ <;> rw [hd] at hA <;> simp only [if_true, if_false, Bool.false_eq_true] at hA
    all_goals
      refine fn_rule (C := ⟨Tryd.prog, layF, Tryd.f37.ntmps, Γ0, 0, [], []⟩) layF_ok mixed Tryd.func37 rfl (by kernel_rfl) rfl rfl rfl ?_
      repeat' (first | refine ex_call h1 ?_ | refine ex_call hcut ?_ | refine ex_true (by first | decide | omega | assumption | (with_reducible exact rfl)) ?_ | refine ex_false (by first | decide | omega | assumption | exact (fun h => h rfl)) ?_ | refine ex_dec (fun _ => ?_) (fun _ => ?_) | refine ex_u8 _ rfl (by omega) (by omega) ?_ | refine ex_i64 _ rfl (by omega) (by omega) ?_ | refine ex_u64 _ rfl (by omega) (by omega) ?_ | refine and_mk (by first | omega | (with_reducible rfl) | (show drawOk _ _ _ = true; kernel_rfl)) ?_ | refine and_mk ⟨_, rfl⟩ ?_ | refine ex_is _ (List.length_map _) ?_ | refine ex_is _ List.length_nil ?_ | fail "no step")
      exact TLe.rfl
  · obtain ⟨x, hx⟩ : ∃ x, s.drop 2 = x := ⟨_, rfl⟩
    have hcut : CallsA Tryd.prog Γ0 47 [c1 (ds (bs s)), c1 (ds (bs [48, 120]))] (.tup [c1 (ds (bs x)), c1 (db true)]) := hx ▸ hcut
    have hxl : x.length = s.length - 2 := by rw [← hx, List.length_drop]
    have h2 := runH_c x (by omega)
    have ha2 := take_all isHex x
    have hxs := bs_size x
    rw [hx]
    have hA2 : if x.all isHex then (x.takeWhile isHex).length = x.length else (x.takeWhile isHex).length ≠ x.length := by
      split
      · rename_i h; exact ha2.2 h
      · rename_i h; exact fun e => h (ha2.1 e)
    rcases x with _ | ⟨c, y⟩
    · rw [show (decide (2 < s.length)) = false from decide_eq_false (by simp at hxl; omega)]
      rcases hd : s.all isDig with _ | _ <;> rw [hd] at hA <;> simp only [if_true, if_false, Bool.false_eq_true] at hA
      all_goals
        refine fn_rule (C := ⟨Tryd.prog, layF, Tryd.f37.ntmps, Γ0, 0, [], []⟩) layF_ok mixed Tryd.func37 rfl (by kernel_rfl) rfl rfl rfl ?_
        repeat' (first | refine ex_call h1 ?_ | refine ex_call hcut ?_ | refine ex_true (by first | decide | omega | assumption | (with_reducible exact rfl)) ?_ | refine ex_false (by first | decide | omega | assumption | exact (fun h => h rfl)) ?_ | refine ex_dec (fun _ => ?_) (fun _ => ?_) | refine ex_u8 _ rfl (by omega) (by omega) ?_ | refine ex_i64 _ rfl (by omega) (by omega) ?_ | refine ex_u64 _ rfl (by omega) (by omega) ?_ | refine and_mk (by first | omega | (with_reducible rfl) | (show drawOk _ _ _ = true; kernel_rfl)) ?_ | refine and_mk ⟨_, rfl⟩ ?_ | refine ex_is _ (List.length_map _) ?_ | refine ex_is _ List.length_nil ?_ | fail "no step")
        exact TLe.rfl
    · have hne := size_pos (l := c :: y) (by simp)
      rw [show (decide (2 < s.length)) = true from decide_eq_true (by simp at hxl; omega)]
      generalize c :: y = x at *
      rcases he : x.all isHex with _ | _ <;> rw [he] at hA2 <;> simp only [if_true, if_false, Bool.false_eq_true] at hA2
      · rcases hd : s.all isDig with _ | _ <;> rw [hd] at hA <;> simp only [if_true, if_false, Bool.false_eq_true] at hA
        all_goals
          refine fn_rule (C := ⟨Tryd.prog, layF, Tryd.f37.ntmps, Γ0, 0, [], []⟩) layF_ok mixed Tryd.func37 rfl (by kernel_rfl) rfl rfl rfl ?_
          repeat' (first | refine ex_call h2 ?_ | refine ex_call h1 ?_ | refine ex_call hcut ?_ | refine ex_true (by first | decide | omega | assumption | (with_reducible exact rfl)) ?_ | refine ex_false (by first | decide | omega | assumption | exact (fun h => h rfl)) ?_ | refine ex_dec (fun _ => ?_) (fun _ => ?_) | refine ex_u8 _ rfl (by omega) (by omega) ?_ | refine ex_i64 _ rfl (by omega) (by omega) ?_ | refine ex_u64 _ rfl (by omega) (by omega) ?_ | refine and_mk (by first | omega | (with_reducible rfl) | (show drawOk _ _ _ = true; kernel_rfl)) ?_ | refine and_mk ⟨_, rfl⟩ ?_ | refine ex_is _ (List.length_map _) ?_ | refine ex_is _ List.length_nil ?_ | fail "no step")
          all_goals first | exact TLe.rfl | exact absurd ‹_› hne
      ·
        refine fn_rule (C := ⟨Tryd.prog, layF, Tryd.f37.ntmps, Γ0, 0, [], []⟩) layF_ok mixed Tryd.func37 rfl (by kernel_rfl) rfl rfl rfl ?_
        repeat' (first | refine ex_call h2 ?_ | refine ex_call h1 ?_ | refine ex_call hcut ?_ | refine ex_true (by first | decide | omega | assumption | (with_reducible exact rfl)) ?_ | refine ex_false (by first | decide | omega | assumption | exact (fun h => h rfl)) ?_ | refine ex_dec (fun _ => ?_) (fun _ => ?_) | refine ex_u8 _ rfl (by omega) (by omega) ?_ | refine ex_i64 _ rfl (by omega) (by omega) ?_ | refine ex_u64 _ rfl (by omega) (by omega) ?_ | refine and_mk (by first | omega | (with_reducible rfl) | (show drawOk _ _ _ = true; kernel_rfl)) ?_ | refine and_mk ⟨_, rfl⟩ ?_ | refine ex_is _ (List.length_map _) ?_ | refine ex_is _ List.length_nil ?_ | fail "no step")
        all_goals first | exact TLe.rfl | exact absurd ‹_› hne
end Go.Proofs.YtkbhmcdoedmffaaDoor
