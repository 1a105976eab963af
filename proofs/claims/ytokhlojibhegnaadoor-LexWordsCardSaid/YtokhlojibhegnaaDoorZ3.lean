/- Texts that the last one leans on: The types' table of this program, as literals. No condition. Rules for walking code over the abstract state. No condition. A row that is written no more is data wherever it is named. No condition. General lemmas that this repo's proofs share: the class of worlds that extend a world, a region that draws its order walked once in that class, small closers. No condition. What every law's row needs: from 'the call returns true and only makes memory' to the row's own words; arguments opened by their types. No condition. Plain law of the lexer: lexF, byte by byte; blanks and comments passed over; lines; tokens joined; the limits. No condition. What the lexer's text asks of the library: TrimLeft, HasPrefix, CutPrefix, Cut; ParseUint at bases 10 and 16. Conditions: ASCII sets; digits of the base; the listed variables. A walk by itself: tests are split (those that cannot be are left away), reckonings that stay within bounds, ends of drawing regions, calls met by the contracts named. No condition. The lexer's small functions: run, skip, pass, digits. Condition: at most 16384 bytes. The lexer's pass; ParseUint at bases 10 and 16; number. Condition: at most 16384 bytes; digits of the base; the listed variables. The lexer's number and token. Condition: at most 16384 bytes; the listed variables. The lexer: Lex, Name. Condition: the listed variables. The lexer: Name, Join. Condition: Join: the text within one allocation. The document's lexer: digit, letter,  -/
import Derived.Test.YtokhlojibhegnaaDoorRows
import Derived.WalkKit
import Derived.WalkSpells
import Derived.WalkLawsBesides
import Derived.BigQuiet
import Derived.Lib.Hide
import Derived.Handy
import Derived.StillTail
import Derived.Lib.ConvBytes
import Derived.ProofKit
import Derived.SizedLaws
import Derived.OpenShut
import Derived.Shelf.Strings.SlTrimAscii
import Derived.Laws.StructEq
import Derived.Test.YtokhlojibhegnaaDoorZ1
import Derived.Test.YtokhlojibhegnaaDoorZ2
namespace Go.Proofs.YtokhlojibhegnaaDoor
set_option linter.unusedVariables false
set_option linter.unusedSimpArgs false

def lay : List (Nat × Lay) := [
  (1, ⟨1, 8, [.nilFunc], .other⟩),
  (2, ⟨1, 8, [.int .i64 0], .int .i64⟩),
  (3, ⟨1, 8, [.int .i64 0], .int .i64⟩),
  (4, ⟨1, 1, [.bool false], .bool⟩),
  (5, ⟨1, 1, [.int .u8 0], .int .u8⟩),
  (6, ⟨1, 1, [.int .u8 0], .int .u8⟩),
  (7, ⟨4, 24, [.int .i64 0, .int .i64 0, .bool false, .int .u8 0], .st [(0, 1, false), (1, 1, false), (2, 1, false), (3, 1, false)]⟩),
  (8, ⟨4, 24, [.int .i64 0, .int .i64 0, .bool false, .int .u8 0], .st [(0, 1, false), (1, 1, false), (2, 1, false), (3, 1, false)]⟩),
  (9, ⟨1, 16, [.string ⟨#[]⟩], .str⟩),
  (10, ⟨1, 16, [.string ⟨#[]⟩], .str⟩),
  (11, ⟨1, 16, [.string ⟨#[]⟩], .str⟩),
  (12, ⟨1, 8, [.int .u64 0], .int .u64⟩),
  (13, ⟨2, 24, [.string ⟨#[]⟩, .int .u64 0], .st [(0, 1, false), (1, 1, false)]⟩),
  (14, ⟨2, 24, [.string ⟨#[]⟩, .int .u64 0], .st [(0, 1, false), (1, 1, false)]⟩),
  (15, ⟨1, 8, [.pointer none], .other⟩),
  (16, ⟨1, 8, [.pointer none], .other⟩),
  (17, ⟨1, 8, [.pointer none], .other⟩),
  (18, ⟨1, 8, [.pointer none], .st [(0, 1, false)]⟩),
  (19, ⟨1, 8, [.pointer none], .st [(0, 1, false)]⟩),
  (20, ⟨1, 16, [.nilIface], .other⟩),
  (21, ⟨1, 4, [.int .i32 0], .int .i32⟩),
  (22, ⟨1, 24, [.slice none 0 0], .sl 36⟩),
  (23, ⟨2, 16, [.int .i64 0, .int .i64 0], .st [(0, 1, false), (1, 1, false)]⟩),
  (24, ⟨2, 16, [.int .i64 0, .int .i64 0], .st [(0, 1, false), (1, 1, false)]⟩),
  (25, ⟨1, 8, [.int .i64 0], .int .i64⟩),
  (27, ⟨1, 8, [.nilFunc], .other⟩),
  (28, ⟨1, 24, [.slice none 0 0], .sl 38⟩),
  (29, ⟨2, 16, [.int .i64 0, .int .i64 0], .arr 2 3⟩),
  (31, ⟨1, 8, [.nilFunc], .other⟩),
  (32, ⟨1, 8, [.nilFunc], .other⟩),
  (33, ⟨1, 8, [.int .i64 0], .int .i64⟩),
  (34, ⟨1, 8, [.int .u64 0], .int .u64⟩),
  (35, ⟨5, 48, [.int .i64 0, .string ⟨#[]⟩, .int .u64 0, .int .i64 0, .int .i64 0], .st [(0, 1, false), (1, 1, false), (2, 1, false), (3, 2, true)]⟩),
  (36, ⟨5, 48, [.int .i64 0, .string ⟨#[]⟩, .int .u64 0, .int .i64 0, .int .i64 0], .st [(0, 1, false), (1, 1, false), (2, 1, false), (3, 2, true)]⟩),
  (37, ⟨5, 48, [.int .i64 0, .string ⟨#[]⟩, .int .u64 0, .int .i64 0, .int .i64 0], .st [(0, 1, false), (1, 1, false), (2, 1, false), (3, 1, false), (4, 1, false)]⟩),
  (38, ⟨5, 48, [.int .i64 0, .string ⟨#[]⟩, .int .u64 0, .int .i64 0, .int .i64 0], .st [(0, 1, false), (1, 1, false), (2, 1, false), (3, 1, false), (4, 1, false)]⟩),
  (39, ⟨1, 8, [.nilFunc], .other⟩),
  (40, ⟨1, 8, [.nilFunc], .other⟩),
  (41, ⟨1, 8, [.nilFunc], .other⟩),
  (42, ⟨1, 8, [.nilFunc], .other⟩),
  (44, ⟨1, 8, [.nilFunc], .other⟩),
  (45, ⟨1, 8, [.nilFunc], .other⟩),
  (46, ⟨1, 8, [.nilFunc], .other⟩),
  (47, ⟨1, 8, [.nilFunc], .other⟩),
  (48, ⟨1, 24, [.slice none 0 0], .sl 5⟩),
  (49, ⟨1, 8, [.nilFunc], .other⟩),
  (50, ⟨1, 8, [.pointer none], .other⟩),
  (51, ⟨3, 32, [.string ⟨#[]⟩, .int .i64 0, .int .i64 0], .st [(0, 1, false), (1, 2, true)]⟩),
  (52, ⟨3, 32, [.string ⟨#[]⟩, .int .i64 0, .int .i64 0], .st [(0, 1, false), (1, 2, true)]⟩),
  (54, ⟨1, 8, [.nilFunc], .other⟩),
  (55, ⟨1, 8, [.nilFunc], .other⟩),
  (57, ⟨1, 8, [.nilFunc], .other⟩),
  (58, ⟨1, 8, [.nilFunc], .other⟩),
  (59, ⟨1, 24, [.slice none 0 0], .sl 9⟩),
  (60, ⟨1, 8, [.nilFunc], .other⟩),
  (61, ⟨1, 8, [.nilFunc], .other⟩),
  (62, ⟨1, 8, [.nilFunc], .other⟩),
  (63, ⟨1, 8, [.int .u64 0], .int .u64⟩),
  (65, ⟨1, 8, [.nilFunc], .other⟩),
  (66, ⟨1, 8, [.pointer none], .other⟩),
  (67, ⟨2, 32, [.pointer none, .slice none 0 0], .st [(0, 1, false), (1, 1, false)]⟩),
  (68, ⟨2, 32, [.pointer none, .slice none 0 0], .st [(0, 1, false), (1, 1, false)]⟩),
  (69, ⟨1, 16, [.nilIface], .other⟩),
  (70, ⟨1, 16, [.nilIface], .other⟩),
  (72, ⟨1, 8, [.nilFunc], .other⟩),
  (73, ⟨1, 8, [.nilFunc], .other⟩),
  (74, ⟨1, 8, [.nilFunc], .other⟩),
  (75, ⟨1, 8, [.nilFunc], .other⟩),
  (76, ⟨29, 464, [.string ⟨#[]⟩, .string ⟨#[]⟩, .string ⟨#[]⟩, .string ⟨#[]⟩, .string ⟨#[]⟩, .string ⟨#[]⟩, .string ⟨#[]⟩, .string ⟨#[]⟩, .string ⟨#[]⟩, .string ⟨#[]⟩, .string ⟨#[]⟩, .string ⟨#[]⟩, .string ⟨#[]⟩, .string ⟨#[]⟩, .string ⟨#[]⟩, .string ⟨#[]⟩, .string ⟨#[]⟩, .string ⟨#[]⟩, .string ⟨#[]⟩, .string ⟨#[]⟩, .string ⟨#[]⟩, .string ⟨#[]⟩, .string ⟨#[]⟩, .string ⟨#[]⟩, .string ⟨#[]⟩, .string ⟨#[]⟩, .string ⟨#[]⟩, .string ⟨#[]⟩, .string ⟨#[]⟩], .arr 29 9⟩),
  (77, ⟨1, 8, [.nilFunc], .other⟩),
  (78, ⟨1, 4, [.int .u32 0], .int .u32⟩),
  (80, ⟨1, 8, [.nilFunc], .other⟩),
  (82, ⟨1, 8, [.nilFunc], .other⟩),
  (83, ⟨1, 8, [.pointer none], .other⟩),
  (85, ⟨1, 8, [.nilFunc], .other⟩),
  (87, ⟨1, 8, [.nilFunc], .other⟩),
  (88, ⟨1, 8, [.nilFunc], .other⟩),
  (90, ⟨1, 8, [.nilFunc], .other⟩),
  (91, ⟨1, 8, [.nilFunc], .other⟩),
  (95, ⟨1, 8, [.nilFunc], .other⟩),
  (96, ⟨1, 8, [.nilFunc], .other⟩),
  (97, ⟨1, 8, [.pointer none], .other⟩),
  (98, ⟨1, 8, [.nilFunc], .other⟩),
  (99, ⟨1, 8, [.pointer none], .other⟩),
  (100, ⟨1, 8, [.nilFunc], .other⟩),
  (101, ⟨1, 8, [.nilFunc], .other⟩),
  (103, ⟨1, 8, [.nilFunc], .other⟩),
  (104, ⟨1, 8, [.nilFunc], .other⟩),
  (106, ⟨1, 8, [.nilFunc], .other⟩),
  (107, ⟨1, 8, [.nilFunc], .other⟩),
  (108, ⟨1, 8, [.nilFunc], .other⟩),
  (109, ⟨1, 8, [.int .i64 0], .int .i64⟩),
  (110, ⟨1, 8, [.nilFunc], .other⟩),
  (111, ⟨1, 8, [.pointer none], .other⟩),
  (112, ⟨1, 8, [.nilFunc], .other⟩),
  (113, ⟨1, 8, [.nilFunc], .other⟩),
  (114, ⟨1, 8, [.nilFunc], .other⟩),
  (115, ⟨1, 8, [.nilFunc], .other⟩),
  (116, ⟨3, 48, [.string ⟨#[]⟩, .string ⟨#[]⟩, .nilIface], .st [(0, 1, false), (1, 1, false), (2, 1, false)]⟩),
  (117, ⟨3, 48, [.string ⟨#[]⟩, .string ⟨#[]⟩, .nilIface], .st [(0, 1, false), (1, 1, false), (2, 1, false)]⟩),
  (118, ⟨1, 8, [.nilFunc], .other⟩),
  (119, ⟨1, 8, [.nilFunc], .other⟩),
  (121, ⟨2, 2, [.int .u8 0, .int .u8 0], .st [(0, 1, false), (1, 1, false)]⟩),
  (122, ⟨2, 2, [.int .u8 0, .int .u8 0], .st [(0, 1, false), (1, 1, false)]⟩),
  (123, ⟨32, 32, [.int .u8 0, .int .u8 0, .int .u8 0, .int .u8 0, .int .u8 0, .int .u8 0, .int .u8 0, .int .u8 0, .int .u8 0, .int .u8 0, .int .u8 0, .int .u8 0, .int .u8 0, .int .u8 0, .int .u8 0, .int .u8 0, .int .u8 0, .int .u8 0, .int .u8 0, .int .u8 0, .int .u8 0, .int .u8 0, .int .u8 0, .int .u8 0, .int .u8 0, .int .u8 0, .int .u8 0, .int .u8 0, .int .u8 0, .int .u8 0, .int .u8 0, .int .u8 0], .arr 16 122⟩),
  (124, ⟨1, 8, [.nilFunc], .other⟩),
  (125, ⟨1, 8, [.pointer none], .other⟩),
  (126, ⟨1, 16, [.string ⟨#[]⟩], .st [(0, 1, false)]⟩),
  (127, ⟨1, 16, [.string ⟨#[]⟩], .st [(0, 1, false)]⟩),
  (128, ⟨1, 8, [.nilFunc], .other⟩),
  (129, ⟨24, 24, [.int .u8 0, .int .u8 0, .int .u8 0, .int .u8 0, .int .u8 0, .int .u8 0, .int .u8 0, .int .u8 0, .int .u8 0, .int .u8 0, .int .u8 0, .int .u8 0, .int .u8 0, .int .u8 0, .int .u8 0, .int .u8 0, .int .u8 0, .int .u8 0, .int .u8 0, .int .u8 0, .int .u8 0, .int .u8 0, .int .u8 0, .int .u8 0], .arr 24 5⟩),
  (130, ⟨1, 8, [.nilFunc], .other⟩),
  (131, ⟨1, 8, [.nilFunc], .other⟩),
  (133, ⟨1, 8, [.nilFunc], .other⟩),
  (134, ⟨1, 8, [.nilFunc], .other⟩),
  (135, ⟨20, 160, [.int .u64 0, .int .u64 0, .int .u64 0, .int .u64 0, .int .u64 0, .int .u64 0, .int .u64 0, .int .u64 0, .int .u64 0, .int .u64 0, .int .u64 0, .int .u64 0, .int .u64 0, .int .u64 0, .int .u64 0, .int .u64 0, .int .u64 0, .int .u64 0, .int .u64 0, .int .u64 0], .arr 20 34⟩),
  (136, ⟨65, 65, [.int .u8 0, .int .u8 0, .int .u8 0, .int .u8 0, .int .u8 0, .int .u8 0, .int .u8 0, .int .u8 0, .int .u8 0, .int .u8 0, .int .u8 0, .int .u8 0, .int .u8 0, .int .u8 0, .int .u8 0, .int .u8 0, .int .u8 0, .int .u8 0, .int .u8 0, .int .u8 0, .int .u8 0, .int .u8 0, .int .u8 0, .int .u8 0, .int .u8 0, .int .u8 0, .int .u8 0, .int .u8 0, .int .u8 0, .int .u8 0, .int .u8 0, .int .u8 0, .int .u8 0, .int .u8 0, .int .u8 0, .int .u8 0, .int .u8 0, .int .u8 0, .int .u8 0, .int .u8 0, .int .u8 0, .int .u8 0, .int .u8 0, .int .u8 0, .int .u8 0, .int .u8 0, .int .u8 0, .int .u8 0, .int .u8 0, .int .u8 0, .int .u8 0, .int .u8 0, .int .u8 0, .int .u8 0, .int .u8 0, .int .u8 0, .int .u8 0, .int .u8 0, .int .u8 0, .int .u8 0, .int .u8 0, .int .u8 0, .int .u8 0, .int .u8 0, .int .u8 0], .arr 65 5⟩),
  (137, ⟨1, 8, [.nilFunc], .other⟩),
  (138, ⟨1, 8, [.nilFunc], .other⟩),
  (139, ⟨1, 8, [.nilFunc], .other⟩),
  (140, ⟨32, 32, [.int .u8 0, .int .u8 0, .int .u8 0, .int .u8 0, .int .u8 0, .int .u8 0, .int .u8 0, .int .u8 0, .int .u8 0, .int .u8 0, .int .u8 0, .int .u8 0, .int .u8 0, .int .u8 0, .int .u8 0, .int .u8 0, .int .u8 0, .int .u8 0, .int .u8 0, .int .u8 0, .int .u8 0, .int .u8 0, .int .u8 0, .int .u8 0, .int .u8 0, .int .u8 0, .int .u8 0, .int .u8 0, .int .u8 0, .int .u8 0, .int .u8 0, .int .u8 0], .arr 32 5⟩),
  (141, ⟨64, 64, [.int .u8 0, .int .u8 0, .int .u8 0, .int .u8 0, .int .u8 0, .int .u8 0, .int .u8 0, .int .u8 0, .int .u8 0, .int .u8 0, .int .u8 0, .int .u8 0, .int .u8 0, .int .u8 0, .int .u8 0, .int .u8 0, .int .u8 0, .int .u8 0, .int .u8 0, .int .u8 0, .int .u8 0, .int .u8 0, .int .u8 0, .int .u8 0, .int .u8 0, .int .u8 0, .int .u8 0, .int .u8 0, .int .u8 0, .int .u8 0, .int .u8 0, .int .u8 0, .int .u8 0, .int .u8 0, .int .u8 0, .int .u8 0, .int .u8 0, .int .u8 0, .int .u8 0, .int .u8 0, .int .u8 0, .int .u8 0, .int .u8 0, .int .u8 0, .int .u8 0, .int .u8 0, .int .u8 0, .int .u8 0, .int .u8 0, .int .u8 0, .int .u8 0, .int .u8 0, .int .u8 0, .int .u8 0, .int .u8 0, .int .u8 0, .int .u8 0, .int .u8 0, .int .u8 0, .int .u8 0, .int .u8 0, .int .u8 0, .int .u8 0, .int .u8 0], .arr 64 5⟩),
  (142, ⟨4, 40, [.pointer none, .pointer none, .pointer none, .string ⟨#[]⟩], .st [(0, 1, false), (1, 1, false), (2, 1, false), (3, 1, false)]⟩),
  (143, ⟨4, 40, [.pointer none, .pointer none, .pointer none, .string ⟨#[]⟩], .st [(0, 1, false), (1, 1, false), (2, 1, false), (3, 1, false)]⟩),
  (144, ⟨0, 0, [], .arr 0 16⟩),
  (145, ⟨0, 0, [], .st [(0, 0, true)]⟩),
  (146, ⟨0, 0, [], .st [(0, 0, true)]⟩),
  (147, ⟨1, 1, [.int .u8 0], .int .u8⟩),
  (148, ⟨1, 1, [.int .u8 0], .int .u8⟩),
  (149, ⟨1, 8, [.nilFunc], .other⟩),
  (150, ⟨1, 4, [.int .i32 0], .int .i32⟩),
  (151, ⟨1, 4, [.int .i32 0], .int .i32⟩),
  (152, ⟨11, 48, [.int .u64 0, .int .u64 0, .int .u32 0, .int .u8 0, .int .u8 0, .int .u8 0, .int .u8 0, .nilFunc, .pointer none, .int .i32 0, .int .i32 0], .st [(0, 1, false), (1, 1, false), (2, 1, false), (3, 1, false), (4, 1, false), (5, 1, false), (6, 1, false), (7, 1, false), (8, 1, false), (9, 1, false), (10, 1, false)]⟩),
  (153, ⟨11, 48, [.int .u64 0, .int .u64 0, .int .u32 0, .int .u8 0, .int .u8 0, .int .u8 0, .int .u8 0, .nilFunc, .pointer none, .int .i32 0, .int .i32 0], .st [(0, 1, false), (1, 1, false), (2, 1, false), (3, 1, false), (4, 1, false), (5, 1, false), (6, 1, false), (7, 1, false), (8, 1, false), (9, 1, false), (10, 1, false)]⟩)]
set_option maxRecDepth 100000 in
theorem lay_all : lay.map (fun p => layOf Tryd.prog p.1) = lay.map (fun p => some p.2) := by kernel_rfl
def layF (t : Nat) : Option Lay := findL lay t
theorem layF_ok : LOk Tryd.prog layF := fun t l h => by
  have := List.map_inj_left.1 lay_all (t, l) (findL_mem h)
  exact this
theorem mixed : Tryd.prog.follows .mixedOrders = true := by kernel_rfl
end Go.Proofs.YtokhlojibhegnaaDoor

namespace Go.Proofs.YtokhlojibhegnaaDoor
set_option linter.unusedVariables false
set_option linter.unusedSimpArgs false
open Go.RowKit

abbrev di (n : Int) : D := .v (.int .i64 n)
abbrev du (n : Int) : D := .v (.int .u64 n)
abbrev db (b : Bool) : D := .v (.bool b)
abbrev ds (s : ByteArray) : D := .v (.string s)
abbrev dnil : D := .v (.slice none 0 0)
abbrev Ti (n : Int) : TV := .o (.c (.d (.v (.int .i64 n))))
abbrev Tu (n : Int) : TV := .o (.c (.d (.v (.int .u64 n))))
abbrev Tb (b : Bool) : TV := .o (.c (.d (.v (.bool b))))
abbrev c1 (x : D) : T1 := .c (.d x)
abbrev gD (l : List D) : T1 := .g (l.map .d)
/-- Nothing is known of the program's variables. -/
def Γ0 : Glob := ⟨fun _ _ => True, fun _ _ _ => trivial, [], fun _ => none, fun _ h => by cases h⟩

section
variable {p q : Prop} {K : Bool → Prop}
theorem ex_dec [Decidable p] (ht : p → K true) (hf : ¬ p → K false) : ∃ b, decide p = b ∧ K b := by
  by_cases h : p
  · exact ⟨true, decide_eq_true h, ht h⟩
  · exact ⟨false, decide_eq_false h, hf h⟩
theorem ex_true [Decidable p] (h : p) (hk : K true) : ∃ b, decide p = b ∧ K b := ⟨true, decide_eq_true h, hk⟩
theorem ex_false [Decidable p] (h : ¬ p) (hk : K false) : ∃ b, decide p = b ∧ K b := ⟨false, decide_eq_false h, hk⟩
theorem ex_eq {α : Type} {e : α} {K : α → Prop} (h : K e) : ∃ z, e = z ∧ K z := ⟨e, rfl, h⟩
theorem ex_is {α : Type} {e : α} (z : α) {K : α → Prop} (he : e = z) (h : K z) : ∃ z, e = z ∧ K z := ⟨z, he, h⟩
end
theorem wrap_i64' {n : Int} (h1 : -9223372036854775808 ≤ n) (h2 : n ≤ 9223372036854775807) : IntKind.i64.wrap n = n := by rw [IntKind.wrap_i64]; omega
theorem wrap_un {k : IntKind} (hk : k.signed = false) {n : Int} (h1 : 0 ≤ n) (h2 : n < 2 ^ k.bits) : k.wrap n = n := by
  unfold IntKind.wrap
  simp only [hk, Bool.false_and, Bool.false_eq_true, if_false]
  exact Int.emod_eq_of_lt h1 h2
theorem ex_i64 {e : Int} (z : Int) {K : Int → Prop} (he : e = z) (h1 : -9223372036854775808 ≤ z) (h2 : z ≤ 9223372036854775807) (h : K z) : ∃ z, IntKind.i64.wrap e = z ∧ K z := ⟨z, by rw [he]; exact wrap_i64' h1 h2, h⟩
theorem ex_u64 {e : Int} (z : Int) {K : Int → Prop} (he : e = z) (h1 : 0 ≤ z) (h2 : z < 18446744073709551616) (h : K z) : ∃ z, IntKind.u64.wrap e = z ∧ K z := ⟨z, by rw [he]; exact wrap_un (by rfl) h1 h2, h⟩
theorem ex_u8 {e : Int} (z : Int) {K : Int → Prop} (he : e = z) (h1 : 0 ≤ z) (h2 : z < 256) (h : K z) : ∃ z, IntKind.u8.wrap e = z ∧ K z := ⟨z, by rw [he]; exact wrap_un (by rfl) h1 h2, h⟩
/-- An index into rows that are images of a list. -/
theorem ex_row {α : Type} {f : α → List D} {l : List α} {n : Int} (i : Nat) (x : α) (hn : n = i) (hx : l[i]? = some x) {K : List D → Prop} (h : K (f x)) : ∃ r, 0 ≤ n ∧ (l.map f)[n.toNat]? = some r ∧ K r := by
  subst hn
  exact ⟨f x, by omega, by simp [hx], h⟩
/-- An append. -/
theorem ex_app {α : Type} {r1 r2 : List α} {b : Nat} (n m c : Nat) (h1 : r1.length = n) (h2 : r2.length = m) (hc : Nat.ble b c = true) (hb : (n + m) * c ≤ 140737488355328) {K : Prop} (h : K) : (r1.length + r2.length) * b ≤ 140737488355328 ∧ K := ⟨by
  rw [h1, h2]
  exact Nat.le_trans (Nat.mul_le_mul_left _ (Nat.le_of_ble_eq_true hc)) hb, h⟩
theorem ex_at {α : Type} {f : α → List D} {l : List α} (i : Nat) (x : α) (hx : l[i]? = some x) {K : List D → Prop} {a : Nat} (h : K (f x)) : a = a ∧ ∃ r, (l.map f)[i]? = some r ∧ K r := ⟨rfl, f x, by simp [hx], h⟩
theorem ex_chr {s : ByteArray} {n : Int} (i : Nat) (b : UInt8) (hn : n = i) (hb : s.data.toList[i]? = some b) {K : UInt8 → Prop} (h : K b) : ∃ b, 0 ≤ n ∧ s.data.toList[n.toNat]? = some b ∧ K b := by
  subst hn
  exact ⟨b, by omega, by simpa using hb, h⟩
theorem at_some {α : Type} {l : List α} {i : Nat} (h : i < l.length) : l[i]? = some l[i] := List.getElem?_eq_getElem h
section
variable {P : Program} {Γ : Glob}
/-- A call of a function of data. -/
theorem ex_call {f : FuncId} {xs : List T1} {r : TV} (h : CallsA P Γ f xs r) {K : TV → Prop} (hk : K r) : ∃ r, CallsA P Γ f xs r ∧ K r := ⟨r, h, hk⟩
theorem ex_callM {f : FuncId} {m : List (Nat × Blk)} {nx : Nat} {xs : List T1} {r : TV} {upd : List (Nat × Blk)} {new : List Blk} (h : CallsM P Γ f m nx xs r upd new) {K : TV → List (Nat × Blk) → List Blk → Prop} (hk : K r upd new) : ∃ r upd new, CallsM P Γ f m nx xs r upd new ∧ K r upd new := ⟨r, upd, new, h, hk⟩
end
/-- A loop. -/
theorem ex_loop {X : Type} (f : X → St) (μ : X → Nat) (p : X → Prop) (x0 : X) {nx0 : Nat} {st : St} {V : (I : LoopI) → I.X → Prop} (h0 : p x0) (h1 : SLe nx0 (f x0) st) (h2 : ∀ x, p x → V ⟨X, f, μ, p⟩ x) :
    ∃ (I : LoopI) (x0 : I.X), I.p x0 ∧ SLe nx0 (I.f x0) st ∧ ∀ x, I.p x → V I x := ⟨⟨X, f, μ, p⟩, x0, h0, h1, h2⟩
/-- Where ways come together. -/
theorem ex_join {X : Type} (f : X → St) (p : X → Prop) {A : JoinI → Prop} {B : (I : JoinI) → I.X → Prop} (h1 : A ⟨X, f, p⟩) (h2 : ∀ x, p x → B ⟨X, f, p⟩ x) : ∃ I : JoinI, A I ∧ ∀ x, I.p x → B I x := ⟨⟨X, f, p⟩, h1, h2⟩
theorem ex_meet {X : Type} {f : X → St} {p : X → Prop} {nx0 : Nat} {st : St} (x : X) (h0 : p x) (h2 : SLe nx0 (f x) st) : ∃ x, p x ∧ SLe nx0 (f x) st := ⟨x, h0, h2⟩
theorem ex_round {X : Type} {f : X → St} {μ : X → Nat} {p : X → Prop} {nx0 : Nat} {st : St} {x : X} (x' : X) (h0 : p x') (h1 : μ x' < μ x) (h2 : SLe nx0 (f x') st) : ∃ x', p x' ∧ μ x' < μ x ∧ SLe nx0 (f x') st := ⟨x', h0, h1, h2⟩
theorem le_nil {α : Type} {m : List (Nat × α)} : leL [] m := trivial
theorem le_cons {α : Type} {k : Nat} {v : α} {l m : List (Nat × α)} (h : findL m k = some v) (t : leL l m) : leL ((k, v) :: l) m := ⟨h, t⟩
theorem le_val {α : Type} {k : Nat} {v v' : α} {l m : List (Nat × α)} (h : findL m k = some v') (e : v' = v) (t : leL l m) : leL ((k, v) :: l) m := ⟨e ▸ h, t⟩
/-- A nil slice reads as a slice without rows. -/
theorem CLe_nil {ι : Nat → Value} {S : Nat → Prop} {w : World} {s : Nat} {v : Value} (h : VC ι S w (.d (.v (.slice none 0 0))) v) : VC ι S w (.d (.sl s [])) v := by
  have h' : Imm S w _ v := h
  cases h'
  exact Imm.nil
theorem TLe.nil {s : Nat} : TLe (.o (.c (.d (.v (.slice none 0 0))))) (.o (.c (.d (.sl s [])))) := fun ι _ _ _ h => CLe_nil (ι := ι) h
/-- A contract met with a flat result. -/
theorem flat_end {S : Nat → Prop} {w w' : World} {r : TV} {v : Value} (hs : ∀ b, S b → b < w.heap.size) (hb : Below w.heap.size w w') (hv : V ι0 S w' r v) : ∃ x S', Ending.returned v = .returned x ∧ Below w.heap.size w w' ∧ (∀ b, S b → S' b) ∧ (∀ b, S' b → S b ∨ w.heap.size ≤ b) ∧ (∀ b, S' b → b < w'.heap.size) ∧ V ι0 S' w' r x :=
  ⟨v, S, rfl, hb, fun _ h => h, fun _ h => .inl h, fun b h => Nat.lt_of_lt_of_le (hs b h) hb.size, hv⟩
/-- A contract over a greater memory. -/
theorem CallsM.more {P : Program} {Γ : Glob} {f : FuncId} {m m' : List (Nat × Blk)} {nx : Nat} {xs : List T1} {r : TV} {upd : List (Nat × Blk)} {new : List Blk} (h : CallsM P Γ f m nx xs r upd new) (hm : ∀ p ∈ m, p ∈ m') : CallsM P Γ f m' nx xs r upd new :=
  ⟨h.1, fun ι S w vs hs hG hb hd hv => (h.2 ι S w vs hs hG (fun p hp => hb p (hm p hp)) (fun p hp q hq => hd p (hm p hp) q (hm q hq)) hv).mono fun e w' hX => by
    have conv : ∀ (tv : TV) (x : Value) (ι' : Nat → Value) (S' : Nat → Prop) (w' : World), After ι S w nx ⟨tv, m.map (·.1), upd, new⟩ x ι' S' w' → After ι S w nx ⟨tv, m'.map (·.1), upd, new⟩ x ι' S' w' := fun tv x ι' S' w' A =>
      ⟨A.val, A.keep, A.smono, A.sgrow, A.slt, A.os, A.tape, A.output, A.size, A.heap, A.updok, A.newok, A.newblk, A.newdst⟩
    rcases hX with ⟨x, ι', S', he, A⟩ | ⟨v, ι', S', hr, he, A⟩
    · exact .inl ⟨x, ι', S', he, conv _ _ _ _ _ A⟩
    · exact .inr ⟨v, ι', S', hr, he, conv _ _ _ _ _ A⟩⟩
/-- What a function of nothing known gives, whatever is known. -/
theorem CallsA.of0 {P : Program} {Γ : Glob} {f : FuncId} {xs : List T1} {r : TV} (h : CallsA P Γ0 f xs r) : CallsA P Γ f xs r := ⟨h.1, fun S w vs hS _ hv => h.2 S w vs hS trivial hv⟩
theorem CallsM.of0 {P : Program} {Γ : Glob} {f : FuncId} {m : List (Nat × Blk)} {nx : Nat} {xs : List T1} {r : TV} {upd : List (Nat × Blk)} {new : List Blk} (h : CallsM P Γ0 f m nx xs r upd new) : CallsM P Γ f m nx xs r upd new := ⟨h.1, fun ι S w vs hs _ hb hd hv => h.2 ι S w vs hs trivial hb hd hv⟩
end Go.Proofs.YtokhlojibhegnaaDoor

namespace Go.Proofs.YtokhlojibhegnaaDoor
set_option linter.unusedVariables false
set_option linter.unusedSimpArgs false
open Go.RowKit

def stC (k : Nat) (d : D) : CV → CV
  | .row j => match Nat.beq j k with
    | true => .d d
    | false => .row j
  | x => x
def stT (k : Nat) (d : D) : T1 → T1
  | .c x => .c (stC k d x)
  | .g l => .g (l.map (stC k d))
def stV (k : Nat) (d : D) : TV → TV
  | .o x => .o (stT k d x)
  | .tup l => .tup (l.map (stT k d))
  | x => x
def stB (k : Nat) (d : D) : Blk → Blk
  | .obj l t => .obj (l.map (stC k d)) t
  | x => x
def rpC (k : Nat) : CV → Bool
  | .rptr j _ _ _ => Nat.beq j k
  | .ptr j _ => Nat.beq j k
  | _ => false
def rpT (k : Nat) : T1 → Bool
  | .c x => rpC k x
  | .g l => l.any (rpC k)
def rpV (k : Nat) : TV → Bool
  | .o x => rpT k x
  | .tup l => l.any (rpT k)
  | _ => false
def rpB (k : Nat) : Blk → Bool
  | .obj l _ => l.any (rpC k)
  | _ => false
/-- The row k told as data everywhere; pointers into it are not told any more. -/
def stX (k : Nat) (d : D) (_ : Nat) (x : TV) : TV := match rpV k x with
  | true => .no
  | false => stV k d x
def stM (k : Nat) (d : D) (j : Nat) (x : Blk) : Blk := match Nat.beq j k || rpB k x with
  | true => .dead
  | false => stB k d x
def stillSt (k : Nat) (d : D) (s : St) : St := ⟨s.tm.map fun p => (p.1, stX k d p.1 p.2), s.mem.map fun p => (p.1, stM k d p.1 p.2), s.nx⟩
theorem findL_map {α β : Type} (F : Nat → α → β) : ∀ (l : List (Nat × α)) (t : Nat), findL (l.map fun p => (p.1, F p.1 p.2)) t = (findL l t).map (F t)
  | [], t => rfl
  | (j, v) :: l, t => by
    simp only [List.map_cons, findL]
    split
    · rename_i e; subst e; rfl
    · exact findL_map F l t
section
variable {ι : Nat → Value} {S S' : Nat → Prop} {w : World} {k : Nat} {d : D}
theorem stC_ok (hS : ∀ b, S b → S' b) (hd : Imm S' w d (ι k)) {x : CV} {u : Value} (h : VC ι S w x u) : VC ι S' w (stC k d x) u := by
  cases x with
  | row j =>
    simp only [stC]
    split
    · rename_i hb
      obtain rfl := Nat.eq_of_beq_eq_true hb
      rw [h.1]
      exact hd
    · exact VC.mono (x := .row j) (fun _ _ => rfl) hS (fun _ _ => rfl) h
  | d x => exact VC.mono (x := .d x) (fun _ _ => rfl) hS (fun _ _ => rfl) h
  | ptr j o => exact VC.mono (x := .ptr j o) (fun _ _ => rfl) hS (fun _ _ => rfl) h
  | eptr cs => exact VC.mono (x := .eptr cs) (fun _ _ => rfl) hS (fun _ _ => rfl) h
  | rptr a b c e => exact VC.mono (x := .rptr a b c e) (fun _ _ => rfl) hS (fun _ _ => rfl) h
theorem stT_ok (hS : ∀ b, S b → S' b) (hd : Imm S' w d (ι k)) {x : T1} {u : Value} (h : V1 ι S w x u) : V1 ι S' w (stT k d x) u := by
  cases x with
  | c x => exact stC_ok hS hd h
  | g l =>
    obtain ⟨us, h1, h2⟩ := h
    exact ⟨us, h1, h2.mono (fun a b hab => stC_ok hS hd hab) |> All2.map_left⟩
theorem stV_ok (hS : ∀ b, S b → S' b) (hd : Imm S' w d (ι k)) {x : TV} {u : Value} (h : V ι S w x u) : V ι S' w (stV k d x) u := by
  cases x with
  | no => trivial
  | und => exact h
  | o x => exact stT_ok hS hd h
  | tup l =>
    obtain ⟨us, h1, h2⟩ := h
    exact ⟨us, h1, h2.mono (fun a b hab => stT_ok hS hd hab) |> All2.map_left⟩
  | pan v => exact h
end
theorem SLe.still {nx0 : Nat} {s : St} (k size : Nat) (e : TypeId) (rows : List (List D)) (hk : findL s.mem k = some (.row size e rows)) : SLe nx0 (stillSt k (.sl size rows) s) s := fun E a w he ⟨ι, S, I⟩ => by
  have hb0 := I.blk k _ hk
  have hlt := row_lt hb0
  have hS : ∀ b, S b → giveUp ι S [k] b := fun b hb => .inl hb
  have hd : Imm (giveUp ι S [k]) w (.sl size rows) (ι k) := row_imm hb0 hS (fun g hg => .inr ⟨k, by simp, hg⟩)
  have hmem : ∀ n b, findL (stillSt k (.sl size rows) s).mem n = some b → b.live = true → n ≠ k ∧ ∃ b0, findL s.mem n = some b0 ∧ b0.live = true ∧ b = stB k (.sl size rows) b0 := fun n b hb hl => by
    have hb : findL (s.mem.map fun p => (p.1, stM k (.sl size rows) p.1 p.2)) n = some b := hb
    rw [findL_map (stM k (.sl size rows))] at hb
    obtain ⟨b0, h1, h2⟩ := Option.map_eq_some_iff.1 hb
    unfold stM at h2
    split at h2
    · subst h2; cases hl
    · rename_i hf
      subst h2
      refine ⟨fun h => ?_, b0, h1, ?_, rfl⟩
      · rw [Bool.or_eq_false_iff] at hf
        exact absurd h (Nat.ne_of_beq_eq_false hf.1)
      · cases b0 <;> first | rfl | exact hl
  have hdead : ∀ n b, findL (stillSt k (.sl size rows) s).mem n = some b → b.live = false → b = .dead := fun n b _ hl => by cases b <;> first | rfl | cases hl
  have hS' : ∀ n b, findL s.mem n = some b → b.live = true → n ≠ k → ∀ g, blkOf (ι n) = some g → ¬ giveUp ι S [k] g := fun n b hb hl hn g hg hs => by
    rcases hs with hs | ⟨j, hj, hs⟩
    · have h := I.blk n b hb
      cases b with
      | dead => cases hl
      | obj cells => obtain ⟨b2, arr, ty, h1, _, _, h4⟩ := h; rw [h1] at hg; cases hg; exact h4 hs
      | row size e rows => exact (row_lt h g hg).2 hs
    · obtain rfl : j = k := by simpa using hj
      exact hn (I.dst n j b _ g hb hk hl rfl hg hs)
  refine ⟨ι, giveUp ι S [k], I.os, I.tape, I.output, I.size, I.old, fun b hb => ?_, fun b hb => .inl (I.s0 b hb), fun b hb => ?_, fun t tv ht => ?_, fun n b hb => ?_, fun n b hb hl g hg => ?_, fun n n' b b' g hb hb' hl hl' hg hg' => ?_, I.dn, I.sz, E.Γ.mono (fun _ _ => rfl) hS I.gl, I.ik⟩
  · rcases hb with hb | ⟨j, hj, hb⟩
    · exact I.slt b hb
    · obtain rfl : j = k := by simpa using hj
      exact (hlt b hb).1
  · rcases hb with hb | ⟨j, hj, hb⟩
    · exact I.sg b hb
    · obtain rfl : j = k := by simpa using hj
      rcases I.mutb j _ hk rfl b hb with h | h
      · exact .inr (.inr h)
      · exact .inr (.inl h)
  · have ht : findL (s.tm.map fun p => (p.1, stX k (.sl size rows) p.1 p.2)) t = some tv := ht
    rw [findL_map (stX k (.sl size rows))] at ht
    obtain ⟨tv0, h1, h2⟩ := Option.map_eq_some_iff.1 ht
    unfold stX at h2
    split at h2
    · subst h2; trivial
    · subst h2
      exact stV_ok hS hd (I.tms t tv0 h1)
  · cases hl : b.live with
    | false => rw [hdead n b hb hl]; trivial
    | true =>
      obtain ⟨hn, b0, h1, h2, rfl⟩ := hmem n b hb hl
      have h := I.blk n b0 h1
      cases b0 with
      | dead => cases h2
      | obj cells tg =>
        obtain ⟨b2, arr, ty, e1, e2, e3, e4⟩ := h
        exact ⟨b2, arr, ty, e1, e2, All2.map_left (e3.mono fun a b hab => stC_ok hS hd hab), hS' n _ h1 rfl hn b2 (by rw [e1]; rfl)⟩
      | row size' e' rows' =>
        obtain ⟨cs, e1, e2, e3, e4⟩ := h
        exact ⟨cs, e1, e2.mono fun a b hab => Imm.mono (fun _ _ => rfl) hS hab, e3, fun g hg => hS' n _ h1 rfl hn g hg⟩
  · obtain ⟨hn, b0, h1, h2, rfl⟩ := hmem n b hb hl
    exact I.mutb n b0 h1 h2 g hg
  · obtain ⟨hn, b0, h1, h2, rfl⟩ := hmem n b hb hl
    obtain ⟨hn', b0', h1', h2', rfl⟩ := hmem n' b' hb' hl'
    exact I.dst n n' b0 b0' g h1 h1' h2 h2' hg hg'
end Go.Proofs.YtokhlojibhegnaaDoor

namespace Go.Proofs.YtokhlojibhegnaaDoor
set_option linter.unusedVariables false
set_option linter.unusedSimpArgs false
open Go.RowKit

theorem ret_bool {a b : Bool} (h : a = b) : Ending.returned (.bool a) = .returned (.bool b) := by rw [h]
theorem ret_int {k : IntKind} {a b : Int} (h : a = b) : Ending.returned (.int k a) = .returned (.int k b) := by rw [h]

/-- A world that extends W: of what was there nothing has turned. -/
structure Ext (W : World) where
  w : World
  b : Below W.heap.size W w

instance {W : World} : Nonempty (Ext W) := ⟨⟨W, Below.refl _ _⟩⟩
instance {W : World} : Inhabited (Ext W) := ⟨⟨W, Below.refl _ _⟩⟩

/-! ### What the walk asks of blocks' numbers, found by instances: however long the chain of worlds is -/
class ExtC (W : outParam World) (w : World) : Prop where
  b : Below W.heap.size W w
class LtC (n m : Nat) : Prop where
  h : n < m
class LeC (n m : Nat) : Prop where
  h : n ≤ m
instance (priority := 2000) (n : Nat) : LeC n n := ⟨Nat.le_refl _⟩
instance (priority := 1900) (n m : Nat) [LeC n m] : LeC n (m + 1) := ⟨Nat.le_succ_of_le LeC.h⟩
instance (priority := 1800) (n m : Nat) [LeC n m] : LeC (n + 1) (m + 1) := ⟨Nat.succ_le_succ LeC.h⟩
instance (n : Nat) (w : World) (o : Obj) [LeC n (w.heap.size + 1)] : LeC n (w.alloc o).heap.size := ⟨by rw [World.size_alloc]; exact LeC.h⟩
instance (n : Nat) (w : World) (a : Addr) (v : Value) [LeC n w.heap.size] : LeC n (w.setCell a v).heap.size := ⟨by simp only [World.setCell, Array.size_modify]; exact LeC.h⟩
instance (n : Nat) (w : World) [LeC n w.heap.size] : LeC n w.drew.heap.size := ⟨(LeC.h : n ≤ w.heap.size)⟩
instance (n : Nat) (W w : World) [h : ExtC W w] [LeC n W.heap.size] : LeC n w.heap.size := ⟨Nat.le_trans LeC.h h.b.size⟩
instance (priority := 2000) (n : Nat) : LtC n (n + 1) := ⟨Nat.lt_succ_self _⟩
instance (priority := 1900) (n m : Nat) [LtC n m] : LtC n (m + 1) := ⟨Nat.lt_succ_of_lt LtC.h⟩
instance (priority := 1800) (n m : Nat) [LtC n m] : LtC (n + 1) (m + 1) := ⟨Nat.succ_lt_succ LtC.h⟩
instance (n : Nat) (w : World) (o : Obj) [LtC n (w.heap.size + 1)] : LtC n (w.alloc o).heap.size := ⟨by rw [World.size_alloc]; exact LtC.h⟩
instance (n : Nat) (w : World) (a : Addr) (v : Value) [LtC n w.heap.size] : LtC n (w.setCell a v).heap.size := ⟨by simp only [World.setCell, Array.size_modify]; exact LtC.h⟩
instance (n : Nat) (w : World) [LtC n w.heap.size] : LtC n w.drew.heap.size := ⟨(LtC.h : n < w.heap.size)⟩
instance (n : Nat) (W w : World) [h : ExtC W w] [LtC n W.heap.size] : LtC n w.heap.size := ⟨Nat.lt_of_lt_of_le LtC.h h.b.size⟩
instance {W : World} (x : Ext W) : ExtC W x.w := ⟨x.b⟩

/-- Block b reads in w as in W. -/
class AtC (w : World) (b : Nat) (W : outParam World) : Prop where
  h : w.heap[b]? = W.heap[b]?
instance {W w : World} (b : Nat) [h : ExtC W w] [LtC b W.heap.size] : AtC w b W := ⟨h.b.block b LtC.h⟩
/-- (Named so that simp doesn't take 'cellI' for a mere renaming.) -/
def cellOf (W : World) (b o : Nat) : Option Value := W.cell? ⟨b, o, none⟩
def frozenOf (W : World) (b o : Nat) : Bool := W.frozen? ⟨b, o, none⟩
theorem cellOf_is (W : World) (b o : Nat) : cellOf W b o = W.cell? ⟨b, o, none⟩ := rfl
theorem frozenOf_is (W : World) (b o : Nat) : frozenOf W b o = W.frozen? ⟨b, o, none⟩ := rfl
theorem cellI {W w : World} (b o : Nat) [h : AtC w b W] : w.cell? ⟨b, o, none⟩ = cellOf W b o := World.cell?_of_block (w := W) (a := ⟨b, o, none⟩) h.h
theorem frozenI {W w : World} (b o : Nat) [h : AtC w b W] : w.frozen? ⟨b, o, none⟩ = frozenOf W b o := World.frozen?_of_block (w := W) (a := ⟨b, o, none⟩) h.h
theorem cellA {w : World} (O : Obj) (b o : Nat) [LtC b w.heap.size] : (w.alloc O).cell? ⟨b, o, none⟩ = w.cell? ⟨b, o, none⟩ := World.cell?_alloc_past O b o LtC.h
theorem frozenA {w : World} (O : Obj) (b o : Nat) [LtC b w.heap.size] : (w.alloc O).frozen? ⟨b, o, none⟩ = w.frozen? ⟨b, o, none⟩ := World.frozen?_alloc_past O b o LtC.h
theorem setCellA {w : World} (O : Obj) (b o : Nat) (v : Value) [LtC b w.heap.size] : (w.alloc O).setCell ⟨b, o, none⟩ v = (w.setCell ⟨b, o, none⟩ v).alloc O := World.setCell_alloc_past O b o v LtC.h

theorem below_step {B : Nat} {w W w1 : World} (h : Below B w W) (hb : Below W.heap.size W w1) (hB : B ≤ W.heap.size) : Below B w w1 := h.trans (hb.mono hB)
theorem leC {n m : Nat} [h : LeC n m] : n ≤ m := h.h

theorem below_draw (W : World) : Below W.heap.size W { W with drawn := W.drawn + 1 } := ⟨rfl, rfl, rfl, Nat.le_refl _, fun _ _ => rfl⟩

/-- A region that draws its order, every operation a read or a call that only makes memory: one walk in the text's order. -/
theorem steady_region {P : Program} {id : Nat} {Q : Exit → Act → World → Prop} {a : Act} {W : World} {l : List Oper} (hm : P.follows .mixedOrders = true) (hB : Region.lexB .any l.toArray = true)
    (h : wpQuiet P l.toArray (fun w' => ∃ x : Ext W, w' = x.w) (fun a' => ∀ w', (∃ x : Ext W, w' = x.w) → Q .normal a' w') l a) : (Code.region id l.toArray true).wp P Q a W :=
  wp_region_quiet (C := fun w' => ∃ x : Ext W, w' = x.w) hm hB ⟨⟨_, below_draw W⟩, rfl⟩ (by simpa using h)

/-- The same, the class that of an earlier world which the present one extends. -/
theorem steady_from {P : Program} {id : Nat} {Q : Exit → Act → World → Prop} {a : Act} {W w : World} {l : List Oper} (hbw : Below W.heap.size W w) (hm : P.follows .mixedOrders = true) (hB : Region.lexB .any l.toArray = true)
    (h : wpQuiet P l.toArray (fun w' => ∃ x : Ext W, w' = x.w) (fun a' => ∀ w', (∃ x : Ext W, w' = x.w) → Q .normal a' w') l a) : (Code.region id l.toArray true).wp P Q a w :=
  wp_region_quiet (C := fun w' => ∃ x : Ext W, w' = x.w) hm hB ⟨⟨_, hbw.trans ((below_draw w).mono hbw.size)⟩, rfl⟩ (by simpa using h)

/-- A callee's contract, met in a world of the class. -/
theorem Calls.steady {P : Program} {f : FuncId} {args : Array Value} {W : World} {x : Ext W} {v : Value}
    (h : Calls P f args x.w fun e w' => e = .returned v ∧ Below x.w.heap.size x.w w') : Calls P f args x.w fun e w'' => e = .returned v ∧ ∃ y : Ext W, w'' = y.w :=
  h.mono fun _ w' ⟨he, hb⟩ => ⟨he, ⟨w', x.b.trans (hb.mono x.b.size)⟩, rfl⟩


section
variable {P : Program} {ops : Array Oper} {md : Region.Mode} {C : World → Prop}

/-- Every edge that binds leads back. -/
def backB (md : Region.Mode) (ops : Array Oper) : Bool :=
  (List.range ops.size).all fun i => match ops[i]? with
    | some o => o.after.all fun e => !Region.binds md e || decide (e.on < i)
    | none => true
/-- From number n on each operation waits for all of the first n. -/
def tailB (md : Region.Mode) (ops : Array Oper) (n : Nat) : Bool :=
  (List.range ops.size).all fun t => decide (t < n) || (List.range n).all fun i => Region.waitsFor md ops t i
/-- The guards of the first n operations lie among them. -/
def guardB (ops : Array Oper) (n : Nat) : Bool :=
  (List.range n).all fun i => match ops[i]? with
    | some o => match o.guard with
      | some (j, _) => decide (j < n)
      | none => true
    | none => true

theorem backB_spec (h : backB md ops = true) {i : Nat} {o : Oper} (ho : ops[i]? = some o) {e : Edge} (he : e ∈ o.after) (hb : Region.binds md e = true) : e.on < i := by
  have h1 := List.all_eq_true.1 h i (List.mem_range.2 (Array.getElem?_eq_some_iff.1 ho).1)
  simp only [ho] at h1
  have h2 := Array.all_eq_true_iff_forall_mem.1 h1 e he
  simpa [hb] using h2

theorem tailB_spec {n : Nat} (h : tailB md ops n = true) {t i : Nat} (ht : n ≤ t) (hts : t < ops.size) (hi : i < n) : ∃ o, ops[t]? = some o ∧ ∃ e ∈ o.after, Region.binds md e = true ∧ e.on = i := by
  have h1 := List.all_eq_true.1 h t (List.mem_range.2 hts)
  simp only [Bool.or_eq_true, decide_eq_true_eq] at h1
  rcases h1 with h1 | h1
  · omega
  · exact Region.waitsFor_spec (List.all_eq_true.1 h1 i (List.mem_range.2 hi))

/-- More fuel does no harm. -/
theorem wpAny_more {Q : Exit → Act → World → Prop} : ∀ (f : Nat) (listed : Array Bool) (a : Act) (w : World), wpAny P md ops Q f listed a w → wpAny P md ops Q (f + 1) listed a w
  | 0, _, _, _, h => ⟨fun _ => h.2, fun i hi => by rw [h.1] at hi; cases hi⟩
  | f + 1, _, _, _, h => ⟨h.1, fun i hi => wpOp_mono (fun a' w' => wpAny_more f _ a' w') (h.2 i hi)⟩
theorem wpAny_moreN {Q : Exit → Act → World → Prop} (f : Nat) {listed : Array Bool} {a : Act} {w : World} (h : wpAny P md ops Q f listed a w) : ∀ k, wpAny P md ops Q (f + k) listed a w
  | 0 => h
  | k + 1 => wpAny_more _ _ _ _ (wpAny_moreN f h k)

theorem take_get {l : List Oper} {n i : Nat} (h : i < n) : (l.take n).toArray[i]? = l.toArray[i]? := by simp [h]
theorem take_none {l : List Oper} {n i : Nat} (h : n ≤ i) : (l.take n).toArray[i]? = none := by
  simp only [List.getElem?_toArray, List.getElem?_take]
  rw [if_neg (by omega)]

theorem wanted_take {l : List Oper} {n i : Nat} {o : Oper} (hg : guardB l.toArray n = true) (hi : i < n) (ho : l.toArray[i]? = some o) (tmps : Array Value) :
    Region.wanted o (yielded (l.take n).toArray tmps) = Region.wanted o (yielded l.toArray tmps) := by
  have h1 := List.all_eq_true.1 hg i (List.mem_range.2 hi)
  simp only [ho] at h1
  unfold Region.wanted
  cases hgd : o.guard with
  | none => rfl
  | some p =>
    obtain ⟨j, want⟩ := p
    simp only [hgd, decide_eq_true_eq] at h1
    simp only [yielded, take_get h1]

/-- While one of the first n has not come up, what may come up is what may come up among them. -/
theorem ready_take {l : List Oper} {n : Nat} {listed : Array Bool} (ht : tailB md l.toArray n = true) {i : Nat} (hi : i < n) (hun : listed.getD i true = false) {j : Nat}
    (hj : j ∈ Region.ready md l.toArray listed) : j < n ∧ j ∈ Region.ready md (l.take n).toArray listed := by
  have hil : listed.getD i false = false := getD_both hun
  obtain ⟨h0, o, ho, hall⟩ := mem_ready.1 hj
  have hjn : j < n := by
    rcases Nat.lt_or_ge j n with h | h
    · exact h
    · obtain ⟨o', ho', e, he, hb, hon⟩ := tailB_spec ht h (Array.getElem?_eq_some_iff.1 ho).1 hi
      have : o = o' := Option.some.inj (ho.symm.trans ho')
      subst this
      have := hall e he hb
      rw [hon, hil] at this
      cases this
  exact ⟨hjn, mem_ready.2 ⟨h0, o, by rw [take_get hjn]; exact ho, hall⟩⟩

/-- If nothing may come up among the first n, all of them have come up. -/
theorem all_listed {l : List Oper} {n : Nat} {listed : Array Bool} (hb : backB md l.toArray = true) (hs : listed.size = l.toArray.size) (hn : n ≤ l.length)
    (h : Region.ready md (l.take n).toArray listed = []) : ∀ i, i < n → listed.getD i true = true := by
  intro i
  induction i using Nat.strongRecOn with
  | _ i ih =>
    intro hi
    cases hl : listed.getD i true with
    | true => rfl
    | false =>
      have hil : i < l.toArray.size := by simp; omega
      have ho : l.toArray[i]? = some l.toArray[i] := by simp
      have : i ∈ Region.ready md (l.take n).toArray listed := mem_ready.2 ⟨hl, _, by rw [take_get hi]; exact ho, fun e he hbd => by
        have hlt := backB_spec hb ho he hbd
        have h1 := ih e.on hlt (by omega)
        have hes : e.on < listed.size := by omega
        simp only [Array.getD, hes, dite_true] at h1 ⊢
        exact h1⟩
      rw [h] at this
      cases this

def fullTo (n m : Nat) : Array Bool := ((List.range m).map fun i => decide (i < n)).toArray

/-- The first n operations in any order, then the rest one behind the other. -/
theorem wpAny_of_head_tail {l : List Oper} {n : Nat} {Q : Act → Prop} {Q' : Exit → Act → World → Prop} (hn : n ≤ l.length) (hb : backB md l.toArray = true) (ht : tailB md l.toArray n = true) (hg : guardB l.toArray n = true)
    (hseq : Region.seqB md l.toArray (l.length - n) n (fullTo n l.length) = true)
    (hQ : ∀ a w, C w → Q a → wpList P l.toArray Q' (l.drop n) a w) :
    ∀ (f : Nat) (listed : Array Bool) (a : Act) (w : World), listed.size = l.toArray.size → (∀ t, n ≤ t → t < l.length → listed.getD t true = false) → C w →
      wpAnyQ P md (l.take n).toArray C Q f listed a → wpAny P md l.toArray Q' ((l.length - n) + f) listed a w := by
  have fin : ∀ (listed : Array Bool) (a : Act) (w : World), listed.size = l.toArray.size → (∀ t, n ≤ t → t < l.length → listed.getD t true = false) → C w → Q a →
      Region.ready md (l.take n).toArray listed = [] → wpAny P md l.toArray Q' (l.length - n) listed a w := fun listed a w hs hu hw hq hr => by
    have hall := all_listed hb hs hn hr
    have hfull : listed = fullTo n l.length := by
      apply Array.ext
      · simp [fullTo, hs]
      · intro i h1 h2
        have h3 : i < l.length := by simpa [hs] using h1
        simp only [fullTo, List.getElem_toArray, List.getElem_map, List.getElem_range]
        rcases Nat.lt_or_ge i n with h | h
        · have := hall i h
          simp only [Array.getD, h1, dite_true] at this
          simpa [h] using this
        · have := hu i h h3
          simp only [Array.getD, h1, dite_true] at this
          have hni : ¬ i < n := by omega
          simpa [hni] using this
    subst hfull
    have := wpAny_of_seq (P := P) (md := md) (Q' := Q') (l.drop n) n (fullTo n l.length) a w (fun j => by simp [List.getElem?_drop]) (by rw [List.length_drop]; exact hseq) (hQ a w hw hq)
    rwa [List.length_drop] at this
  intro f
  induction f with
  | zero => exact fun listed a w hs hu hw h => fin listed a w hs hu hw h.2 h.1
  | succ f ih =>
    intro listed a w hs hu hw h
    by_cases hr : Region.ready md (l.take n).toArray listed = []
    · exact wpAny_moreN _ (fin listed a w hs hu hw (h.1 hr) hr) _
    · obtain ⟨i, hi⟩ : ∃ i, i ∈ Region.ready md (l.take n).toArray listed := by
        cases hl : Region.ready md (l.take n).toArray listed with
        | nil => exact absurd hl hr
        | cons x xs => exact ⟨x, by simp⟩
      have hin : i < n := by
        rcases Nat.lt_or_ge i n with h' | h'
        · exact h'
        · obtain ⟨_, o, ho, _⟩ := mem_ready.1 hi
          rw [take_none h'] at ho
          cases ho
      have hun := (mem_ready.1 hi).1
      have hrr : Region.ready md l.toArray listed ≠ [] := fun h0 => by
        obtain ⟨h1, o, ho, hall⟩ := mem_ready.1 hi
        have : i ∈ Region.ready md l.toArray listed := mem_ready.2 ⟨h1, o, by rw [← take_get hin]; exact ho, hall⟩
        rw [h0] at this
        cases this
      refine ⟨fun h0 => absurd h0 hrr, fun j hj => ?_⟩
      obtain ⟨hjn, hj'⟩ := ready_take ht hin hun hj
      have hq := h.2 j hj'
      have hq2 : qOp P l.toArray C j (wpAnyQ P md (l.take n).toArray C Q f (listed.setIfInBounds j true)) a := by
        unfold qOp at hq ⊢
        rw [take_get hjn] at hq
        cases ho : l.toArray[j]? with
        | none => simp only [ho] at hq ⊢; exact hq
        | some o =>
          simp only [ho] at hq ⊢
          rw [wanted_take hg hjn ho] at hq
          exact hq
      refine wpOp_of_qOp hw (fun a' w' hw' hk => ih _ a' w' (by simp [hs]) (fun t ht' htl => ?_) hw' hk) hq2
      rw [getD_set_ne true (by omega)]
      exact hu t ht' htl

/-- A region that draws its order: the first n operations read or call, in any order; the rest (stores, mostly) waits for all of them. -/
theorem wp_region_tail {id : Nat} {Q : Exit → Act → World → Prop} {a : Act} {w : World} {l : List Oper} (n : Nat) (hm : P.follows .mixedOrders = true)
    (hB : (decide (n ≤ l.length) && (Region.noSelect (l.take n).toArray && Region.lexFrom .any (l.take n).toArray n 0 (Array.replicate l.toArray.size false)) && backB .any l.toArray && tailB .any l.toArray n && guardB l.toArray n && Region.seqB .any l.toArray (l.length - n) n (fullTo n l.length)) = true)
    (hC : C { w with drawn := w.drawn + 1 })
    (h : wpQuiet P (l.take n).toArray C (fun a' => ∀ w', C w' → wpList P l.toArray Q (l.drop n) a' w') (l.take n) a) : (Code.region id l.toArray true).wp P Q a w := by
  simp only [Bool.and_eq_true, decide_eq_true_eq] at hB
  obtain ⟨⟨⟨⟨⟨hn, hlex⟩, hb⟩, ht⟩, hg⟩, hseq⟩ := hB
  refine wp_region_any hm ?_
  have hlen : (l.take n).length = n := by simp; omega
  have H := wpAnyQ_lex (C := C) (md := .any) hlex.1 (l.take n) 0 (Array.replicate l.toArray.size false) a (by simp) (by rw [hlen]; exact hlex.2) h
  rw [hlen] at H
  have := wpAny_of_head_tail (Q' := Q) hn hb ht hg hseq (fun a w hw hq => hq w hw) n _ a _ (by simp) (fun t _ htl => getD_in (by simpa using htl) (getD_replicate_false _ _)) hC H
  rw [show l.length - n + n = l.toArray.size by simp; omega] at this
  exact this
end

theorem steady_tail {P : Program} {id : Nat} {Q : Exit → Act → World → Prop} {a : Act} {W : World} {l : List Oper} (n : Nat) (hm : P.follows .mixedOrders = true)
    (hB : (decide (n ≤ l.length) && (Region.noSelect (l.take n).toArray && Region.lexFrom .any (l.take n).toArray n 0 (Array.replicate l.toArray.size false)) && backB .any l.toArray && tailB .any l.toArray n && guardB l.toArray n && Region.seqB .any l.toArray (l.length - n) n (fullTo n l.length)) = true)
    (h : wpQuiet P (l.take n).toArray (fun w' => ∃ x : Ext W, w' = x.w) (fun a' => ∀ w', (∃ x : Ext W, w' = x.w) → wpList P l.toArray Q (l.drop n) a' w') (l.take n) a) : (Code.region id l.toArray true).wp P Q a W :=
  wp_region_tail (C := fun w' => ∃ x : Ext W, w' = x.w) n hm hB ⟨⟨_, below_draw W⟩, rfl⟩ h

theorem steady_tail_from {P : Program} {id : Nat} {Q : Exit → Act → World → Prop} {a : Act} {W w : World} {l : List Oper} (hbw : Below W.heap.size W w) (n : Nat) (hm : P.follows .mixedOrders = true)
    (hB : (decide (n ≤ l.length) && (Region.noSelect (l.take n).toArray && Region.lexFrom .any (l.take n).toArray n 0 (Array.replicate l.toArray.size false)) && backB .any l.toArray && tailB .any l.toArray n && guardB l.toArray n && Region.seqB .any l.toArray (l.length - n) n (fullTo n l.length)) = true)
    (h : wpQuiet P (l.take n).toArray (fun w' => ∃ x : Ext W, w' = x.w) (fun a' => ∀ w', (∃ x : Ext W, w' = x.w) → wpList P l.toArray Q (l.drop n) a' w') (l.take n) a) : (Code.region id l.toArray true).wp P Q a w :=
  wp_region_tail (C := fun w' => ∃ x : Ext W, w' = x.w) n hm hB ⟨⟨_, hbw.trans ((below_draw w).mono hbw.size)⟩, rfl⟩ h

theorem bcell {W w1 : World} (hb : Below W.heap.size W w1) : (∀ b o, b < W.heap.size → w1.cell? ⟨b, o, none⟩ = W.cell? ⟨b, o, none⟩) ∧ (∀ b o, b < W.heap.size → w1.frozen? ⟨b, o, none⟩ = W.frozen? ⟨b, o, none⟩) :=
  ⟨fun b o h => hb.cell (p := ⟨b, o, none⟩) h, fun b o h => hb.frozen (p := ⟨b, o, none⟩) h⟩

/-! ### A slice of the call's own that grows -/

/-- 'out = append(out, x)', x laid into a block of its own by the operation ahead. -/
theorem wpList_append1 {P : Program} {ops : Array Oper} {rest : List Oper} {o : Oper} {a : Act} {Q : Exit → Act → World → Prop} {w : World} (hgd : o.guard = none) (s x : Operand) (t : TypeId)
    (ho : o.op = .call { callee := .builtin .append, args := #[s, x], argTypes := #[t, t] })
    (base : Nat) (e : TypeId) (i : TypeInfo) (z : Value) (size bytes : Nat) (ht : P.underlying t = some (.slice e)) (hi : P.info? e = some i) (hz : i.zero = some z)
    (hsize : i.size = size) (hby : i.bytes = bytes) (hzs : z.cells.size = size) (hsz : 0 < size)
    (v : Value) (n : Nat) (xs : List Value) (hs : a.eval s = v) (hown : w.ownsRow base e size v n xs) (cs : List Value)
    (hx : a.eval x = .slice (some ⟨w.heap.size, 0, none⟩) 1 1) (hl : cs.length = size) (h1 : ∀ u ∈ cs, u.oneCell' = true)
    (h63 : n + 1 ≤ maxLen) (hbytes : (n + 1) * bytes ≤ 140737488355328) (hbase : base ≤ w.heap.size)
    (h : ∀ v' w', w'.ownsRow base e size v' (n + 1) (xs ++ cs) → w.grownBy w' v.ownBlock → Below base w w' → wpList P ops Q rest (a.put o.dst v') w') :
    wpList P ops Q (o :: rest) a (w.alloc (.cells cs.toArray e)) := by
  refine wpList_append_own (w := w.alloc (.cells cs.toArray e)) hgd s x t ho base e i z size bytes ht hi hz hsize hby hzs hsz v n xs hs (hown.alloc _) ⟨w.heap.size, 0, none⟩ 1 1 cs hx (by simpa using hl) ?_ h1 h63 hbytes (by simp; omega) ?_
  · intro j u hj
    have hc : (w.alloc (.cells cs.toArray e)).cell? ⟨w.heap.size, j, none⟩ = cs[j]? := by
      rw [cell_of_row _ _ _ _ _ _ (heap_alloc_new w _)]
      simp
    simp only [Addr.add_lit, Nat.zero_add]
    rw [hc]; exact hj
  · intro v' w' h2 h3 _
    have hlt := hown.lt
    refine h v' w' h2 ⟨h3.os, h3.tape, h3.output, Nat.le_trans (by simp) h3.size, fun k hk hne => ?_⟩ ⟨h3.os, h3.tape, h3.output, Nat.le_trans (by simp) h3.size, fun k hk => ?_⟩
    · rw [h3.block k (by simp; omega) hne]
      exact Below.heap_alloc _ _ _ hk
    · rw [h3.block k (by simp; omega) (fun e => by have := hlt k e.symm; omega)]
      exact Below.heap_alloc _ _ _ (by omega)

/-- The cells of bytes. -/
def bcells (l : List UInt8) : List Value := l.map fun b => .int .u8 (b.toNat : Int)

theorem push_foldl (l : List UInt8) : ∀ s : ByteArray, (l.map fun b : UInt8 => (b.toNat : Int)).foldl (fun r n => r.push (UInt8.ofNat n.toNat)) s = ⟨s.data ++ l.toArray⟩ := by
  induction l with
  | nil => intro s; simp
  | cons b l ih =>
    intro s
    simp only [List.map_cons, List.foldl_cons]
    rw [ih]
    simp [ByteArray.push]

/-- 'string(b)', b a slice of bytes of the call's own. -/
theorem run_string_own {P : Program} {w : World} {base : Nat} {src dst e : TypeId} {v : Value} {n : Nat} {l : List UInt8} (hown : w.ownsRow base e 1 v n (bcells l))
    (hs : P.underlying src = some (.slice e)) (he : P.underlying e = some (.int .u8)) (hd : P.underlying dst = some .string) : (convert src dst v).run P w = .ok (.string ⟨l.toArray⟩) w := by
  have hlen : (bcells l).length = n := by simpa using hown.1
  have hln : l.length = n := by simpa [bcells] using hlen
  rcases hown.2 with ⟨rfl, hn⟩ | ⟨g, cap, cur, rfl, _, hg, _, _, _, _⟩
  · have : l = [] := List.eq_nil_of_length_eq_zero (by omega)
    subst this
    rw [run_convert_bytes_string w src dst e _ _ _ hs he hd]
    simp only [Conv.bytesToString, Sem.run_pure]
    rfl
  · rw [run_convert_bytes_string w src dst e _ _ _ hs he hd]
    have hb : bcells l = (l.map fun b : UInt8 => (b.toNat : Int)).map (Value.int .u8) := by simp [bcells]
    have := run_bytesToString (P := P) w ⟨g, 0, none⟩ n cap (l.map fun b : UInt8 => (b.toNat : Int)) (by
      rw [← hb]
      rw [← hlen]
      refine run_loadCells_list (w := w) _ (bcells l) fun j u hj => ?_
      exact hown.cells rfl j u hj)
    rw [this, push_foldl]
    simp

theorem below_bytes (w : World) (e : TypeId) (s : ByteArray) : Below w.heap.size w (Lib.bytesWorld w e s) :=
  ⟨rfl, rfl, rfl, by rw [Lib.bytesWorld_size]; omega, fun k hk => Lib.bytesWorld_at_old w e s k hk⟩

theorem bsize {W w1 : World} (hb : Below W.heap.size W w1) : ∀ b, b < W.heap.size → b < w1.heap.size := fun _ h => Nat.lt_of_lt_of_le h hb.size

end Go.Proofs.YtokhlojibhegnaaDoor

namespace Go.Proofs.YtokhlojibhegnaaDoor
set_option linter.unusedVariables false
set_option linter.unusedSimpArgs false
open Go.ChangeShapes Go.WideShapes Go.ChangeAt Go.RowKit

theorem own : ownKnob Tryd.prog.godebug = none := by kernel_rfl
theorem laidOut : laidOutB Tryd.prog = true := by kernel_rfl

section
variable {H : Type} {enc : TypeId × Value → H} {P : Program} {W W' : World}

theorem trodAll_below (hl : laidOutB P = true) (hb : Below W.heap.size W W') : ∀ (ts : List TypeId) (vs : List Value) (ds : List (DataW H)) (ps : List MemPlace), (∀ t ∈ ts, P.readableRec t = true ∧ t < P.types.size) →
    DataW.TrodAll enc P W 0 (fun _ => true) true ts vs ds ps → (∀ x ∈ ps, x.block < W.heap.size) → DataW.TrodAll enc P W' 0 (fun b => decide (b < W.heap.size)) true ts vs ds ps
  | [], [], [], _, _, h, _ => h
  | t :: ts, v :: vs, d :: ds, ps, hr, h, hlt => by
    obtain ⟨p, q, h1, h2, rfl⟩ := h
    have ht := hr t (by simp)
    exact ⟨p, q, Below.trod hl ht.1 ht.2 h1 hb (fun x hx => hlt x (by simp [hx])), trodAll_below hl hb ts vs ds q (fun t' h' => hr t' (by simp [h'])) h2 (fun x hx => hlt x (by simp [hx])), rfl⟩
  | [], [], _ :: _, _, _, h, _ => h.elim
  | [], _ :: _, _, _, _, h, _ => h.elim
  | _ :: _, [], _, _, _, h, _ => h.elim
  | _ :: _, _ :: _, [], _, _, h, _ => h.elim

/-- A law's row: true, and every argument reads as it did. -/
theorem law_post {f : Func} {s : ChangeSpec} {args : Array Value} {ds : List (DataW H)} {before : List MemPlace} {tb : TypeId} (hl : laidOutB P = true)
    (hW : DataW.Whole enc P f.params.toList s.vars false W args.toList ds [] before) (hsv : s.vars = []) (hr0 : (f.params.toList.all fun t => P.readableRec t && decide (t < P.types.size)) = true)
    (hrt : f.resultTypes = #[tb]) (htb : P.underlying tb = some .bool) (h1 : (s.fn H (ds ++ [])).results = [.lit (.bool true)]) (h2 : (s.fn H (ds ++ [])).args = ds) (h3 : (s.fn H (ds ++ [])).vars = [])
    (hb : Below W.heap.size W W') : s.post enc P f false true false false W args (.bool true) W' := by
  have hr : ∀ t ∈ f.params.toList, P.readableRec t = true ∧ t < P.types.size := fun t ht => by simpa using List.all_eq_true.1 hr0 t ht
  have hlt : ∀ p ∈ before, p.block < W.heap.size := fun p hp => hW.lt p hp
  have hW0 := hW
  obtain ⟨p, q, hA, hV, rfl, _, _⟩ := hW0
  rw [hsv] at hV
  obtain rfl : q = [] := hV
  refine ⟨ds, [], _, [], p, [], hW, ?_, ?_, ?_, hb.frame _, fun h => by cases h⟩
  · rw [h1, hrt]
    exact trodAll_mk1 (shut_bool htb true)
  · rw [h2]
    exact trodAll_below hl hb _ _ _ _ hr hA (fun x hx => hlt x (by simp [hx]))
  · rw [h3, hsv]; rfl
end

section
variable {H : Type} {enc : TypeId × Value → H} {P : Program} {w : World} {base : Nat} {sp : Nat → Bool} {held : Bool}

theorem okWide_array {r : Reach} {b : Nat} {t e : TypeId} {n : Nat} {v : Value} (ht : P.underlying t = some (.array n e)) (h : Value.okWide P w r b t v) : ∃ cs, v = .agg cs ∧ cs.size = P.cellsOf t := by
  simp only [Value.okWide, ht] at h
  obtain ⟨cs, h1, h2, _⟩ := h
  exact ⟨cs, h1, h2⟩

/-- An array of integers by value. -/
theorem open_int_array {r : Reach} {b0 : Nat} {t e : TypeId} {n : Nat} {k : IntKind} {v : Value} {d : DataW H} {ps : List MemPlace} (ht : P.underlying t = some (.array n e)) (he : P.underlying e = some (.int k)) (hc : P.cellsOf e = 1) (hn : P.cellsOf t = n)
    (hval : Value.okWide P w r b0 t v) (hd : DataW.Trod enc P w base sp held t v d ps) : ∃ zs : List Int, zs.length = n ∧ v = .agg (zs.map (Value.int k)).toArray ∧ ∀ z ∈ zs, (Lit.int k z).wf = true := by
  obtain ⟨cs, rfl, hs⟩ := okWide_array ht hval
  obtain ⟨fuel, hf⟩ := hd
  obtain ⟨xs, m, _, _, hl, hx, hall⟩ := DataW.trod_array ht hf
  have hcs : (Value.agg cs).cells.toList = cs.toList := rfl
  rw [hcs] at hl hall
  have hlen : cs.toList.length = n := by rw [hl, hn]
  have key : ∀ i, (h : i < cs.toList.length) → ∃ z, cs.toList[i] = .int k z ∧ (Lit.int k z).wf = true := by
    intro i h
    have h1 := hall i (by omega)
    rw [hc, Nat.mul_one, List.take_one, List.head?_drop, List.getElem?_eq_getElem h, List.getElem?_eq_getElem (by omega)] at h1
    obtain ⟨z, hz, _, hw⟩ := DataW.trod_int he h1
    exact ⟨z, by simpa using hz, hw⟩
  have all : ∀ l : List Value, (∀ i, (h : i < l.length) → ∃ z, l[i] = .int k z ∧ (Lit.int k z).wf = true) → ∃ zs : List Int, zs.length = l.length ∧ l = zs.map (Value.int k) ∧ ∀ z ∈ zs, (Lit.int k z).wf = true := by
    intro l
    induction l with
    | nil => exact fun _ => ⟨[], rfl, rfl, by simp⟩
    | cons c l ih =>
      intro h
      obtain ⟨z, hz, hw⟩ := h 0 (by simp)
      obtain ⟨zs, h1, h2, h3⟩ := ih (fun i hi => by obtain ⟨z', h', w'⟩ := h (i + 1) (by simpa using hi); exact ⟨z', h', w'⟩)
      refine ⟨z :: zs, by simp [h1], ?_, ?_⟩
      · simp only [List.map_cons]
        rw [← h2, ← hz]; rfl
      · intro y hy
        rcases List.mem_cons.1 hy with rfl | hy
        · exact hw
        · exact h3 y hy
  obtain ⟨zs, h1, h2, h3⟩ := all cs.toList key
  exact ⟨zs, by rw [h1, hlen], by rw [← h2], h3⟩

theorem len2 {zs : List Int} (h : zs.length = 2) : ∃ a b, zs = [a, b] := by
  match zs, h with
  | [a, b], _ => exact ⟨a, b, rfl⟩
theorem len3 {zs : List Int} (h : zs.length = 3) : ∃ a b c, zs = [a, b, c] := by
  match zs, h with
  | [a, b, c], _ => exact ⟨a, b, c, rfl⟩
theorem len4 {zs : List Int} (h : zs.length = 4) : ∃ a b c d, zs = [a, b, c, d] := by
  match zs, h with
  | [a, b, c, d], _ => exact ⟨a, b, c, d, rfl⟩

theorem wf_i64 {n : Int} (h : (Lit.int .i64 n).wf = true) : -9223372036854775808 ≤ n ∧ n ≤ 9223372036854775807 := by
  have h1 : IntKind.i64.min = -9223372036854775808 := rfl
  have h2 : IntKind.i64.max = 9223372036854775807 := rfl
  simpa [Lit.wf, h1, h2] using h
theorem wf_u64 {n : Int} (h : (Lit.int .u64 n).wf = true) : 0 ≤ n ∧ n ≤ 18446744073709551615 := by
  have h1 : IntKind.u64.min = 0 := rfl
  have h2 : IntKind.u64.max = 18446744073709551615 := rfl
  simpa [Lit.wf, h1, h2] using h
theorem wf_u32 {n : Int} (h : (Lit.int .u32 n).wf = true) : 0 ≤ n ∧ n ≤ 4294967295 := by
  have h1 : IntKind.u32.min = 0 := rfl
  have h2 : IntKind.u32.max = 4294967295 := rfl
  simpa [Lit.wf, h1, h2] using h
theorem wf_u16 {n : Int} (h : (Lit.int .u16 n).wf = true) : 0 ≤ n ∧ n ≤ 65535 := by
  have h1 : IntKind.u16.min = 0 := rfl
  have h2 : IntKind.u16.max = 65535 := rfl
  simpa [Lit.wf, h1, h2] using h
theorem wf_u8 {n : Int} (h : (Lit.int .u8 n).wf = true) : 0 ≤ n ∧ n ≤ 255 := by
  have h1 : IntKind.u8.min = 0 := rfl
  have h2 : IntKind.u8.max = 255 := rfl
  simpa [Lit.wf, h1, h2] using h
end
end Go.Proofs.YtokhlojibhegnaaDoor

namespace Go.Proofs.YtokhlojibhegnaaDoor
set_option linter.unusedVariables false
set_option linter.unusedSimpArgs false
set_option maxRecDepth 100000
abbrev bs (l : List UInt8) : ByteArray := ⟨l.toArray⟩
theorem bs_app (l m : List UInt8) : bs l ++ bs m = bs (l ++ m) := by
  apply ByteArray.ext
  rw [ByteArray.data_append]
  simp
theorem bs_size (l : List UInt8) : (bs l).size = l.length := by simp [ByteArray.size]
/-! ### The lexer as a plain function of bytes -/
structure TokP where
  k : Nat
  t : List UInt8
  n : Nat
  l : Nat
  c : Nat
def isDig (b : UInt8) : Bool := decide (48 ≤ b.toNat) && decide (b.toNat ≤ 57)
def isLet (b : UInt8) : Bool := (decide (65 ≤ b.toNat) && decide (b.toNat ≤ 90)) || ((decide (97 ≤ b.toNat) && decide (b.toNat ≤ 122)) || decide (b.toNat = 95))
def alnum (b : UInt8) : Bool := isDig b || isLet b
def isHex (b : UInt8) : Bool := isDig b || ((decide (97 ≤ b.toNat) && decide (b.toNat ≤ 102)) || (decide (65 ≤ b.toNat) && decide (b.toNat ≤ 70)))
def hexN (b : UInt8) : Nat := if b.toNat ≤ 57 then b.toNat - 48 else if 97 ≤ b.toNat then b.toNat - 87 else b.toNat - 55
def valF (base : Nat) : Nat → List UInt8 → Option Nat
  | n, [] => some n
  | n, b :: r => if n * base + hexN b < 18446744073709551616 then valF base (n * base + hexN b) r else none
/-- A run that begins with a digit: its number, or the error. -/
inductive TR where
  | ok (k : Nat) (t : List UInt8) (n : Nat)
  | err (e : Nat)
def numR (s : List UInt8) : Option Nat → TR
  | some n => .ok 1 s n
  | none => .err 5
def sixteen (s : List UInt8) : Bool := [48, 120].isPrefixOf s && (decide (2 < s.length) && (s.drop 2).all isHex)
def numF (s : List UInt8) : TR :=
  if sixteen s then numR s (valF 16 0 (s.drop 2)) else if s.all isDig then numR s (valF 10 0 s) else .err 4
def signsL : List (List UInt8) := [[46, 46], [61, 61], [33, 61], [60, 61], [62, 61], [60, 60], [62, 62], [38, 38], [124, 124], [123], [125], [40], [41], [91], [93], [59], [58], [44], [61], [60], [62], [43], [45], [42], [47], [37], [38], [124], [33]]
def signF (r : List UInt8) : Option (List UInt8) := signsL.find? (·.isPrefixOf r)
def tokF (r : List UInt8) : TR :=
  match r.takeWhile alnum with
  | [] => match signF r with | none => .err 4 | some t => .ok 2 t 0
  | b :: w => if isDig b then numF (b :: w) else if (b :: w).length ≤ 32 then .ok 0 (b :: w) 0 else .err 7
def isCom (r : List UInt8) : Bool := [47, 47].isPrefixOf r
inductive Stp where
  | done
  | go (r : List UInt8) (l c : Nat)
  | tok (k : Nat) (t : List UInt8) (n : Nat)
  | err (e : Nat)
def notNl (b : UInt8) : Bool := b != 10
def TR.stp : TR → Stp
  | .ok k t n => .tok k t n
  | .err e => .err e
def stp (r : List UInt8) (l c : Nat) : Stp :=
  match r with
  | [] => .done
  | b :: r' => if b = 10 then .go r' (l + 1) 1 else if b = 32 ∨ b = 9 ∨ b = 13 then .go r' l (c + 1)
    else if isCom (b :: r') then .go ((b :: r').dropWhile notNl) l (c + ((b :: r').takeWhile notNl).length)
    else (tokF (b :: r')).stp
inductive LR where
  | ok (ts : List TokP)
  | err (l c e : Nat)
def LR.pre (o : List TokP) : LR → LR
  | .ok ts => .ok (o ++ ts)
  | .err l c e => .err l c e
def lexN : Nat → List UInt8 → Nat → Nat → LR
  | 0, _, _, _ => .ok []
  | n + 1, r, l, c => match stp r l c with
    | .done => .ok [⟨3, [], 0, l, c⟩]
    | .go r' l' c' => lexN n r' l' c'
    | .tok k t v => (lexN n (r.drop t.length) l (c + t.length)).pre [⟨k, t, v, l, c⟩]
    | .err e => .err l c e
def lexF (r : List UInt8) (l c : Nat) : LR := lexN (r.length + 1) r l c

theorem takeWhile_split {α} (p : α → Bool) : ∀ l : List α, ∃ X, l = l.takeWhile p ++ X ∧ (∀ c, X[0]? = some c → p c = false)
  | [] => ⟨[], rfl, fun c h => by cases h⟩
  | a :: l => by
    rcases h : p a with _ | _
    · exact ⟨a :: l, by rw [List.takeWhile_cons, h]; rfl, fun c hc => by cases hc; exact h⟩
    · obtain ⟨X, h1, h2⟩ := takeWhile_split p l
      exact ⟨X, by rw [List.takeWhile_cons, h]; show a :: l = a :: (l.takeWhile p ++ X); rw [← h1], h2⟩
theorem takeWhile_all {α} (p : α → Bool) : ∀ l : List α, ∀ c ∈ l.takeWhile p, p c = true
  | [], c, h => by cases h
  | a :: l, c, h => by
    rw [List.takeWhile_cons] at h
    split at h
    · rename_i ha
      rcases List.mem_cons.1 h with rfl | h
      · exact ha
      · exact takeWhile_all p l c h
    · cases h
theorem dropWhile_eq {α} (p : α → Bool) : ∀ l : List α, l.dropWhile p = l.drop (l.takeWhile p).length
  | [] => rfl
  | a :: l => by
    rw [List.dropWhile_cons, List.takeWhile_cons]
    split
    · rw [dropWhile_eq p l]; rfl
    · rfl
theorem takeWhile_app {α : Type} {p : α → Bool} : ∀ {l X : List α}, (∀ c ∈ l, p c = true) → (∀ c, X[0]? = some c → p c = false) → (l ++ X).takeWhile p = l
  | [], [], _, _ => rfl
  | [], c :: X, _, h => by rw [List.nil_append, List.takeWhile_cons, if_neg (by rw [h c rfl]; decide)]
  | c :: l, X, h1, h2 => by
    rw [List.cons_append, List.takeWhile_cons, if_pos (h1 c (by simp)), takeWhile_app (fun d hd => h1 d (by simp [hd])) h2]
theorem signs_len : ∀ t ∈ signsL, 0 < t.length ∧ t.length ≤ 2 ∧ (∀ c ∈ t, alnum c = false) ∧ 10 ∉ t := by decide +kernel
theorem signF_mem {r t : List UInt8} (h : signF r = some t) : t ∈ signsL ∧ ∃ X, r = t ++ X := by
  have h1 := List.find?_some h
  exact ⟨List.mem_of_find?_eq_some h, by obtain ⟨X, hX⟩ := List.isPrefixOf_iff_prefix.1 h1; exact ⟨X, hX.symm⟩⟩
theorem numF_ok {s t : List UInt8} {k n : Nat} (h : numF s = .ok k t n) : k = 1 ∧ t = s := by
  unfold numF at h
  split at h
  · revert h; cases valF 16 0 (s.drop 2) <;> intro h <;> cases h; exact ⟨rfl, rfl⟩
  · split at h
    · revert h; cases valF 10 0 s <;> intro h <;> cases h; exact ⟨rfl, rfl⟩
    · cases h
/-- What a token is. -/
theorem tokF_ok {r t : List UInt8} {k n : Nat} (h : tokF r = .ok k t n) : (∃ X, r = t ++ X) ∧ t ≠ [] ∧ k < 3 ∧ 10 ∉ t := by
  unfold tokF at h
  split at h
  · split at h
    · cases h
    · rename_i hs
      cases h
      obtain ⟨h1, h2⟩ := signF_mem hs
      have h3 := signs_len t h1
      exact ⟨h2, by intro e; rw [e] at h3; exact absurd h3.1 (by decide), by decide, h3.2.2.2⟩
  · rename_i b w hw
    obtain ⟨X, hX, -⟩ := takeWhile_split alnum r
    have ha : 10 ∉ r.takeWhile alnum := fun hc => absurd (takeWhile_all alnum r 10 hc) (by decide)
    rw [hw] at hX ha
    split at h
    · obtain ⟨rfl, rfl⟩ := numF_ok h
      exact ⟨⟨X, hX⟩, by simp, by decide, ha⟩
    · split at h
      · cases h
        exact ⟨⟨X, hX⟩, by simp, by decide, ha⟩
      · cases h
theorem stp_go {r r' : List UInt8} {l c l' c' : Nat} (h : stp r l c = .go r' l' c') : r'.length < r.length := by
  unfold stp at h
  split at h
  · cases h
  · rename_i b x
    split at h
    · cases h; simp
    · split at h
      · cases h; simp
      · split at h
        · rename_i hc
          cases h
          have hb : b = 47 := by
            have := List.isPrefixOf_iff_prefix.1 hc
            obtain ⟨X, hX⟩ := this
            simp at hX
            exact hX.1.symm
          rw [List.dropWhile_cons, if_pos (by rw [hb]; decide)]
          rw [dropWhile_eq, List.length_drop]
          simp; omega
        · revert h; cases tokF (b :: x) <;> intro h <;> cases h
theorem stp_tok {r t : List UInt8} {l c k n : Nat} (h : stp r l c = .tok k t n) : tokF r = .ok k t n := by
  unfold stp at h
  split at h
  · cases h
  · rename_i b x
    split at h
    · cases h
    · split at h
      · cases h
      · split at h
        · cases h
        · revert h; cases tokF (b :: x) <;> intro h <;> cases h; rfl
theorem lexN_two : ∀ (n m : Nat) (r : List UInt8) (l c : Nat), r.length < n → r.length < m → lexN n r l c = lexN m r l c := by
  intro n
  induction n with
  | zero => intro m r l c h; omega
  | succ n ih =>
    intro m r l c h hm
    obtain ⟨m, rfl⟩ : ∃ k, m = k + 1 := ⟨m - 1, by omega⟩
    rw [lexN, lexN]
    rcases hs : stp r l c with _ | ⟨r', l', c'⟩ | ⟨k, t, v⟩ | e <;> dsimp only
    · have h1 := stp_go hs
      exact ih m r' l' c' (by omega) (by omega)
    · obtain ⟨⟨X, rfl⟩, h2, -⟩ := tokF_ok (stp_tok hs)
      have h3 : 0 < t.length := List.length_pos_iff.2 h2
      rw [List.length_append] at h hm
      rw [ih m ((t ++ X).drop t.length) l (c + t.length) (by simp; omega) (by simp; omega)]
theorem lexF_eq (r : List UInt8) (l c : Nat) : lexF r l c = match stp r l c with
    | .done => .ok [⟨3, [], 0, l, c⟩]
    | .go r' l' c' => lexF r' l' c'
    | .tok k t v => (lexF (r.drop t.length) l (c + t.length)).pre [⟨k, t, v, l, c⟩]
    | .err e => .err l c e := by
  unfold lexF
  rw [lexN]
  rcases hs : stp r l c with _ | ⟨r', l', c'⟩ | ⟨k, t, v⟩ | e <;> dsimp only
  · have h1 := stp_go hs
    exact lexN_two _ _ r' l' c' (by omega) (by omega)
  · obtain ⟨⟨X, rfl⟩, h2, -⟩ := tokF_ok (stp_tok hs)
    have h3 : 0 < t.length := List.length_pos_iff.2 h2
    rw [lexN_two _ (((t ++ X).drop t.length).length + 1) ((t ++ X).drop t.length) l (c + t.length) (by simp; omega) (by simp)]
theorem LR.pre_pre (a b : List TokP) (x : LR) : (x.pre b).pre a = x.pre (a ++ b) := by
  cases x <;> simp [LR.pre]
/-! ### Skipping: the place behind bytes -/
def skipP (p : Nat × Nat) (b : UInt8) : Nat × Nat := if b = 10 then (p.1 + 1, 1) else (p.1, p.2 + 1)
def blank (b : UInt8) : Bool := decide (b = 32) || (decide (b = 9) || (decide (b = 10) || decide (b = 13)))
theorem skip_line : ∀ (x : List UInt8) (l c : Nat), 10 ∉ x → x.foldl skipP (l, c) = (l, c + x.length)
  | [], l, c, _ => rfl
  | b :: x, l, c, h => by
    rw [List.foldl_cons]
    unfold skipP
    rw [if_neg (fun e => h (by rw [e]; simp))]
    rw [show List.foldl (fun p b => if b = 10 then (p.1 + 1, 1) else (p.1, p.2 + 1)) (l, c + 1) x = x.foldl skipP (l, c + 1) from rfl, skip_line x l (c + 1) (fun e => h (by simp [e]))]
    rw [List.length_cons, Nat.add_assoc, Nat.add_comm 1]
theorem lexF_blank : ∀ (x r : List UInt8) (p : Nat × Nat), (∀ c ∈ x, blank c = true) → lexF (x ++ r) p.1 p.2 = lexF r (x.foldl skipP p).1 (x.foldl skipP p).2
  | [], r, p, _ => rfl
  | b :: x, r, p, h => by
    rw [List.cons_append, lexF_eq, List.foldl_cons]
    have hb := h b (by simp)
    unfold stp
    dsimp only
    by_cases h10 : b = 10
    · rw [if_pos h10]
      dsimp only
      rw [show skipP p b = (p.1 + 1, 1) from by unfold skipP; rw [if_pos h10]]
      exact lexF_blank x r (p.1 + 1, 1) (fun c hc => h c (by simp [hc]))
    · rw [if_neg h10, if_pos (by simp [blank, h10] at hb; rcases hb with hb | hb | hb <;> simp [hb])]
      dsimp only
      rw [show skipP p b = (p.1, p.2 + 1) from by unfold skipP; rw [if_neg h10]]
      exact lexF_blank x r (p.1, p.2 + 1) (fun c hc => h c (by simp [hc]))
theorem isCom_eq {r : List UInt8} (h : isCom r = true) : ∃ X, r = 47 :: 47 :: X := by
  obtain ⟨X, hX⟩ := List.isPrefixOf_iff_prefix.1 h
  exact ⟨X, hX.symm⟩
theorem takeWhile_nl (r : List UInt8) : 10 ∉ r.takeWhile notNl := fun h => absurd (takeWhile_all notNl r 10 h) (by decide)
/-- A comment is passed over at once. -/
theorem lexF_com {r : List UInt8} (p : Nat × Nat) (h : isCom r = true) : lexF r p.1 p.2 = lexF (r.dropWhile notNl) ((r.takeWhile notNl).foldl skipP p).1 ((r.takeWhile notNl).foldl skipP p).2 := by
  obtain ⟨X, rfl⟩ := isCom_eq h
  rw [lexF_eq, skip_line _ _ _ (takeWhile_nl _)]
  unfold stp
  dsimp only
  rw [if_neg (by decide), if_neg (by decide), if_pos h]
/-- Where no blank and no comment stands, a token is due. -/
theorem lexF_tok {r : List UInt8} (l c : Nat) (hr : r ≠ []) (hb : ∀ b, r[0]? = some b → blank b = false) (hc : isCom r = false) : lexF r l c = match tokF r with
    | .ok k t v => (lexF (r.drop t.length) l (c + t.length)).pre [⟨k, t, v, l, c⟩]
    | .err e => .err l c e := by
  rw [lexF_eq]
  rcases r with _ | ⟨b, x⟩
  · exact absurd rfl hr
  have h0 := hb b rfl
  unfold stp
  dsimp only
  rw [if_neg (by intro e; rw [e] at h0; revert h0; decide), if_neg (by rintro (e | e | e) <;> (rw [e] at h0; revert h0; decide)), if_neg (by rw [hc]; decide)]
  cases tokF (b :: x) <;> rfl
theorem lexF_nil (l c : Nat) : lexF [] l c = .ok [⟨3, [], 0, l, c⟩] := by rw [lexF_eq]; rfl
/-! ### Lines: what follows a text -/
def LR.shift (k : Nat) : LR → LR
  | .ok ts => .ok (ts.map fun t => ⟨t.k, t.t, t.n, t.l + k, t.c⟩)
  | .err l c e => .err (l + k) c e
def Stp.shift (k : Nat) : Stp → Stp
  | .go r l c => .go r (l + k) c
  | x => x
theorem LR.shift_pre (k : Nat) (u : TokP) (x : LR) : (x.pre [u]).shift k = (x.shift k).pre [⟨u.k, u.t, u.n, u.l + k, u.c⟩] := by
  cases x <;> simp [LR.pre, LR.shift]
theorem stp_shift (k : Nat) (r : List UInt8) (l c : Nat) : stp r (l + k) c = (stp r l c).shift k := by
  unfold stp
  split
  · rfl
  · rename_i b x
    split
    · simp [Stp.shift]; omega
    · split
      · rfl
      · split
        · rfl
        · cases tokF (b :: x) <;> rfl
theorem lexN_shift (k : Nat) : ∀ (n : Nat) (r : List UInt8) (l c : Nat), lexN n r (l + k) c = (lexN n r l c).shift k
  | 0, _, _, _ => rfl
  | n + 1, r, l, c => by
    rw [lexN, lexN, stp_shift]
    rcases stp r l c with _ | ⟨r', l', c'⟩ | ⟨k', t, v⟩ | e <;> dsimp only [Stp.shift]
    · rfl
    · exact lexN_shift k n r' l' c'
    · rw [lexN_shift k n, LR.shift_pre]
    · rfl
theorem lexF_shift (k : Nat) (r : List UInt8) (l c : Nat) : lexF r (l + k) c = (lexF r l c).shift k := lexN_shift k _ r l c
theorem takeWhile_end {α} {p : α → Bool} : ∀ {s Y : List α}, (∀ c, Y[0]? = some c → p c = false) → (s ++ Y).takeWhile p = s.takeWhile p
  | [], [], _ => rfl
  | [], y :: Y, h => by rw [List.nil_append, List.takeWhile_cons, if_neg (by rw [h y rfl]; decide)]; rfl
  | a :: s, Y, h => by rw [List.cons_append, List.takeWhile_cons, List.takeWhile_cons, takeWhile_end h]
theorem signs_slash : ∀ p ∈ signsL, p[1]? ≠ some 47 := by decide +kernel
theorem isPre_end {p s Y : List UInt8} (hp : 0 < p.length) (hl : p.length ≤ 2) (h1 : p[1]? ≠ some 47) (hs : s ≠ []) (hY : Y[0]? = some 47) : p.isPrefixOf (s ++ Y) = p.isPrefixOf s := by
  rcases Y with _ | ⟨y, Y⟩
  · cases hY
  cases hY
  match p, s, hp, hl, hs with
  | [a], b :: s, _, _, _ => simp [List.isPrefixOf]
  | [a, a'], [b], _, _, _ => simp [List.isPrefixOf]; intro _ e; exact absurd (by rw [← e]; rfl) h1
  | [a, a'], b :: b' :: s, _, _, _ => simp [List.isPrefixOf]
theorem find_congr {α} {p q : α → Bool} : ∀ {l : List α}, (∀ a ∈ l, p a = q a) → l.find? p = l.find? q
  | [], _ => rfl
  | a :: l, h => by rw [List.find?_cons, List.find?_cons, h a (by simp), find_congr (fun b hb => h b (by simp [hb]))]
theorem signF_end {s Y : List UInt8} (hs : s ≠ []) (hY : Y[0]? = some 47) : signF (s ++ Y) = signF s :=
  find_congr fun p hp => isPre_end (signs_len p hp).1 (signs_len p hp).2.1 (signs_slash p hp) hs hY
theorem tokF_end {s Y : List UInt8} (hs : s ≠ []) (hY : Y[0]? = some 47) : tokF (s ++ Y) = tokF s := by
  unfold tokF
  rw [takeWhile_end (fun c hc => by rw [hY] at hc; cases hc; decide), signF_end hs hY]
theorem isCom_end {s Y : List UInt8} (hs : s ≠ []) (hl : s.getLast? ≠ some 47) : isCom (s ++ Y) = isCom s := by
  match s, hs with
  | [b], _ =>
    have : (47 == b) = false := by
      rcases h : (47 == b) with _ | _
      · rfl
      · rw [eq_of_beq h.symm.symm] at hl; simp at hl
    simp [isCom, List.isPrefixOf, this]
  | b :: b' :: s, _ => simp [isCom, List.isPrefixOf]
theorem last_drop {s : List UInt8} (n : Nat) (hl : s.getLast? ≠ some 47) : (s.drop n).getLast? ≠ some 47 := by
  rw [List.getLast?_drop]
  split
  · simp
  · exact hl
/-- A text that ends well, and behind it a comment's line and another text. -/
theorem lexF_lines (note t : List UInt8) (hn : 10 ∉ note) : ∀ (n : Nat) (s : List UInt8) (l c : Nat) (ts : List TokP), s.length < n → s.getLast? ≠ some 47 → lexF s l c = .ok ts →
    ∃ us l' c', ts = us ++ [⟨3, [], 0, l', c'⟩] ∧ l' = l + s.count 10 ∧ lexF (s ++ 47 :: 47 :: (note ++ 10 :: t)) l c = (lexF t (l' + 1) 1).pre us := by
  intro n
  induction n with
  | zero => intro s l c ts h; omega
  | succ n ih =>
    intro s l c ts hlen hl h
    have hcom : ∀ (x : List UInt8) (l c : Nat), 10 ∉ x → lexF (47 :: 47 :: (x ++ 10 :: t)) l c = lexF t (l + 1) 1 := fun x l c hx => by
      have hx2 : ∀ d ∈ 47 :: 47 :: x, notNl d = true := fun d hd => by
        rcases h : notNl d with _ | _
        · unfold notNl at h
          have : d = 10 := by simpa using h
          rw [this] at hd
          simp at hd
          exact absurd hd hx
        · rfl
      have h1 : (47 :: 47 :: (x ++ 10 :: t)).takeWhile notNl = 47 :: 47 :: x := takeWhile_app (l := 47 :: 47 :: x) (X := 10 :: t) hx2 (fun d hd => by cases hd; decide)
      have h2 : (47 :: 47 :: (x ++ 10 :: t)).dropWhile notNl = 10 :: t := by
        rw [dropWhile_eq, h1]
        exact List.drop_left (l₁ := 47 :: 47 :: x)
      rw [lexF_com (l, c) rfl, h1, h2, skip_line _ _ _ (fun e => by simp at e; exact hx e), lexF_eq]
      rfl
    rcases s with _ | ⟨b, x⟩
    · rw [lexF_nil] at h
      cases h
      refine ⟨[], l, c, rfl, rfl, ?_⟩
      rw [List.nil_append, hcom note l c hn]
      cases lexF t (l + 1) 1 <;> rfl
    have hlx : x.getLast? ≠ some 47 := last_drop (s := b :: x) 1 hl
    by_cases h10 : b = 10
    · subst h10
      rw [lexF_eq] at h
      obtain ⟨us, l', c', e1, e2, e3⟩ := ih x (l + 1) 1 ts (by simp at hlen; omega) hlx h
      refine ⟨us, l', c', e1, by rw [e2, List.count_cons]; simp; omega, ?_⟩
      rw [List.cons_append, lexF_eq]
      exact e3
    by_cases hbl : b = 32 ∨ b = 9 ∨ b = 13
    · have hst : ∀ y, stp (b :: y) l c = .go y l (c + 1) := fun y => by unfold stp; dsimp only; rw [if_neg h10, if_pos hbl]
      rw [lexF_eq, hst] at h
      obtain ⟨us, l', c', e1, e2, e3⟩ := ih x l (c + 1) ts (by simp at hlen; omega) hlx h
      refine ⟨us, l', c', e1, by rw [e2, List.count_cons]; simp [h10], ?_⟩
      rw [List.cons_append, lexF_eq, hst]
      exact e3
    have hnb : ∀ d, (b :: x)[0]? = some d → blank d = false := fun d hd => by
      cases hd
      rcases hh : blank b with _ | _
      · rfl
      · simp [blank, h10] at hh; rcases hh with hh | hh | hh <;> simp [hh] at hbl
    rcases hc : isCom (b :: x) with _ | _
    · rw [lexF_tok l c (by simp) hnb hc] at h
      rw [lexF_tok l c (by simp) (fun d hd => hnb d (by simpa using hd)) (by rw [isCom_end (by simp) hl]; exact hc), tokF_end (by simp) rfl]
      rcases ht : tokF (b :: x) with ⟨k, w, v⟩ | e
      · rw [ht] at h
        dsimp only at h ⊢
        obtain ⟨⟨X, hX⟩, hw, -, hw10⟩ := tokF_ok ht
        have hw0 : 0 < w.length := List.length_pos_iff.2 hw
        rw [hX, List.append_assoc, List.drop_left]
        rw [hX, List.drop_left] at h
        have hX2 : X = (b :: x).drop w.length := by rw [hX, List.drop_left]
        rcases hr : lexF X l (c + w.length) with ts' | _
        · rw [hr] at h
          have h' : [⟨k, w, v, l, c⟩] ++ ts' = ts := by injection h
          obtain ⟨us, l', c', e1, e2, e3⟩ := ih X l (c + w.length) ts' (by rw [hX, List.length_append] at hlen; omega) (by rw [hX2]; exact last_drop _ hl) hr
          refine ⟨[⟨k, w, v, l, c⟩] ++ us, l', c', by rw [← h', e1, List.append_assoc], by rw [e2, List.count_append, List.count_eq_zero.2 hw10, Nat.zero_add], ?_⟩
          rw [e3, LR.pre_pre]
        · rw [hr] at h; cases h
      · rw [ht] at h; cases h
    · obtain ⟨Z, hZ⟩ := isCom_eq hc
      obtain ⟨X, hX, hX0⟩ := takeWhile_split notNl (b :: x)
      have hd : (b :: x).dropWhile notNl = X := by
        rw [dropWhile_eq]
        conv => lhs; rw [hX, List.takeWhile_append_of_pos (takeWhile_all _ _)]
        have : X.takeWhile notNl = [] := by
          rcases X with _ | ⟨d, X⟩
          · rfl
          · rw [List.takeWhile_cons, if_neg (by rw [hX0 d rfl]; decide)]
        rw [this, List.append_nil, List.drop_left]
      rw [lexF_com (l, c) hc, hd, skip_line _ _ _ (takeWhile_nl _)] at h
      rcases X with _ | ⟨d, X⟩
      · rw [List.append_nil] at hX
        rw [lexF_nil] at h
        cases h
        have hb10 : 10 ∉ b :: x := by rw [hX]; exact takeWhile_nl _
        refine ⟨[], l, _, rfl, by rw [List.count_eq_zero.2 hb10]; rfl, ?_⟩
        have : b :: x ++ 47 :: 47 :: (note ++ 10 :: t) = 47 :: 47 :: ((Z ++ 47 :: 47 :: note) ++ 10 :: t) := by rw [hZ]; simp
        rw [this, hcom _ l c (by
          rw [hZ] at hb10
          intro e
          simp at e hb10
          rcases e with e | e
          · exact hb10 e
          · exact hn e)]
        cases lexF t (l + 1) 1 <;> rfl
      · have hd10 : d = 10 := by
          have := hX0 d rfl
          unfold notNl at this
          simpa using this
        subst hd10
        have htw := takeWhile_nl (b :: x)
        obtain ⟨us, l', c', e1, e2, e3⟩ := ih (10 :: X) l _ ts (by
          have := congrArg List.length hX
          rw [List.length_append] at this
          have h2 : 0 < ((b :: x).takeWhile notNl).length := by
            rw [hZ, List.takeWhile_cons, if_pos (by decide)]
            simp
          omega) (by rw [← hd, dropWhile_eq]; exact last_drop _ hl) h
        refine ⟨us, l', c', e1, by rw [e2]; conv => rhs; rw [hX, List.count_append, List.count_eq_zero.2 htw, Nat.zero_add], ?_⟩
        have hcY : isCom (b :: x ++ 47 :: 47 :: (note ++ 10 :: t)) = true := by rw [hZ]; rfl
        have hs2 : b :: x ++ 47 :: 47 :: (note ++ 10 :: t) = (b :: x).takeWhile notNl ++ (10 :: X ++ 47 :: 47 :: (note ++ 10 :: t)) := by
          rw [← List.append_assoc, ← hX]
        have ht2 : (b :: x ++ 47 :: 47 :: (note ++ 10 :: t)).takeWhile notNl = (b :: x).takeWhile notNl := by
          rw [hs2]
          exact takeWhile_app (takeWhile_all _ _) (fun d hd => by cases hd; decide)
        have hd2 : (b :: x ++ 47 :: 47 :: (note ++ 10 :: t)).dropWhile notNl = 10 :: X ++ 47 :: 47 :: (note ++ 10 :: t) := by
          rw [dropWhile_eq, ht2, hs2, List.drop_left]
        rw [lexF_com (l, c) hcY, ht2, hd2, skip_line _ _ _ htw]
        exact e3
/-! ### Tokens joined are tokens again -/
def TokP.key (t : TokP) : Nat × List UInt8 × Nat := (t.k, t.t, t.n)
def blankX (X : List UInt8) : Prop := X = [] ∨ X[0]? = some 32
theorem signs_self : ∀ t ∈ signsL, signF t = some t ∧ isCom t = false := by decide +kernel
theorem signs_self32 : ∀ t ∈ signsL, signF (t ++ [32]) = some t ∧ isCom (t ++ [32]) = false := by decide +kernel
theorem isPre_three {p a : List UInt8} (hp : p.length ≤ 2) (ha : 1 ≤ a.length) (X : List UInt8) : p.isPrefixOf (a ++ 32 :: X) = p.isPrefixOf (a ++ [32]) := by
  match p, a, hp, ha with
  | [], a, _, _ => simp [List.isPrefixOf]
  | [x], a :: y, _, _ => simp [List.isPrefixOf]
  | [x, x'], [a], _, _ => simp [List.isPrefixOf]
  | [x, x'], a :: a' :: y, _, _ => simp [List.isPrefixOf]
theorem signs_blank {t X : List UInt8} (h : t ∈ signsL) (hX : blankX X) : signF (t ++ X) = some t ∧ isCom (t ++ X) = false := by
  rcases hX with rfl | hX
  · rw [List.append_nil]; exact signs_self t h
  rcases X with _ | ⟨x, X⟩
  · cases hX
  cases hX
  have hl := signs_len t h
  constructor
  · rw [← (signs_self32 t h).1]
    exact find_congr fun p hp => isPre_three (signs_len p hp).2.1 hl.1 X
  · rw [← (signs_self32 t h).2]
    exact isPre_three (by decide) hl.1 X
/-- A token behind which a blank stands, or nothing. -/
theorem tokF_blank {r t X : List UInt8} {k n : Nat} (h : tokF r = .ok k t n) (hX : blankX X) : tokF (t ++ X) = .ok k t n ∧ isCom (t ++ X) = false ∧ ∀ b, (t ++ X)[0]? = some b → blank b = false := by
  have hX0 : ∀ c, X[0]? = some c → alnum c = false := fun c hc => by
    rcases hX with rfl | hX
    · cases hc
    · rw [hX] at hc; cases hc; decide
  unfold tokF at h
  split at h
  · rename_i hw
    split at h
    · cases h
    · rename_i s hs
      cases h
      obtain ⟨hm, -⟩ := signF_mem hs
      obtain ⟨h1, h2⟩ := signs_blank hm hX
      have hl := signs_len t hm
      rcases t with _ | ⟨a, t⟩
      · exact absurd hl.1 (by decide)
      refine ⟨?_, h2, ?_⟩
      · unfold tokF
        rw [List.cons_append, List.takeWhile_cons, if_neg (by rw [hl.2.2.1 a (by simp)]; decide), ← List.cons_append, h1]
      · intro b hb
        cases hb
        have : ∀ u ∈ signsL, ∀ b, u[0]? = some b → blank b = false := by decide +kernel
        exact this _ hm a rfl
  · rename_i b w hw
    have hall := takeWhile_all alnum r
    rw [hw] at hall
    have htw : (b :: w ++ X).takeWhile alnum = b :: w := takeWhile_app hall hX0
    have hb : alnum b = true := hall b (by simp)
    have fin : (b :: w) = t → tokF (t ++ X) = .ok k t n ∧ isCom (t ++ X) = false ∧ ∀ b, (t ++ X)[0]? = some b → blank b = false := by
      intro ht
      refine ⟨?_, ?_, ?_⟩
      · rw [← ht]
        unfold tokF
        rw [htw]
        dsimp only
        rw [h, ht]
      · rw [← ht]
        rcases hc : isCom (b :: w ++ X) with _ | _
        · rfl
        · obtain ⟨Z, hZ⟩ := isCom_eq hc
          have : b = 47 := by injection hZ
          rw [this] at hb
          exact absurd hb (by decide)
      · intro d hd
        rw [← ht] at hd
        cases hd
        rcases hh : blank b with _ | _
        · rfl
        · simp [blank] at hh
          rcases hh with e | e | e | e <;> (rw [e] at hb; exact absurd hb (by decide))
    split at h
    · exact fin (numF_ok h).2.symm
    · split at h
      · exact fin (by cases h; rfl)
      · cases h
def tailJ (us : List TokP) : List UInt8 := us.flatMap fun u => 32 :: u.t
/-- The text of tokens: a blank between each two. -/
def joinF (us : List TokP) : List UInt8 := (tailJ us).drop 1
def GoodTok (u : TokP) : Prop := u.k < 3 ∧ u.t ≠ [] ∧ ∃ r, tokF r = .ok u.k u.t u.n
theorem lexN_good : ∀ (n : Nat) (r : List UInt8) (l c : Nat) (ts : List TokP), r.length < n → lexN n r l c = .ok ts → ∃ us l' c', ts = us ++ [⟨3, [], 0, l', c'⟩] ∧ ∀ u ∈ us, GoodTok u := by
  intro n
  induction n with
  | zero => intro r l c ts h; omega
  | succ n ih =>
    intro r l c ts hlen h
    rw [lexN] at h
    rcases hs : stp r l c with _ | ⟨r', l', c'⟩ | ⟨k, t, v⟩ | e <;> rw [hs] at h <;> dsimp only at h
    · cases h; exact ⟨[], l, c, rfl, fun u h => by cases h⟩
    · exact ih r' l' c' ts (by have := stp_go hs; omega) h
    · have ht := stp_tok hs
      obtain ⟨⟨X, rfl⟩, h2, h3, -⟩ := tokF_ok ht
      have h4 : 0 < t.length := List.length_pos_iff.2 h2
      rw [List.drop_left] at h
      rcases hr : lexN n X l (c + t.length) with ts' | _
      · rw [hr] at h
        have h' : [⟨k, t, v, l, c⟩] ++ ts' = ts := by injection h
        obtain ⟨us, l', c', e1, e2⟩ := ih X l (c + t.length) ts' (by rw [List.length_append] at hlen; omega) hr
        refine ⟨⟨k, t, v, l, c⟩ :: us, l', c', by rw [← h', e1]; rfl, fun u hu => ?_⟩
        rcases List.mem_cons.1 hu with rfl | hu
        · exact ⟨h3, h2, _, ht⟩
        · exact e2 u hu
      · rw [hr] at h; cases h
    · cases h
theorem lexF_good {r : List UInt8} {l c : Nat} {ts : List TokP} (h : lexF r l c = .ok ts) : ∃ us l' c', ts = us ++ [⟨3, [], 0, l', c'⟩] ∧ ∀ u ∈ us, GoodTok u :=
  lexN_good _ r l c ts (by omega) h
theorem tailJ_blank : ∀ us : List TokP, blankX (tailJ us)
  | [] => .inl rfl
  | u :: us => .inr rfl
theorem lexF_tail : ∀ (us : List TokP) (l c : Nat), (∀ u ∈ us, GoodTok u) → ∃ ts l' c', lexF (tailJ us) l c = .ok (ts ++ [⟨3, [], 0, l', c'⟩]) ∧ ts.map TokP.key = us.map TokP.key
  | [], l, c, _ => ⟨[], l, c, lexF_nil l c, rfl⟩
  | u :: us, l, c, h => by
    obtain ⟨h1, h2, r, h3⟩ := h u (by simp)
    obtain ⟨e1, e2, e3⟩ := tokF_blank h3 (tailJ_blank us)
    have hs : stp (32 :: (u.t ++ tailJ us)) l c = .go (u.t ++ tailJ us) l (c + 1) := rfl
    have ht : tailJ (u :: us) = 32 :: (u.t ++ tailJ us) := rfl
    obtain ⟨ts, l', c', e4, e5⟩ := lexF_tail us l (c + 1 + u.t.length) (fun v hv => h v (by simp [hv]))
    refine ⟨⟨u.k, u.t, u.n, l, c + 1⟩ :: ts, l', c', ?_, by rw [List.map_cons, List.map_cons, e5]; rfl⟩
    rw [ht, lexF_eq, hs]
    dsimp only
    rw [lexF_tok l (c + 1) (by simp [h2]) e3 e2, e1]
    dsimp only
    rw [List.drop_left, e4]
    rfl
/-- The tokens of what is joined are these again. -/
theorem lexF_join (us : List TokP) (h : ∀ u ∈ us, GoodTok u) : ∃ ts l' c', lexF (joinF us) 1 1 = .ok (ts ++ [⟨3, [], 0, l', c'⟩]) ∧ ts.map TokP.key = us.map TokP.key := by
  rcases us with _ | ⟨u, us⟩
  · exact ⟨[], 1, 1, lexF_nil 1 1, rfl⟩
  obtain ⟨h1, h2, r, h3⟩ := h u (by simp)
  obtain ⟨e1, e2, e3⟩ := tokF_blank h3 (tailJ_blank us)
  obtain ⟨ts, l', c', e4, e5⟩ := lexF_tail us 1 (1 + u.t.length) (fun v hv => h v (by simp [hv]))
  refine ⟨⟨u.k, u.t, u.n, 1, 1⟩ :: ts, l', c', ?_, by rw [List.map_cons, List.map_cons, e5]; rfl⟩
  have ht : joinF (u :: us) = u.t ++ tailJ us := rfl
  rw [ht, lexF_tok 1 1 (by simp [h2]) e3 e2, e1]
  dsimp only
  rw [List.drop_left, e4]
  rfl
/-! ### The limits -/
def bigW (d : UInt8) (k : Nat) : List UInt8 := 32 :: List.replicate k d
def repN (d : Nat) : Nat → Nat
  | 0 => 0
  | k + 1 => 10 * repN d k + d
def okWord (k : Nat) : Bool := match lexF (bigW 120 k) 1 1 with
  | .ok [t, _] => decide (k ≤ 32) && (t.k == 0 && (t.t == List.replicate k 120 && (t.n == 0 && (t.l == 1 && t.c == 2))))
  | .err l c e => decide (32 < k) && (e == 7 && (l == 1 && c == 2))
  | _ => false
theorem words_ok : ∀ k : Fin 40, okWord (k.val + 1) = true := by decide +kernel
def okNum (d k : Nat) : Bool := match lexF (bigW (UInt8.ofNat (49 + d)) k) 1 1 with
  | .ok [t, _] => decide (k ≤ 20) && (t.n == repN (1 + d) k && decide (repN (1 + d) k < 18446744073709551616))
  | .err l c e => decide (20 ≤ k) && (e == 5 && (l == 1 && c == 2))
  | _ => false
theorem nums_ok : ∀ (d : Fin 9) (k : Fin 40), okNum d.val (k.val + 1) = true := by decide +kernel
end Go.Proofs.YtokhlojibhegnaaDoor

namespace Go.Proofs.YtokhlojibhegnaaDoor
set_option linter.unusedVariables false
set_option linter.unusedSimpArgs false
open Go.RowKit
set_option maxRecDepth 100000

/-- What is known of the program's variables: the powers of ten, and the errors of strconv. -/
def ErrAt (w : World) (b : Nat) : Prop := ∃ ev, w.cell? ⟨b, 0, none⟩ = some ev ∧ (ev = .nilIface ∨ ∃ te pe, ev = .iface te pe)
theorem one_arg {S : Nat → Prop} {w : World} {a : T1} {vs : List Value} (h : All2 (V1 ι0 S w) [a] vs) : ∃ u, vs = [u] ∧ V1 ι0 S w a u := by
  obtain ⟨u, rfl, e⟩ := h.one_left
  exact ⟨u, rfl, e⟩
theorem two_args {S : Nat → Prop} {w : World} {a b : T1} {vs : List Value} (h : All2 (V1 ι0 S w) [a, b] vs) : ∃ u v, vs = [u, v] ∧ V1 ι0 S w a u ∧ V1 ι0 S w b v := by
  obtain ⟨u, vs, rfl, e0, h⟩ := h.cons_left
  obtain ⟨v, rfl, e1⟩ := h.one_left
  exact ⟨u, v, rfl, e0, e1⟩
theorem open_v {S : Nat → Prop} {w : World} {v u : Value} (h : V1 ι0 S w (c1 (.v v)) u) : u = v := by
  have h' : Imm S w _ u := h
  cases h'; rfl
theorem three_args {S : Nat → Prop} {w : World} {a b c : T1} {vs : List Value} (h : All2 (V1 ι0 S w) [a, b, c] vs) : ∃ u v x, vs = [u, v, x] ∧ V1 ι0 S w a u ∧ V1 ι0 S w b v ∧ V1 ι0 S w c x := by
  obtain ⟨u, vs, rfl, e0, h⟩ := h.cons_left
  obtain ⟨v, x, rfl, e1, e2⟩ := two_args h
  exact ⟨u, v, x, rfl, e0, e1, e2⟩
def signsAt (w : World) (g : Nat) : Prop := ∀ j l, signsL[j]? = some l → w.cell? ⟨g, j, none⟩ = some (.string (bs l))
/-- What is known of the program's variables: strconv's errors, the library's MaxLen, the signs. -/
def ΓL : Glob := ⟨fun S w => (ErrAt w 2 ∧ S 2) ∧ (ErrAt w 3 ∧ S 3) ∧ (∃ m, w.cell? ⟨1, 0, none⟩ = some (.int .i64 m) ∧ S 1) ∧ signsAt w 0 ∧ S 0,
  fun {S S' w w'} hw hS ⟨⟨⟨ev, h1, h2⟩, h3⟩, ⟨⟨er, h4, h5⟩, h6⟩, ⟨m, h7, h8⟩, h9, h10⟩ => ⟨⟨⟨ev, by rw [cell_same (hw _ h3)]; exact h1, h2⟩, hS _ h3⟩, ⟨⟨er, by rw [cell_same (hw _ h6)]; exact h4, h5⟩, hS _ h6⟩, ⟨m, by rw [cell_same (hw _ h8)]; exact h7, hS _ h8⟩, fun j l hj => by rw [cell_same (hw _ h10)]; exact h9 j l hj, hS _ h10⟩,
  [], fun g => match Nat.beq g 0 with
    | true => some (signsL.map fun l => ds (bs l))
    | false => none,
  fun {S w g cs} hG hg => by
    split at hg
    · rename_i hb
      obtain rfl := Nat.eq_of_beq_eq_true hb
      cases hg
      obtain ⟨-, -, -, h9, h10⟩ := hG
      refine ⟨fun j => .string (bs (signsL.getD j [])), fun _ => h10, fun j d hj => ?_⟩
      rw [List.getElem?_map] at hj
      obtain ⟨l, h1, rfl⟩ := Option.map_eq_some_iff.1 hj
      have : signsL.getD j [] = l := by rw [List.getD, h1]; rfl
      dsimp only
      rw [this]
      exact ⟨h9 j l h1, Imm.v rfl⟩
    · cases hg⟩
theorem CallsA.gL {f : FuncId} {xs : List T1} {r : TV} (h : CallsA Tryd.prog Γ0 f xs r) : CallsA Tryd.prog ΓL f xs r := ⟨h.1, fun S w vs hS _ hv => h.2 S w vs hS trivial hv⟩
theorem trimLeft_c (Γ : Glob) (r cs : List UInt8) (hcs : cs.length < 4294967281) (ha : (cs.all fun b => decide (b.toNat < 128)) = true) :
    CallsA Tryd.prog Γ 41 [c1 (ds (bs r)), c1 (ds (bs cs))] (Tstr (bs (r.dropWhile (cs.contains ·)))) :=
  ⟨⟨_, Tryd.func41, by kernel_rfl, rfl⟩, fun S w vs hS hG hvs => by
    obtain ⟨u, v, rfl, e1, e2⟩ := two_args hvs
    obtain rfl := open_v e1
    obtain rfl := open_v e2
    refine (Any.strings_TrimLeft_laid Tryd.lays161 (by kernel_rfl) (bs r) (bs cs) w (by rw [bs_size]; exact hcs) (fun j b hb => of_decide_eq_true (List.all_eq_true.1 ha b (List.mem_of_getElem? hb)))).mono fun e w' ⟨he, hb⟩ => ?_
    subst he
    exact flat_end hS hb (Imm.v rfl)⟩
theorem prefix_c (Γ : Glob) (r p : List UInt8) : CallsA Tryd.prog Γ 33 [c1 (ds (bs r)), c1 (ds (bs p))] (Tb (Lib.hasPrefix r p)) :=
  ⟨⟨_, Tryd.func33, by kernel_rfl, rfl⟩, fun S w vs hS hG hvs => by
    obtain ⟨u, v, rfl, e1, e2⟩ := two_args hvs
    obtain rfl := open_v e1
    obtain rfl := open_v e2
    refine (Tryd.strings_HasPrefix (bs r) (bs p) w).mono fun e w' ⟨he, hb⟩ => ?_
    subst he; subst hb
    exact flat_end hS (Below.refl _ _) (Imm.v rfl)⟩
theorem lprefix_c (Γ : Glob) (r p : List UInt8) : CallsA Tryd.prog Γ 45 [c1 (ds (bs r)), c1 (ds (bs p))] (Tb (Lib.hasPrefix r p)) :=
  ⟨⟨_, Tryd.func45, by kernel_rfl, rfl⟩, fun S w vs hS hG hvs => by
    obtain ⟨u, v, rfl, e1, e2⟩ := two_args hvs
    obtain rfl := open_v e1
    obtain rfl := open_v e2
    refine (Tryd.stringslite_HasPrefix (bs r) (bs p) w).mono fun e w' ⟨he, hb⟩ => ?_
    subst he; subst hb
    exact flat_end hS (Below.refl _ _) (Imm.v rfl)⟩
theorem cut_c (r p : List UInt8) (hr : r.length < 4294967281) : CallsA Tryd.prog ΓL 15 [c1 (ds (bs r)), c1 (ds (bs p))] (.tup [c1 (ds (bs (Lib.cut r p).1)), c1 (ds (bs (Lib.cut r p).2.1)), c1 (db (Lib.cut r p).2.2)]) :=
  ⟨⟨_, Tryd.func15, by kernel_rfl, rfl⟩, fun S w vs hS hG hvs => by
    obtain ⟨u, v, rfl, e1, e2⟩ := two_args hvs
    obtain rfl := open_v e1
    obtain rfl := open_v e2
    obtain ⟨-, -, ⟨m, hm, -⟩, -⟩ := hG
    refine (Tryd.strings_Cut (bs r) (bs p) m w (by rw [bs_size]; exact hr) hm).mono fun e w' ⟨he, n, hb⟩ => ?_
    subst he; subst hb
    exact flat_end hS ((Below.refl _ _).trans ⟨rfl, rfl, rfl, Nat.le_refl _, fun _ _ => rfl⟩) ⟨[_, _, _], rfl, .cons (Imm.v rfl) (.cons (Imm.v rfl) (.cons (Imm.v rfl) .nil))⟩⟩
theorem ext_drop (r : List UInt8) (n : Nat) (h : n ≤ r.length) : (bs r).extract (n : Int).toNat ((bs r).size : Int).toNat = bs (r.drop n) := by
  apply ByteArray.ext
  rw [ByteArray.data_extract, Int.toNat_natCast, Int.toNat_natCast, bs_size]
  apply Array.ext'
  simp only [List.extract_toArray, List.extract_eq_take_drop]
  exact List.take_of_length_le (by simp)
theorem ext_take (r : List UInt8) (n : Nat) : (bs r).extract (0 : Int).toNat (n : Int).toNat = bs (r.take n) := by
  apply ByteArray.ext
  rw [ByteArray.data_extract, Int.toNat_natCast]
  apply Array.ext'
  simp [List.extract_eq_take_drop]
end Go.Proofs.YtokhlojibhegnaaDoor

namespace Go.Proofs.YtokhlojibhegnaaDoor
set_option linter.unusedVariables false
set_option linter.unusedSimpArgs false
open Go.RowKit
set_option maxRecDepth 100000
theorem and_mk {a b : Prop} (h : a) (k : b) : a ∧ b := ⟨h, k⟩
end Go.Proofs.YtokhlojibhegnaaDoor

namespace Go.Proofs.YtokhlojibhegnaaDoor
set_option linter.unusedVariables false
set_option linter.unusedSimpArgs false
open Go.RowKit
set_option maxRecDepth 100000

theorem u8_all {p q : UInt8 → Bool} (h : ∀ n : Fin 256, p (UInt8.ofNat n.val) = q (UInt8.ofNat n.val)) (b : UInt8) : p b = q b := by
  have := h ⟨b.toNat, b.toNat_lt⟩
  rwa [show UInt8.ofNat (⟨b.toNat, b.toNat_lt⟩ : Fin 256).val = b by simp] at this
def digS : List UInt8 := [48, 49, 50, 51, 52, 53, 54, 55, 56, 57]
def hexS : List UInt8 := [48, 49, 50, 51, 52, 53, 54, 55, 56, 57, 97, 98, 99, 100, 101, 102, 65, 66, 67, 68, 69, 70]
def runS : List UInt8 := [65, 66, 67, 68, 69, 70, 71, 72, 73, 74, 75, 76, 77, 78, 79, 80, 81, 82, 83, 84, 85, 86, 87, 88, 89, 90, 97, 98, 99, 100, 101, 102, 103, 104, 105, 106, 107, 108, 109, 110, 111, 112, 113, 114, 115, 116, 117, 118, 119, 120, 121, 122, 95, 48, 49, 50, 51, 52, 53, 54, 55, 56, 57]
def blankS : List UInt8 := [32, 9, 10, 13]
theorem digS_eq (b : UInt8) : digS.contains b = isDig b := u8_all (p := digS.contains) (q := isDig) (by decide +kernel) b
theorem hexS_eq (b : UInt8) : hexS.contains b = isHex b := u8_all (p := hexS.contains) (q := isHex) (by decide +kernel) b
theorem runS_eq (b : UInt8) : runS.contains b = alnum b := u8_all (p := runS.contains) (q := alnum) (by decide +kernel) b
theorem blankS_eq (b : UInt8) : blankS.contains b = blank b := u8_all (p := blankS.contains) (q := blank) (by decide +kernel) b
theorem drop_len (p : UInt8 → Bool) : ∀ l : List UInt8, (l.dropWhile p).length + (l.takeWhile p).length = l.length
  | [] => rfl
  | a :: l => by
    rw [List.dropWhile_cons, List.takeWhile_cons]
    have := drop_len p l
    split <;> simp <;> omega
theorem take_all (p : UInt8 → Bool) : ∀ l : List UInt8, (l.takeWhile p).length = l.length ↔ l.all p = true
  | [] => by simp
  | a :: l => by
    have := take_all p l
    have h9 : (l.takeWhile p).length ≤ l.length := by have := drop_len p l; omega
    rw [List.takeWhile_cons, List.all_cons]
    split
    · rename_i h
      rw [h, Bool.true_and, List.length_cons, List.length_cons, ← this]
      omega
    · rename_i h
      simp [h]
theorem run_c (cs : List UInt8) (p : UInt8 → Bool) (hp : ∀ b, cs.contains b = p b) (hcs : cs.length < 4294967281) (ha : (cs.all fun b => decide (b.toNat < 128)) = true) (r : List UInt8) (hr : r.length ≤ 16384) :
    CallsA Tryd.prog Γ0 23 [c1 (ds (bs r)), c1 (ds (bs cs))] (Ti ((r.takeWhile p).length : Nat)) := by
  have hd := drop_len p r
  have hpe : (fun b => cs.contains b) = p := funext hp
  have ht := trimLeft_c Γ0 r cs hcs ha
  rw [hpe] at ht
  refine fn_rule (C := ⟨Tryd.prog, layF, Tryd.f23.ntmps, Γ0, 0, [], []⟩) layF_ok mixed Tryd.func23 rfl (by kernel_rfl) rfl rfl rfl ?_
  refine ex_call (ht) ?_
  refine ex_i64 ((r.takeWhile p).length : Nat) (by rw [bs_size, bs_size]; omega) (by omega) (by omega) ?_
  exact TLe.rfl
theorem runD_c (r : List UInt8) (hr : r.length ≤ 16384) : CallsA Tryd.prog Γ0 23 [c1 (ds (bs r)), c1 (ds (bs digS))] (Ti ((r.takeWhile isDig).length : Nat)) := run_c digS isDig digS_eq (by decide) (by decide) r hr
theorem runH_c (r : List UInt8) (hr : r.length ≤ 16384) : CallsA Tryd.prog Γ0 23 [c1 (ds (bs r)), c1 (ds (bs hexS))] (Ti ((r.takeWhile isHex).length : Nat)) := run_c hexS isHex hexS_eq (by decide) (by decide) r hr
theorem runR_c (r : List UInt8) (hr : r.length ≤ 16384) : CallsA Tryd.prog Γ0 23 [c1 (ds (bs r)), c1 (ds (bs runS))] (Ti ((r.takeWhile alnum).length : Nat)) := run_c runS alnum runS_eq (by decide) (by decide) r hr
theorem runB_c (r : List UInt8) (hr : r.length ≤ 16384) : CallsA Tryd.prog Γ0 23 [c1 (ds (bs r)), c1 (ds (bs blankS))] (Ti ((r.takeWhile blank).length : Nat)) := run_c blankS blank blankS_eq (by decide) (by decide) r hr
/-- The scan's object. -/
abbrev Sc (r : List UInt8) (p : Nat × Nat) : Blk := .obj [.d (ds (bs r)), .d (di (p.1 : Nat)), .d (di (p.2 : Nat))]
theorem byteRows_ln (l : List UInt8) : (byteRows l).length = l.length := by simp [byteRows]
theorem ex_byte {bs : List UInt8} {n : Int} (i : Nat) (x : UInt8) (hn : n = i) (hx : bs[i]? = some x) {K : List D → Prop} (h : K [.v (.int .u8 x.toNat)]) : ∃ r, 0 ≤ n ∧ (byteRows bs)[n.toNat]? = some r ∧ K r := by
  subst hn
  exact ⟨_, by omega, by simp [byteRows, hx], h⟩
theorem skip_c (r : List UInt8) (p : Nat × Nat) (n : Nat) (hr : r.length ≤ 16384) (hn : n ≤ r.length) (hp1 : p.1 ≤ 100000) (hp2 : p.2 ≤ 100000) :
    CallsM Tryd.prog Γ0 21 [(0, Sc r p)] 1 [.c (.ptr 0 0), c1 (di n)] (.tup []) [(0, Sc (r.drop n) ((r.take n).foldl skipP p))] [] := by
  obtain ⟨T, hT⟩ : ∃ T, r.take n = T := ⟨_, rfl⟩
  have hTl : T.length = n := by rw [← hT, List.length_take]; omega
  rw [hT]
  obtain ⟨Q, hQ⟩ : ∃ Q, T.foldl skipP p = Q := ⟨_, rfl⟩
  rw [hQ]
  have hrs := bs_size r
  refine fn_ruleM (C := ⟨Tryd.prog, layF, Tryd.f21.ntmps, Γ0, 1, [], []⟩) layF_ok mixed Tryd.func21 rfl (by kernel_rfl) rfl rfl rfl ?_
  refine ⟨by omega, by omega, by omega, ?_⟩
  rw [ext_take, hT]
  refine ex_is n (by rw [byteRows_ln]; exact hTl) ?_
  refine ex_loop (X := Nat × Nat × Nat) (fun ⟨q, u, v⟩ => ⟨[(0, .o (.c (.ptr 0 0))), (1, Ti n), (12, .o (c1 (.sl 1 (byteRows T)))), (13, Ti n), (14, Ti q)], [(0, .obj [.d (ds (bs r)), .d (di (u : Nat)), .d (di (v : Nat))])], 1⟩) (fun x => n - x.1)
    (fun ⟨q, u, v⟩ => q ≤ n ∧ u ≤ p.1 + q ∧ v ≤ p.2 + q + 1 ∧ (T.drop q).foldl skipP (u, v) = Q) (0, p.1, p.2) ⟨Nat.zero_le _, Nat.le_refl _, by show p.2 ≤ _; omega, hQ⟩ (SLe.of ⟨⟨rfl, rfl, rfl, rfl, rfl, trivial⟩, ⟨rfl, trivial⟩⟩) ?_
  rintro ⟨q, u, v⟩ ⟨hq, hu, hv, hs⟩
  refine ex_dec (fun h => ?_) (fun h => ?_)
  · have hql : q < T.length := by omega
    have hc : T[q]? = some T[q] := at_some hql
    rw [List.drop_eq_getElem_cons hql, List.foldl_cons] at hs
    generalize T[q] = c at *
    refine ex_byte q c rfl hc ?_
    refine ex_i64 (((v + 1 : Nat) : Int)) (by first | rfl | omega | simp) (by omega) (by omega) ?_
    refine ex_chr 0 10 rfl rfl ?_
    refine ex_dec (fun h2 => ?_) (fun h2 => ?_)
    · have hc10 : c = 10 := UInt8.toNat_inj.1 (Int.ofNat_inj.1 h2)
      rw [show skipP (u, v) c = (u + 1, 1) from if_pos hc10] at hs
      refine ex_i64 (((u + 1 : Nat) : Int)) (by first | rfl | omega | simp) (by omega) (by omega) ?_
      refine ex_i64 (((q + 1 : Nat) : Int)) (by first | rfl | omega | simp) (by omega) (by omega) ?_
      exact ex_round (q + 1, u + 1, 1) ⟨by omega, by omega, by omega, hs⟩ (by show _ - _ < _ - _; omega) (SLe.of ⟨⟨rfl, rfl, rfl, rfl, rfl, trivial⟩, ⟨rfl, trivial⟩⟩)
    · have hc10 : c ≠ 10 := fun e => h2 (by rw [e])
      rw [show skipP (u, v) c = (u, v + 1) from if_neg hc10] at hs
      refine ex_i64 (((q + 1 : Nat) : Int)) (by first | rfl | omega | simp) (by omega) (by omega) ?_
      exact ex_round (q + 1, u, v + 1) ⟨by omega, by omega, by omega, hs⟩ (by show _ - _ < _ - _; omega) (SLe.of ⟨⟨rfl, rfl, rfl, rfl, rfl, trivial⟩, ⟨rfl, trivial⟩⟩)
  · rw [List.drop_eq_nil_of_le (by omega), List.foldl_nil] at hs
    subst hs
    refine ⟨by omega, by omega, by omega, ?_⟩
    rw [ext_drop r n hn]
    exact ⟨rfl, TLe.rfl, rfl, rfl⟩
theorem cutpre_c (r p : List UInt8) : CallsA Tryd.prog Γ0 62 [c1 (ds (bs r)), c1 (ds (bs p))] (.tup [c1 (ds (bs (if Lib.hasPrefix r p then r.drop p.length else r))), c1 (db (Lib.hasPrefix r p))]) := by
  have hin : CallsA Tryd.prog Γ0 70 [c1 (ds (bs r)), c1 (ds (bs p))] (.tup [c1 (ds (bs (if Lib.hasPrefix r p then r.drop p.length else r))), c1 (db (Lib.hasPrefix r p))]) := by
    have hrs := bs_size r
    have hps := bs_size p
    refine fn_rule (C := ⟨Tryd.prog, layF, Tryd.f70.ntmps, Γ0, 0, [], []⟩) layF_ok mixed Tryd.func70 rfl (by kernel_rfl) rfl rfl rfl ?_
    refine ex_call (lprefix_c Γ0 r p) ?_
    rcases h : Lib.hasPrefix r p with _ | _
    · repeat' (first | refine ex_true (by first | decide | omega | assumption | (with_reducible exact rfl)) ?_ | refine ex_false (by first | decide | omega | assumption | exact (fun h => h rfl)) ?_ | refine ex_dec (fun _ => ?_) (fun _ => ?_) | refine ex_u8 _ rfl (by omega) (by omega) ?_ | refine ex_i64 _ rfl (by omega) (by omega) ?_ | refine ex_u64 _ rfl (by omega) (by omega) ?_ | refine and_mk (by first | omega | (show drawOk _ _ _ = true; kernel_rfl)) ?_ | refine and_mk ⟨_, rfl⟩ ?_ | refine ex_is _ (List.length_map _) ?_ | refine ex_is _ List.length_nil ?_ | fail "no step")
      exact TLe.rfl
    · have hl : p.length ≤ r.length := by
        obtain ⟨X, rfl⟩ := List.isPrefixOf_iff_prefix.1 h
        rw [List.length_append]; omega
      repeat' (first | refine ex_true (by first | decide | omega | assumption | (with_reducible exact rfl)) ?_ | refine ex_false (by first | decide | omega | assumption | exact (fun h => h rfl)) ?_ | refine ex_dec (fun _ => ?_) (fun _ => ?_) | refine ex_u8 _ rfl (by omega) (by omega) ?_ | refine ex_i64 _ rfl (by omega) (by omega) ?_ | refine ex_u64 _ rfl (by omega) (by omega) ?_ | refine and_mk (by first | omega | (show drawOk _ _ _ = true; kernel_rfl)) ?_ | refine and_mk ⟨_, rfl⟩ ?_ | refine ex_is _ (List.length_map _) ?_ | refine ex_is _ List.length_nil ?_ | fail "no step")
      rw [hps, ext_drop r p.length hl]
      exact TLe.rfl
  refine fn_rule (C := ⟨Tryd.prog, layF, Tryd.f62.ntmps, Γ0, 0, [], []⟩) layF_ok mixed Tryd.func62 rfl (by kernel_rfl) rfl rfl rfl ?_
  refine ex_call (hin) ?_
  exact TLe.rfl
theorem size_pos {l : List UInt8} (h : l ≠ []) : bs l ≠ ByteArray.empty := fun e => h (by
  have := congrArg ByteArray.size e
  rw [bs_size] at this
  exact List.length_eq_zero_iff.1 this)
/-- A run as a number's digits, and in what. -/
def digF (s : List UInt8) : List UInt8 × Nat := if sixteen s then (s.drop 2, 16) else if s.all isDig then (s, 10) else ([], 0)
theorem digits_c (s : List UInt8) (hs : s.length ≤ 16384) : CallsA Tryd.prog Γ0 48 [c1 (ds (bs s))] (.tup [c1 (ds (bs (digF s).1)), c1 (di ((digF s).2 : Nat))]) := by
  have hsz := bs_size s
  have h1 := runD_c s hs
  have ha := take_all isDig s
  have hcut := cutpre_c s [48, 120]
  unfold digF sixteen
  rw [show [48, 120].isPrefixOf s = Lib.hasPrefix s [48, 120] from rfl]
  have hA : if s.all isDig then (s.takeWhile isDig).length = s.length else (s.takeWhile isDig).length ≠ s.length := by
    split
    · rename_i h; exact ha.2 h
    · rename_i h; exact fun e => h (ha.1 e)
  rcases hp : Lib.hasPrefix s [48, 120] with _ | _ <;> rw [hp] at hcut
  · rcases hd : s.all isDig with _ | _ <;> rw [hd] at hA <;> simp only [if_true, if_false, Bool.false_eq_true] at hA
    all_goals
      refine fn_rule (C := ⟨Tryd.prog, layF, Tryd.f48.ntmps, Γ0, 0, [], []⟩) layF_ok mixed Tryd.func48 rfl (by kernel_rfl) rfl rfl rfl ?_
      repeat' (first | refine ex_call h1 ?_ | refine ex_call hcut ?_ | refine ex_true (by first | decide | omega | assumption | (with_reducible exact rfl)) ?_ | refine ex_false (by first | decide | omega | assumption | exact (fun h => h rfl)) ?_ | refine ex_dec (fun _ => ?_) (fun _ => ?_) | refine ex_u8 _ rfl (by omega) (by omega) ?_ | refine ex_i64 _ rfl (by omega) (by omega) ?_ | refine ex_u64 _ rfl (by omega) (by omega) ?_ | refine and_mk (by first | omega | (show drawOk _ _ _ = true; kernel_rfl)) ?_ | refine and_mk ⟨_, rfl⟩ ?_ | refine ex_is _ (List.length_map _) ?_ | refine ex_is _ List.length_nil ?_ | fail "no step")
      exact TLe.rfl
  · obtain ⟨x, hx⟩ : ∃ x, s.drop 2 = x := ⟨_, rfl⟩
    have hcut : CallsA Tryd.prog Γ0 62 [c1 (ds (bs s)), c1 (ds (bs [48, 120]))] (.tup [c1 (ds (bs x)), c1 (db true)]) := hx ▸ hcut
    have hxl : x.length = s.length - 2 := by rw [← hx, List.length_drop]
    have h2 := runH_c x (by omega)
    have ha2 := take_all isHex x
    have hxs := bs_size x
    rw [hx]
    have hA2 : if x.all isHex then (x.takeWhile isHex).length = x.length else (x.takeWhile isHex).length ≠ x.length := by
      split
      · rename_i h; exact ha2.2 h
      · rename_i h; exact fun e => h (ha2.1 e)
    rcases x with _ | ⟨c, y⟩
    · rw [show (decide (2 < s.length)) = false from decide_eq_false (by simp at hxl; omega)]
      rcases hd : s.all isDig with _ | _ <;> rw [hd] at hA <;> simp only [if_true, if_false, Bool.false_eq_true] at hA
      all_goals
        refine fn_rule (C := ⟨Tryd.prog, layF, Tryd.f48.ntmps, Γ0, 0, [], []⟩) layF_ok mixed Tryd.func48 rfl (by kernel_rfl) rfl rfl rfl ?_
        repeat' (first | refine ex_call h1 ?_ | refine ex_call hcut ?_ | refine ex_true (by first | decide | omega | assumption | (with_reducible exact rfl)) ?_ | refine ex_false (by first | decide | omega | assumption | exact (fun h => h rfl)) ?_ | refine ex_dec (fun _ => ?_) (fun _ => ?_) | refine ex_u8 _ rfl (by omega) (by omega) ?_ | refine ex_i64 _ rfl (by omega) (by omega) ?_ | refine ex_u64 _ rfl (by omega) (by omega) ?_ | refine and_mk (by first | omega | (show drawOk _ _ _ = true; kernel_rfl)) ?_ | refine and_mk ⟨_, rfl⟩ ?_ | refine ex_is _ (List.length_map _) ?_ | refine ex_is _ List.length_nil ?_ | fail "no step")
        exact TLe.rfl
    · have hne := size_pos (l := c :: y) (by simp)
      rw [show (decide (2 < s.length)) = true from decide_eq_true (by simp at hxl; omega)]
      generalize c :: y = x at *
      rcases he : x.all isHex with _ | _ <;> rw [he] at hA2 <;> simp only [if_true, if_false, Bool.false_eq_true] at hA2
      · rcases hd : s.all isDig with _ | _ <;> rw [hd] at hA <;> simp only [if_true, if_false, Bool.false_eq_true] at hA
        all_goals
          refine fn_rule (C := ⟨Tryd.prog, layF, Tryd.f48.ntmps, Γ0, 0, [], []⟩) layF_ok mixed Tryd.func48 rfl (by kernel_rfl) rfl rfl rfl ?_
          repeat' (first | refine ex_call h2 ?_ | refine ex_call h1 ?_ | refine ex_call hcut ?_ | refine ex_true (by first | decide | omega | assumption | (with_reducible exact rfl)) ?_ | refine ex_false (by first | decide | omega | assumption | exact (fun h => h rfl)) ?_ | refine ex_dec (fun _ => ?_) (fun _ => ?_) | refine ex_u8 _ rfl (by omega) (by omega) ?_ | refine ex_i64 _ rfl (by omega) (by omega) ?_ | refine ex_u64 _ rfl (by omega) (by omega) ?_ | refine and_mk (by first | omega | (show drawOk _ _ _ = true; kernel_rfl)) ?_ | refine and_mk ⟨_, rfl⟩ ?_ | refine ex_is _ (List.length_map _) ?_ | refine ex_is _ List.length_nil ?_ | fail "no step")
          all_goals first | exact TLe.rfl | exact absurd ‹_› hne
      ·
        refine fn_rule (C := ⟨Tryd.prog, layF, Tryd.f48.ntmps, Γ0, 0, [], []⟩) layF_ok mixed Tryd.func48 rfl (by kernel_rfl) rfl rfl rfl ?_
        repeat' (first | refine ex_call h2 ?_ | refine ex_call h1 ?_ | refine ex_call hcut ?_ | refine ex_true (by first | decide | omega | assumption | (with_reducible exact rfl)) ?_ | refine ex_false (by first | decide | omega | assumption | exact (fun h => h rfl)) ?_ | refine ex_dec (fun _ => ?_) (fun _ => ?_) | refine ex_u8 _ rfl (by omega) (by omega) ?_ | refine ex_i64 _ rfl (by omega) (by omega) ?_ | refine ex_u64 _ rfl (by omega) (by omega) ?_ | refine and_mk (by first | omega | (show drawOk _ _ _ = true; kernel_rfl)) ?_ | refine and_mk ⟨_, rfl⟩ ?_ | refine ex_is _ (List.length_map _) ?_ | refine ex_is _ List.length_nil ?_ | fail "no step")
        all_goals first | exact TLe.rfl | exact absurd ‹_› hne
end Go.Proofs.YtokhlojibhegnaaDoor

namespace Go.Proofs.YtokhlojibhegnaaDoor
set_option linter.unusedVariables false
set_option linter.unusedSimpArgs false
open Go.RowKit
set_option maxRecDepth 100000

/-! ### Passing over -/
def passL (r : List UInt8) : Nat := if isCom r then (r.takeWhile notNl).length else (r.takeWhile blank).length
def passN : Nat → List UInt8 → Nat × Nat → List UInt8 × (Nat × Nat)
  | 0, r, p => (r, p)
  | n + 1, r, p => if passL r = 0 then (r, p) else passN n (r.drop (passL r)) ((r.take (passL r)).foldl skipP p)
def passF (r : List UInt8) (p : Nat × Nat) : List UInt8 × (Nat × Nat) := passN (r.length + 1) r p
theorem take_len (p : UInt8 → Bool) : ∀ l : List UInt8, l.take (l.takeWhile p).length = l.takeWhile p
  | [] => rfl
  | a :: l => by
    rw [List.takeWhile_cons]
    split
    · rw [List.length_cons, List.take_succ_cons, take_len p l]
    · rfl
theorem passL_le (r : List UInt8) : passL r ≤ r.length := by
  unfold passL
  have h1 := drop_len notNl r
  have h2 := drop_len blank r
  split <;> omega
/-- The place, and what is left of a text, within bounds. -/
def Bd (p : Nat × Nat) (n : Nat) : Prop := 1 ≤ p.1 ∧ 1 ≤ p.2 ∧ p.1 + n ≤ 16385 ∧ p.2 + n ≤ 16385
theorem skip_bd : ∀ (x : List UInt8) (p : Nat × Nat) (n : Nat), Bd p (x.length + n) → Bd (x.foldl skipP p) n
  | [], p, n, h => by rw [List.length_nil, Nat.zero_add] at h; exact h
  | b :: x, p, n, h => by
    rw [List.foldl_cons]
    refine skip_bd x _ n ?_
    obtain ⟨h1, h2, h3, h4⟩ := h
    rw [List.length_cons] at h3 h4
    unfold skipP
    split
    · exact ⟨by show 1 ≤ p.1 + 1; omega, by show 1 ≤ 1; omega, by show p.1 + 1 + _ ≤ _; omega, by show 1 + _ ≤ _; omega⟩
    · exact ⟨by show 1 ≤ p.1; omega, by show 1 ≤ p.2 + 1; omega, by show p.1 + _ ≤ _; omega, by show p.2 + 1 + _ ≤ _; omega⟩
theorem pass_step (r : List UInt8) (p : Nat × Nat) : lexF r p.1 p.2 = lexF (r.drop (passL r)) ((r.take (passL r)).foldl skipP p).1 ((r.take (passL r)).foldl skipP p).2 := by
  unfold passL
  split
  · rename_i h
    rw [take_len, ← dropWhile_eq]
    exact lexF_com p h
  · rw [take_len, ← dropWhile_eq]
    obtain ⟨X, hX, -⟩ := takeWhile_split blank r
    have hd : r.dropWhile blank = X := by
      rw [dropWhile_eq]
      conv => lhs; arg 2; rw [hX]
      rw [List.drop_left]
    rw [hd]
    conv => lhs; rw [hX]
    exact lexF_blank _ X p (takeWhile_all blank r)
/-- A token is due, or the text is at its end. -/
def Due (r : List UInt8) : Prop := isCom r = false ∧ ∀ b, r[0]? = some b → blank b = false
theorem due_of {r : List UInt8} (h : passL r = 0) : Due r := by
  unfold passL at h
  split at h
  · rename_i hc
    obtain ⟨X, rfl⟩ := isCom_eq hc
    rw [List.takeWhile_cons, if_pos (by decide)] at h
    cases h
  · rename_i hc
    refine ⟨by simpa using hc, fun b hb => ?_⟩
    rcases r with _ | ⟨a, r⟩
    · cases hb
    · cases hb
      rw [List.takeWhile_cons] at h
      split at h
      · cases h
      · rename_i hn; simpa using hn
theorem passN_facts : ∀ (n : Nat) (r : List UInt8) (p : Nat × Nat), r.length < n → Bd p r.length →
    lexF r p.1 p.2 = lexF (passN n r p).1 (passN n r p).2.1 (passN n r p).2.2 ∧ Due (passN n r p).1 ∧ Bd (passN n r p).2 (passN n r p).1.length ∧ (passN n r p).1.length ≤ r.length := by
  intro n
  induction n with
  | zero => intro r p h; omega
  | succ n ih =>
    intro r p hl hb
    rw [passN]
    split
    · rename_i h; exact ⟨rfl, due_of h, hb, Nat.le_refl _⟩
    · rename_i h
      have hle := passL_le r
      have hd : (r.drop (passL r)).length = r.length - passL r := List.length_drop ..
      have ht : (r.take (passL r)).length = passL r := by rw [List.length_take]; omega
      obtain ⟨e1, e2, e3, e4⟩ := ih (r.drop (passL r)) ((r.take (passL r)).foldl skipP p) (by omega) (by rw [hd]; refine skip_bd _ _ _ ?_; rw [ht]; rw [show passL r + (r.length - passL r) = r.length by omega]; exact hb)
      exact ⟨by rw [pass_step r p]; exact e1, e2, e3, by omega⟩
theorem cut_nl : ∀ r : List UInt8, Lib.index r [10] = if 10 ∈ r then ((r.takeWhile notNl).length : Int) else -1
  | [] => rfl
  | a :: r => by
    rw [Lib.index, cut_nl r]
    by_cases h : a = 10
    · subst h
      rw [show ([10] : List UInt8).isPrefixOf (10 :: r) = true from rfl, if_pos rfl, if_pos (by simp)]
      rfl
    · have h' : ¬ (10 : UInt8) = a := fun e => h e.symm
      have hp : ([10] : List UInt8).isPrefixOf (a :: r) = false := by simp [List.isPrefixOf, h']
      have hn : notNl a = true := by simp [notNl, h]
      rw [hp, if_neg (by decide), List.takeWhile_cons, if_pos hn]
      by_cases h2 : 10 ∈ r
      · have h4 : ¬ (((r.takeWhile notNl).length : Int) == -1) = true := by simp <;> omega
        rw [if_pos h2, if_neg h4, if_pos (show (10 : UInt8) ∈ a :: r by simp [h2]), List.length_cons]; rfl
      · rw [if_neg h2, if_pos (show ((-1 : Int) == -1) = true from rfl), if_neg (show ¬ (10 : UInt8) ∈ a :: r by simp [h2, h'])]
theorem cut_fst (r : List UInt8) : (Lib.cut r [10]).1 = r.takeWhile notNl := by
  unfold Lib.cut
  rw [cut_nl]
  by_cases h : 10 ∈ r
  · rw [if_pos h, if_pos (by omega)]
    exact take_len notNl r
  · rw [if_neg h, if_neg (by omega)]
    show r = _
    have : (r.takeWhile notNl).length = r.length := (take_all notNl r).2 (by rw [List.all_eq_true]; intro c hc; simp [notNl]; intro e; exact h (e ▸ hc))
    conv => lhs; rw [← List.take_length (l := r), ← this]
    exact take_len notNl r
theorem pass_c (r : List UInt8) (p : Nat × Nat) (hb : Bd p r.length) :
    CallsM Tryd.prog ΓL 19 [(0, Sc r p)] 1 [.c (.ptr 0 0)] (.tup []) [(0, Sc (passF r p).1 (passF r p).2)] [] := by
  obtain ⟨R, hR⟩ : ∃ R, passF r p = R := ⟨_, rfl⟩
  rw [hR]
  refine fn_ruleM (C := ⟨Tryd.prog, layF, Tryd.f19.ntmps, ΓL, 1, [], []⟩) layF_ok mixed Tryd.func19 rfl (by kernel_rfl) rfl rfl rfl ?_
  refine ex_loop (X := Nat × List UInt8 × Nat × Nat) (fun ⟨m, x, u, v⟩ => ⟨[(0, .o (.c (.ptr 0 0)))], [(0, .obj [.d (ds (bs x)), .d (di (u : Nat)), .d (di (v : Nat))])], 1⟩) (fun x => x.1)
    (fun ⟨m, x, u, v⟩ => x.length < m ∧ Bd (u, v) x.length ∧ passN m x (u, v) = R) (r.length + 1, r, p) ⟨Nat.lt_succ_self _, hb, hR⟩ (SLe.of ⟨⟨rfl, trivial⟩, ⟨rfl, trivial⟩⟩) ?_
  rintro ⟨m, x, u, v⟩ ⟨hm, hbd, hs⟩
  obtain ⟨m, rfl⟩ : ∃ k, m = k + 1 := ⟨m - 1, by omega⟩
  obtain ⟨h1, h2, h3, h4⟩ := hbd
  dsimp only at h1 h2 h3 h4
  have hle := passL_le x
  have hsk := fun n hn => (skip_c x (u, v) n (by omega) hn (by show u ≤ _; omega) (by show v ≤ _; omega)).of0 (Γ := ΓL)
  rw [passN] at hs
  refine ex_call ((runB_c x (by omega)).gL) ?_
  refine ex_call (prefix_c ΓL x [47, 47]) ?_
  have fin : ∀ k : Nat, k = passL x → k ≠ 0 → (m, x.drop k, (x.take k).foldl skipP (u, v)).2.1.length < m ∧ Bd ((x.take k).foldl skipP (u, v)) (x.drop k).length ∧ passN m (x.drop k) ((x.take k).foldl skipP (u, v)) = R := by
    intro k hk h0
    subst hk
    rw [if_neg h0] at hs
    have hd : (x.drop (passL x)).length = x.length - passL x := List.length_drop ..
    have ht : (x.take (passL x)).length = passL x := by rw [List.length_take]; omega
    exact ⟨by show (x.drop (passL x)).length < m; omega, by rw [hd]; refine skip_bd _ _ _ ?_; rw [ht, show passL x + (x.length - passL x) = x.length by omega]; exact ⟨h1, h2, h3, h4⟩, hs⟩
  rcases hc : isCom x with _ | _
  · rw [show Lib.hasPrefix x [47, 47] = false from hc]
    have hp : passL x = (x.takeWhile blank).length := by unfold passL; rw [hc]; rfl
    rw [← hp]
    repeat' (first | refine ex_true (by first | decide | omega | assumption | (with_reducible exact rfl)) ?_ | refine ex_false (by first | decide | omega | assumption | exact (fun h => h rfl)) ?_ | refine ex_dec (fun _ => ?_) (fun _ => ?_) | refine ex_u8 _ rfl (by omega) (by omega) ?_ | refine ex_i64 _ rfl (by omega) (by omega) ?_ | refine ex_u64 _ rfl (by omega) (by omega) ?_ | refine and_mk (by first | omega | (show drawOk _ _ _ = true; kernel_rfl)) ?_ | refine and_mk ⟨_, rfl⟩ ?_ | refine ex_is _ (List.length_map _) ?_ | refine ex_is _ List.length_nil ?_ | fail "no step")
    · rename_i h0
      rw [if_pos (by omega)] at hs
      subst hs
      exact ⟨rfl, TLe.rfl, rfl, rfl⟩
    · refine ex_callM (hsk (passL x) hle) ?_
      exact ex_round (m, x.drop (passL x), (x.take (passL x)).foldl skipP (u, v)) (fin (passL x) rfl (by omega)) (Nat.lt_succ_self _) (SLe.of ⟨⟨rfl, trivial⟩, ⟨rfl, trivial⟩⟩)
  · rw [show Lib.hasPrefix x [47, 47] = true from hc]
    have hp : passL x = (x.takeWhile notNl).length := by unfold passL; rw [hc]; rfl
    have hp0 : passL x ≠ 0 := fun e => by
      have := (due_of e).1
      rw [hc] at this
      cases this
    have hcut := cut_c x [10] (by omega)
    rw [cut_fst] at hcut
    have hsz : (bs (x.takeWhile notNl)).size = passL x := by rw [bs_size, hp]
    generalize x.takeWhile notNl = y at *
    refine ex_call (hcut) ?_
    repeat' (first | refine ex_true (by first | decide | omega | assumption | (with_reducible exact rfl)) ?_ | refine ex_false (by first | decide | omega | assumption | exact (fun h => h rfl)) ?_ | refine ex_dec (fun _ => ?_) (fun _ => ?_) | refine ex_u8 _ rfl (by omega) (by omega) ?_ | refine ex_i64 _ rfl (by omega) (by omega) ?_ | refine ex_u64 _ rfl (by omega) (by omega) ?_ | refine and_mk (by first | omega | (show drawOk _ _ _ = true; kernel_rfl)) ?_ | refine and_mk ⟨_, rfl⟩ ?_ | refine ex_is _ (List.length_map _) ?_ | refine ex_is _ List.length_nil ?_ | fail "no step")
    rw [hsz]
    refine ex_callM (hsk (passL x) hle) ?_
    exact ex_round (m, x.drop (passL x), (x.take (passL x)).foldl skipP (u, v)) (fin (passL x) rfl hp0) (Nat.lt_succ_self _) (SLe.of ⟨⟨rfl, trivial⟩, ⟨rfl, trivial⟩⟩)
/-! ### Numbers -/
theorem lower_c (b : UInt8) : CallsA Tryd.prog Γ0 71 [c1 (.v (.int .u8 b.toNat))] (.o (c1 (.v (.int .u8 (bits .or .u8 b.toNat 32))))) :=
  ⟨⟨_, Tryd.func71, by kernel_rfl, rfl⟩, fun S w vs hS hG hvs => by
    obtain ⟨u, rfl, e1⟩ := one_arg hvs
    obtain rfl := open_v e1
    refine (Tryd.internal_strconv_lower b.toNat w).mono fun e w' ⟨he, hb⟩ => ?_
    subst he; subst hb
    exact flat_end hS (Below.refl _ _) (Imm.v rfl)⟩
theorem lower_hex (b : UInt8) : (!(isHex b && !isDig b) || decide (bits .or .u8 b.toNat 32 = (hexN b + 87 : Nat))) = true := u8_all (p := fun b => !(isHex b && !isDig b) || decide (bits .or .u8 b.toNat 32 = (hexN b + 87 : Nat))) (q := fun _ => true) (by decide +kernel) b
theorem hex_bound (b : UInt8) : (!isHex b || (decide (hexN b < 16) && (isDig b == decide (hexN b < 10)))) = true := u8_all (p := fun b => !isHex b || (decide (hexN b < 16) && (isDig b == decide (hexN b < 10)))) (q := fun _ => true) (by decide +kernel) b
/-- The error of a number too great. -/
abbrev rngE : Value := .iface 109 (.int .i64 1)
def tvP : Option Nat → TV
  | some n => .tup [c1 (du n), c1 (.v .nilIface)]
  | none => .tup [c1 (du 18446744073709551615), c1 (.v rngE)]
set_option maxHeartbeats 2000000 in
theorem ipu10_c (l : List UInt8) (h0 : l ≠ []) (hl : l.length ≤ 16384) (hh : ∀ b ∈ l, isHex b = true ∧ hexN b < 10) :
    CallsA Tryd.prog Γ0 63 [c1 (ds (bs l)), c1 (di 10), c1 (di 64)] (tvP (valF 10 0 l)) := by
  obtain ⟨R, hR⟩ : ∃ R, valF 10 0 l = R := ⟨_, rfl⟩
  rw [hR]
  have hsz := bs_size l
  have hne := size_pos h0
  have hpos := List.length_pos_iff.2 h0
  refine fn_rule (C := ⟨Tryd.prog, layF, Tryd.f63.ntmps, Γ0, 0, [], []⟩) layF_ok mixed Tryd.func63 rfl (by kernel_rfl) rfl rfl rfl ?_
  repeat' (first | refine ex_true (by first | decide | omega | assumption | (with_reducible exact rfl)) ?_ | refine ex_false (by first | decide | omega | assumption | exact (fun h => h rfl)) ?_ | refine ex_dec (fun _ => ?_) (fun _ => ?_) | refine ex_u8 _ rfl (by omega) (by omega) ?_ | refine ex_i64 _ rfl (by omega) (by omega) ?_ | refine ex_u64 _ rfl (by omega) (by omega) ?_ | refine and_mk (by first | omega | (show drawOk _ _ _ = true; kernel_rfl)) ?_ | refine and_mk ⟨_, rfl⟩ ?_ | refine ex_is _ (List.length_map _) ?_ | refine ex_is _ List.length_nil ?_ | fail "no step")
  refine ex_is 0 (by decide) ?_
  refine ex_is 18446744073709551615 (by decide) ?_
  refine ex_is l.length (by simp [byteRows]) ?_
  refine ex_loop (X := Nat × Nat) (fun ⟨q, n⟩ => ⟨[(1, Ti 10), (8, Tb false), (10, Tu 1844674407370955162), (11, Tu 18446744073709551615), (12, Tb false), (13, Tu n), (99, .o (c1 (.sl 1 (byteRows l)))), (100, Ti l.length), (101, Ti q)], [], 0⟩) (fun x => l.length - x.1) (fun ⟨q, n⟩ => q ≤ l.length ∧ n < 18446744073709551616 ∧ valF 10 n (l.drop q) = R) (0, 0) ⟨Nat.zero_le _, by decide, hR⟩ (SLe.of ⟨⟨rfl, rfl, rfl, rfl, rfl, rfl, rfl, rfl, rfl, trivial⟩, trivial⟩) ?_
  rintro ⟨q, n⟩ ⟨hq, hn, hv⟩
  refine ex_dec (fun h => ?_) (fun h => ?_)
  · have hql : q < l.length := by omega
    have hc : l[q]? = some l[q] := at_some hql
    have hm : l[q] ∈ l := List.getElem_mem hql
    rw [List.drop_eq_getElem_cons hql, valF] at hv
    generalize l[q] = c at *
    obtain ⟨h1, h2⟩ := hh c hm
    have h3 := lower_hex c
    have h4 := hex_bound c
    have hlow := lower_c c
    rw [h1] at h3 h4
    refine ex_byte q c rfl hc ?_
    have hcl := c.toNat_lt
    rcases hd : isDig c with _ | _ <;> rw [hd] at h3 h4
    · have h6 : 10 ≤ hexN c ∧ hexN c < 16 := by simp at h4; omega
      exfalso; omega
    · have h6 : hexN c < 10 := by simp at h4; omega
      have h7 : 48 ≤ c.toNat ∧ c.toNat ≤ 57 := by simp [isDig] at hd; omega
      have h8 : hexN c = c.toNat - 48 := by unfold hexN; rw [if_pos h7.2]
      rcases Nat.lt_or_ge (n * 10 + hexN c) 18446744073709551616 with h10 | h10
      · rw [if_pos h10] at hv
        repeat' (first | refine ex_i64 ((q + 1 : Nat) : Int) (by omega) (by omega) (by omega) ?_ | refine ex_u64 ((q + 1 : Nat) : Int) (by omega) (by omega) (by omega) ?_ | refine ex_u8 ((q + 1 : Nat) : Int) (by omega) (by omega) (by omega) ?_ | refine ex_i64 ((n * 10 + hexN c : Nat) : Int) (by omega) (by omega) (by omega) ?_ | refine ex_u64 ((n * 10 + hexN c : Nat) : Int) (by omega) (by omega) (by omega) ?_ | refine ex_u8 ((n * 10 + hexN c : Nat) : Int) (by omega) (by omega) (by omega) ?_ | refine ex_i64 ((n * 10 : Nat) : Int) (by omega) (by omega) (by omega) ?_ | refine ex_u64 ((n * 10 : Nat) : Int) (by omega) (by omega) (by omega) ?_ | refine ex_u8 ((n * 10 : Nat) : Int) (by omega) (by omega) (by omega) ?_ | refine ex_i64 ((hexN c : Nat) : Int) (by omega) (by omega) (by omega) ?_ | refine ex_u64 ((hexN c : Nat) : Int) (by omega) (by omega) (by omega) ?_ | refine ex_u8 ((hexN c : Nat) : Int) (by omega) (by omega) (by omega) ?_ | refine ex_true (by first | decide | omega | assumption | (with_reducible exact rfl)) ?_ | refine ex_false (by first | decide | omega | assumption | exact (fun h => h rfl)) ?_ | refine ex_dec (fun _ => ?_) (fun _ => ?_) | refine ex_u8 _ rfl (by omega) (by omega) ?_ | refine ex_i64 _ rfl (by omega) (by omega) ?_ | refine ex_u64 _ rfl (by omega) (by omega) ?_ | refine and_mk (by first | omega | (show drawOk _ _ _ = true; kernel_rfl)) ?_ | refine and_mk ⟨_, rfl⟩ ?_ | refine ex_is _ (List.length_map _) ?_ | refine ex_is _ List.length_nil ?_ | fail "no step")
        exact ex_round (q + 1, n * 10 + hexN c) ⟨by omega, by omega, hv⟩ (by show _ - _ < _ - _; omega) (SLe.of ⟨⟨rfl, rfl, rfl, rfl, rfl, rfl, rfl, rfl, rfl, trivial⟩, trivial⟩)
      · rw [if_neg (by omega)] at hv
        subst hv
        repeat' (first | refine ex_i64 ((q + 1 : Nat) : Int) (by omega) (by omega) (by omega) ?_ | refine ex_u64 ((q + 1 : Nat) : Int) (by omega) (by omega) (by omega) ?_ | refine ex_u8 ((q + 1 : Nat) : Int) (by omega) (by omega) (by omega) ?_ | refine ex_i64 ((n * 10 + hexN c : Nat) : Int) (by omega) (by omega) (by omega) ?_ | refine ex_u64 ((n * 10 + hexN c : Nat) : Int) (by omega) (by omega) (by omega) ?_ | refine ex_u8 ((n * 10 + hexN c : Nat) : Int) (by omega) (by omega) (by omega) ?_ | refine ex_i64 ((n * 10 : Nat) : Int) (by omega) (by omega) (by omega) ?_ | refine ex_u64 ((n * 10 : Nat) : Int) (by omega) (by omega) (by omega) ?_ | refine ex_u8 ((n * 10 : Nat) : Int) (by omega) (by omega) (by omega) ?_ | refine ex_i64 ((hexN c : Nat) : Int) (by omega) (by omega) (by omega) ?_ | refine ex_u64 ((hexN c : Nat) : Int) (by omega) (by omega) (by omega) ?_ | refine ex_u8 ((hexN c : Nat) : Int) (by omega) (by omega) (by omega) ?_ | refine ex_true (by first | decide | omega | assumption | (with_reducible exact rfl)) ?_ | refine ex_false (by first | decide | omega | assumption | exact (fun h => h rfl)) ?_ | refine ex_dec (fun _ => ?_) (fun _ => ?_) | refine ex_u8 _ rfl (by omega) (by omega) ?_ | refine ex_i64 _ rfl (by omega) (by omega) ?_ | refine ex_u64 _ rfl (by omega) (by omega) ?_ | refine and_mk (by first | omega | (show drawOk _ _ _ = true; kernel_rfl)) ?_ | refine and_mk ⟨_, rfl⟩ ?_ | refine ex_is _ (List.length_map _) ?_ | refine ex_is _ List.length_nil ?_ | fail "no step")
        · exact TLe.rfl
        · refine ex_is ((n * 10 + hexN c : Nat) - 18446744073709551616 : Int) (by rw [IntKind.wrap_u64]; omega) ?_
          repeat' (first | refine ex_true (by first | decide | omega | assumption | (with_reducible exact rfl)) ?_ | refine ex_false (by first | decide | omega | assumption | exact (fun h => h rfl)) ?_ | refine ex_dec (fun _ => ?_) (fun _ => ?_) | refine ex_u8 _ rfl (by omega) (by omega) ?_ | refine ex_i64 _ rfl (by omega) (by omega) ?_ | refine ex_u64 _ rfl (by omega) (by omega) ?_ | refine and_mk (by first | omega | (show drawOk _ _ _ = true; kernel_rfl)) ?_ | refine and_mk ⟨_, rfl⟩ ?_ | refine ex_is _ (List.length_map _) ?_ | refine ex_is _ List.length_nil ?_ | fail "no step")
          exact TLe.rfl
  · rw [List.drop_eq_nil_of_le (by omega), valF] at hv
    subst hv
    repeat' (first | refine ex_true (by first | decide | omega | assumption | (with_reducible exact rfl)) ?_ | refine ex_false (by first | decide | omega | assumption | exact (fun h => h rfl)) ?_ | refine ex_dec (fun _ => ?_) (fun _ => ?_) | refine ex_u8 _ rfl (by omega) (by omega) ?_ | refine ex_i64 _ rfl (by omega) (by omega) ?_ | refine ex_u64 _ rfl (by omega) (by omega) ?_ | refine and_mk (by first | omega | (show drawOk _ _ _ = true; kernel_rfl)) ?_ | refine and_mk ⟨_, rfl⟩ ?_ | refine ex_is _ (List.length_map _) ?_ | refine ex_is _ List.length_nil ?_ | fail "no step")
    exact TLe.rfl
set_option maxHeartbeats 2000000 in
theorem ipu16_c (l : List UInt8) (h0 : l ≠ []) (hl : l.length ≤ 16384) (hh : ∀ b ∈ l, isHex b = true ∧ hexN b < 16) :
    CallsA Tryd.prog Γ0 63 [c1 (ds (bs l)), c1 (di 16), c1 (di 64)] (tvP (valF 16 0 l)) := by
  obtain ⟨R, hR⟩ : ∃ R, valF 16 0 l = R := ⟨_, rfl⟩
  rw [hR]
  have hsz := bs_size l
  have hne := size_pos h0
  have hpos := List.length_pos_iff.2 h0
  refine fn_rule (C := ⟨Tryd.prog, layF, Tryd.f63.ntmps, Γ0, 0, [], []⟩) layF_ok mixed Tryd.func63 rfl (by kernel_rfl) rfl rfl rfl ?_
  repeat' (first | refine ex_true (by first | decide | omega | assumption | (with_reducible exact rfl)) ?_ | refine ex_false (by first | decide | omega | assumption | exact (fun h => h rfl)) ?_ | refine ex_dec (fun _ => ?_) (fun _ => ?_) | refine ex_u8 _ rfl (by omega) (by omega) ?_ | refine ex_i64 _ rfl (by omega) (by omega) ?_ | refine ex_u64 _ rfl (by omega) (by omega) ?_ | refine and_mk (by first | omega | (show drawOk _ _ _ = true; kernel_rfl)) ?_ | refine and_mk ⟨_, rfl⟩ ?_ | refine ex_is _ (List.length_map _) ?_ | refine ex_is _ List.length_nil ?_ | fail "no step")
  refine ex_is 0 (by decide) ?_
  refine ex_is 18446744073709551615 (by decide) ?_
  refine ex_is l.length (by simp [byteRows]) ?_
  refine ex_loop (X := Nat × Nat) (fun ⟨q, n⟩ => ⟨[(1, Ti 16), (8, Tb false), (10, Tu 1152921504606846976), (11, Tu 18446744073709551615), (12, Tb false), (13, Tu n), (99, .o (c1 (.sl 1 (byteRows l)))), (100, Ti l.length), (101, Ti q)], [], 0⟩) (fun x => l.length - x.1) (fun ⟨q, n⟩ => q ≤ l.length ∧ n < 18446744073709551616 ∧ valF 16 n (l.drop q) = R) (0, 0) ⟨Nat.zero_le _, by decide, hR⟩ (SLe.of ⟨⟨rfl, rfl, rfl, rfl, rfl, rfl, rfl, rfl, rfl, trivial⟩, trivial⟩) ?_
  rintro ⟨q, n⟩ ⟨hq, hn, hv⟩
  refine ex_dec (fun h => ?_) (fun h => ?_)
  · have hql : q < l.length := by omega
    have hc : l[q]? = some l[q] := at_some hql
    have hm : l[q] ∈ l := List.getElem_mem hql
    rw [List.drop_eq_getElem_cons hql, valF] at hv
    generalize l[q] = c at *
    obtain ⟨h1, h2⟩ := hh c hm
    have h3 := lower_hex c
    have h4 := hex_bound c
    have hlow := lower_c c
    rw [h1] at h3 h4
    refine ex_byte q c rfl hc ?_
    have hcl := c.toNat_lt
    rcases hd : isDig c with _ | _ <;> rw [hd] at h3 h4
    · have h6 : 10 ≤ hexN c ∧ hexN c < 16 := by simp at h4; omega
      have h5 : bits .or .u8 c.toNat 32 = (hexN c + 87 : Nat) := by simpa using h3
      rw [h5] at hlow
      have h7 : ¬ (48 ≤ c.toNat ∧ c.toNat ≤ 57) := by simp [isDig] at hd; omega
      have h9 : c.toNat ≠ 95 := by intro e; simp [isHex, isDig, e] at h1
      repeat' (first | refine ex_call hlow ?_ | refine ex_i64 ((q + 1 : Nat) : Int) (by omega) (by omega) (by omega) ?_ | refine ex_u64 ((q + 1 : Nat) : Int) (by omega) (by omega) (by omega) ?_ | refine ex_u8 ((q + 1 : Nat) : Int) (by omega) (by omega) (by omega) ?_ | refine ex_i64 ((n * 16 + hexN c : Nat) : Int) (by omega) (by omega) (by omega) ?_ | refine ex_u64 ((n * 16 + hexN c : Nat) : Int) (by omega) (by omega) (by omega) ?_ | refine ex_u8 ((n * 16 + hexN c : Nat) : Int) (by omega) (by omega) (by omega) ?_ | refine ex_i64 ((n * 16 : Nat) : Int) (by omega) (by omega) (by omega) ?_ | refine ex_u64 ((n * 16 : Nat) : Int) (by omega) (by omega) (by omega) ?_ | refine ex_u8 ((n * 16 : Nat) : Int) (by omega) (by omega) (by omega) ?_ | refine ex_i64 ((hexN c : Nat) : Int) (by omega) (by omega) (by omega) ?_ | refine ex_u64 ((hexN c : Nat) : Int) (by omega) (by omega) (by omega) ?_ | refine ex_u8 ((hexN c : Nat) : Int) (by omega) (by omega) (by omega) ?_ | refine ex_true (by first | decide | omega | assumption | (with_reducible exact rfl)) ?_ | refine ex_false (by first | decide | omega | assumption | exact (fun h => h rfl)) ?_ | refine ex_dec (fun _ => ?_) (fun _ => ?_) | refine ex_u8 _ rfl (by omega) (by omega) ?_ | refine ex_i64 _ rfl (by omega) (by omega) ?_ | refine ex_u64 _ rfl (by omega) (by omega) ?_ | refine and_mk (by first | omega | (show drawOk _ _ _ = true; kernel_rfl)) ?_ | refine and_mk ⟨_, rfl⟩ ?_ | refine ex_is _ (List.length_map _) ?_ | refine ex_is _ List.length_nil ?_ | fail "no step")
      all_goals first
        | (rw [if_neg (by omega)] at hv; subst hv; exact TLe.rfl)
        | (rw [if_pos (by omega)] at hv; exact ex_round (q + 1, n * 16 + hexN c) ⟨by omega, by omega, hv⟩ (by show _ - _ < _ - _; omega) (SLe.of ⟨⟨rfl, rfl, rfl, rfl, rfl, rfl, rfl, rfl, rfl, trivial⟩, trivial⟩))
    · have h6 : hexN c < 10 := by simp at h4; omega
      have h7 : 48 ≤ c.toNat ∧ c.toNat ≤ 57 := by simp [isDig] at hd; omega
      have h8 : hexN c = c.toNat - 48 := by unfold hexN; rw [if_pos h7.2]
      repeat' (first | refine ex_i64 ((q + 1 : Nat) : Int) (by omega) (by omega) (by omega) ?_ | refine ex_u64 ((q + 1 : Nat) : Int) (by omega) (by omega) (by omega) ?_ | refine ex_u8 ((q + 1 : Nat) : Int) (by omega) (by omega) (by omega) ?_ | refine ex_i64 ((n * 16 + hexN c : Nat) : Int) (by omega) (by omega) (by omega) ?_ | refine ex_u64 ((n * 16 + hexN c : Nat) : Int) (by omega) (by omega) (by omega) ?_ | refine ex_u8 ((n * 16 + hexN c : Nat) : Int) (by omega) (by omega) (by omega) ?_ | refine ex_i64 ((n * 16 : Nat) : Int) (by omega) (by omega) (by omega) ?_ | refine ex_u64 ((n * 16 : Nat) : Int) (by omega) (by omega) (by omega) ?_ | refine ex_u8 ((n * 16 : Nat) : Int) (by omega) (by omega) (by omega) ?_ | refine ex_i64 ((hexN c : Nat) : Int) (by omega) (by omega) (by omega) ?_ | refine ex_u64 ((hexN c : Nat) : Int) (by omega) (by omega) (by omega) ?_ | refine ex_u8 ((hexN c : Nat) : Int) (by omega) (by omega) (by omega) ?_ | refine ex_true (by first | decide | omega | assumption | (with_reducible exact rfl)) ?_ | refine ex_false (by first | decide | omega | assumption | exact (fun h => h rfl)) ?_ | refine ex_dec (fun _ => ?_) (fun _ => ?_) | refine ex_u8 _ rfl (by omega) (by omega) ?_ | refine ex_i64 _ rfl (by omega) (by omega) ?_ | refine ex_u64 _ rfl (by omega) (by omega) ?_ | refine and_mk (by first | omega | (show drawOk _ _ _ = true; kernel_rfl)) ?_ | refine and_mk ⟨_, rfl⟩ ?_ | refine ex_is _ (List.length_map _) ?_ | refine ex_is _ List.length_nil ?_ | fail "no step")
      · rw [if_neg (by omega)] at hv
        subst hv
        exact TLe.rfl
      · rw [if_pos (by omega)] at hv
        exact ex_round (q + 1, n * 16 + hexN c) ⟨by omega, by omega, hv⟩ (by show _ - _ < _ - _; omega) (SLe.of ⟨⟨rfl, rfl, rfl, rfl, rfl, rfl, rfl, rfl, rfl, trivial⟩, trivial⟩)
  · rw [List.drop_eq_nil_of_le (by omega), valF] at hv
    subst hv
    repeat' (first | refine ex_true (by first | decide | omega | assumption | (with_reducible exact rfl)) ?_ | refine ex_false (by first | decide | omega | assumption | exact (fun h => h rfl)) ?_ | refine ex_dec (fun _ => ?_) (fun _ => ?_) | refine ex_u8 _ rfl (by omega) (by omega) ?_ | refine ex_i64 _ rfl (by omega) (by omega) ?_ | refine ex_u64 _ rfl (by omega) (by omega) ?_ | refine and_mk (by first | omega | (show drawOk _ _ _ = true; kernel_rfl)) ?_ | refine and_mk ⟨_, rfl⟩ ?_ | refine ex_is _ (List.length_map _) ?_ | refine ex_is _ List.length_nil ?_ | fail "no step")
    exact TLe.rfl
end Go.Proofs.YtokhlojibhegnaaDoor

namespace Go.Proofs.YtokhlojibhegnaaDoor
set_option linter.unusedVariables false
set_option linter.unusedSimpArgs false
open Go.RowKit
set_option maxRecDepth 100000

theorem five_args {S : Nat → Prop} {w : World} {a b c d e : T1} {vs : List Value} (h : All2 (V1 ι0 S w) [a, b, c, d, e] vs) : ∃ u v x y z, vs = [u, v, x, y, z] ∧ V1 ι0 S w a u ∧ V1 ι0 S w b v ∧ V1 ι0 S w c x ∧ V1 ι0 S w d y ∧ V1 ι0 S w e z := by
  obtain ⟨u, vs, rfl, e0, h⟩ := h.cons_left
  obtain ⟨v, vs, rfl, e1, h⟩ := h.cons_left
  obtain ⟨x, y, z, rfl, e2, e3, e4⟩ := three_args h
  exact ⟨u, v, x, y, z, rfl, e0, e1, e2, e3, e4⟩
theorem toerr_c (fn s : ByteArray) (base bits : Int) (hs : s.size ≤ 281474976710656) : CallsA Tryd.prog ΓL 64 [c1 (ds fn), c1 (ds s), c1 (di base), c1 (di bits), c1 (.v rngE)] (.o (c1 .err)) :=
  ⟨⟨_, Tryd.func64, by kernel_rfl, rfl⟩, fun S w vs hS hG hvs => by
    obtain ⟨u, v, x, y, z, rfl, e0, e1, e2, e3, e4⟩ := five_args hvs
    obtain rfl := open_v e0
    obtain rfl := open_v e1
    obtain rfl := open_v e2
    obtain rfl := open_v e3
    obtain rfl := open_v e4
    obtain ⟨-, ⟨⟨ev, h1, h2⟩, -⟩, -⟩ := hG
    refine (Tryd.strconv_toError_range fn s base bits ev w hs h1 h2).mono fun e w' ⟨N, he, _, _, hb⟩ => ?_
    subst he
    exact flat_end hS hb Imm.err⟩
def tvPu : Option Nat → TV
  | some n => .tup [c1 (du n), c1 (.v .nilIface)]
  | none => .tup [c1 (du 18446744073709551615), c1 .err]
theorem pu_c (base : Nat) (hb : base = 10 ∨ base = 16) (l : List UInt8) (h0 : l ≠ []) (hl : l.length ≤ 16384) (hh : ∀ b ∈ l, isHex b = true ∧ hexN b < base) :
    CallsA Tryd.prog ΓL 49 [c1 (ds (bs l)), c1 (di base), c1 (di 64)] (tvPu (valF base 0 l)) := by
  have hi : CallsA Tryd.prog ΓL 63 [c1 (ds (bs l)), c1 (di base), c1 (di 64)] (tvP (valF base 0 l)) := by
    rcases hb with rfl | rfl
    · exact (ipu10_c l h0 hl hh).gL
    · exact (ipu16_c l h0 hl hh).gL
  have hsz := bs_size l
  have he := toerr_c ⟨#[80, 97, 114, 115, 101, 85, 105, 110, 116]⟩ (bs l) base 64 (by omega)
  cases hv : valF base 0 l with
  | none =>
    rw [hv] at hi
    refine fn_rule (C := ⟨Tryd.prog, layF, Tryd.f49.ntmps, ΓL, 0, [], []⟩) layF_ok mixed Tryd.func49 rfl (by kernel_rfl) rfl rfl rfl ?_
    repeat' (first | refine ex_call he ?_ | refine ex_call hi ?_ | refine ex_true (by first | decide | omega | assumption | (with_reducible exact rfl)) ?_ | refine ex_false (by first | decide | omega | assumption | exact (fun h => h rfl)) ?_ | refine ex_dec (fun _ => ?_) (fun _ => ?_) | refine ex_u8 _ rfl (by omega) (by omega) ?_ | refine ex_i64 _ rfl (by omega) (by omega) ?_ | refine ex_u64 _ rfl (by omega) (by omega) ?_ | refine and_mk (by first | omega | (show drawOk _ _ _ = true; kernel_rfl)) ?_ | refine and_mk ⟨_, rfl⟩ ?_ | refine ex_is _ (List.length_map _) ?_ | refine ex_is _ List.length_nil ?_ | fail "no step")
    exact TLe.rfl
  | some n =>
    rw [hv] at hi
    refine fn_rule (C := ⟨Tryd.prog, layF, Tryd.f49.ntmps, ΓL, 0, [], []⟩) layF_ok mixed Tryd.func49 rfl (by kernel_rfl) rfl rfl rfl ?_
    repeat' (first | refine ex_call he ?_ | refine ex_call hi ?_ | refine ex_true (by first | decide | omega | assumption | (with_reducible exact rfl)) ?_ | refine ex_false (by first | decide | omega | assumption | exact (fun h => h rfl)) ?_ | refine ex_dec (fun _ => ?_) (fun _ => ?_) | refine ex_u8 _ rfl (by omega) (by omega) ?_ | refine ex_i64 _ rfl (by omega) (by omega) ?_ | refine ex_u64 _ rfl (by omega) (by omega) ?_ | refine and_mk (by first | omega | (show drawOk _ _ _ = true; kernel_rfl)) ?_ | refine and_mk ⟨_, rfl⟩ ?_ | refine ex_is _ (List.length_map _) ?_ | refine ex_is _ List.length_nil ?_ | fail "no step")
    exact TLe.rfl
def gT (k : Nat) (t : List UInt8) (n l c : Nat) : T1 := gD [di k, ds (bs t), du n, di l, di c]
/-- What a reading of a token answers: the token without its place, and the error. -/
def tvT : TR → TV
  | .ok k t n => .tup [gT k t n 0 0, c1 (di 0)]
  | .err e => .tup [gT 0 [] 0 0 0, c1 (di e)]
theorem number_c (s : List UInt8) (h0 : s ≠ []) (hs : s.length ≤ 16384) : CallsA Tryd.prog ΓL 38 [c1 (ds (bs s))] (tvT (numF s)) := by
  have hd := (digits_c s hs).gL
  unfold digF at hd
  unfold numF
  have fin : ∀ (l : List UInt8) (base : Nat), base ≠ 0 → CallsA Tryd.prog ΓL 48 [c1 (ds (bs s))] (.tup [c1 (ds (bs l)), c1 (di base)]) →
      CallsA Tryd.prog ΓL 49 [c1 (ds (bs l)), c1 (di base), c1 (di 64)] (tvPu (valF base 0 l)) →
      CallsA Tryd.prog ΓL 38 [c1 (ds (bs s))] (tvT (numR s (valF base 0 l))) := by
    intro l base hb hd hp
    cases hv : valF base 0 l with
    | none =>
      rw [hv] at hp
      refine fn_rule (C := ⟨Tryd.prog, layF, Tryd.f38.ntmps, ΓL, 0, [], []⟩) layF_ok mixed Tryd.func38 rfl (by kernel_rfl) rfl rfl rfl ?_
      repeat' (first | refine ex_call hp ?_ | refine ex_call hd ?_ | refine ex_true (by first | decide | omega | assumption | (with_reducible exact rfl)) ?_ | refine ex_false (by first | decide | omega | assumption | exact (fun h => h rfl)) ?_ | refine ex_dec (fun _ => ?_) (fun _ => ?_) | refine ex_u8 _ rfl (by omega) (by omega) ?_ | refine ex_i64 _ rfl (by omega) (by omega) ?_ | refine ex_u64 _ rfl (by omega) (by omega) ?_ | refine and_mk (by first | omega | (show drawOk _ _ _ = true; kernel_rfl)) ?_ | refine and_mk ⟨_, rfl⟩ ?_ | refine ex_is _ (List.length_map _) ?_ | refine ex_is _ List.length_nil ?_ | fail "no step")
      exact TLe.rfl
    | some n =>
      rw [hv] at hp
      refine fn_rule (C := ⟨Tryd.prog, layF, Tryd.f38.ntmps, ΓL, 0, [], []⟩) layF_ok mixed Tryd.func38 rfl (by kernel_rfl) rfl rfl rfl ?_
      repeat' (first | refine ex_call hp ?_ | refine ex_call hd ?_ | refine ex_true (by first | decide | omega | assumption | (with_reducible exact rfl)) ?_ | refine ex_false (by first | decide | omega | assumption | exact (fun h => h rfl)) ?_ | refine ex_dec (fun _ => ?_) (fun _ => ?_) | refine ex_u8 _ rfl (by omega) (by omega) ?_ | refine ex_i64 _ rfl (by omega) (by omega) ?_ | refine ex_u64 _ rfl (by omega) (by omega) ?_ | refine and_mk (by first | omega | (show drawOk _ _ _ = true; kernel_rfl)) ?_ | refine and_mk ⟨_, rfl⟩ ?_ | refine ex_is _ (List.length_map _) ?_ | refine ex_is _ List.length_nil ?_ | fail "no step")
      exact TLe.rfl
  rcases h6 : sixteen s with _ | _ <;> rw [h6] at hd
  · rcases hA : s.all isDig with _ | _ <;> rw [hA] at hd
    · have hd : CallsA Tryd.prog ΓL 48 [c1 (ds (bs s))] (.tup [c1 (ds (bs [])), c1 (di 0)]) := hd
      refine fn_rule (C := ⟨Tryd.prog, layF, Tryd.f38.ntmps, ΓL, 0, [], []⟩) layF_ok mixed Tryd.func38 rfl (by kernel_rfl) rfl rfl rfl ?_
      repeat' (first | refine ex_call hd ?_ | refine ex_true (by first | decide | omega | assumption | (with_reducible exact rfl)) ?_ | refine ex_false (by first | decide | omega | assumption | exact (fun h => h rfl)) ?_ | refine ex_dec (fun _ => ?_) (fun _ => ?_) | refine ex_u8 _ rfl (by omega) (by omega) ?_ | refine ex_i64 _ rfl (by omega) (by omega) ?_ | refine ex_u64 _ rfl (by omega) (by omega) ?_ | refine and_mk (by first | omega | (show drawOk _ _ _ = true; kernel_rfl)) ?_ | refine and_mk ⟨_, rfl⟩ ?_ | refine ex_is _ (List.length_map _) ?_ | refine ex_is _ List.length_nil ?_ | fail "no step")
      exact TLe.rfl
    · refine fin s 10 (by decide) hd (pu_c 10 (.inl rfl) s h0 hs (fun b hb => ?_))
      have h1 := List.all_eq_true.1 hA b hb
      have h2 := hex_bound b
      have h3 : isHex b = true := by unfold isHex; rw [h1]; rfl
      rw [h3, h1] at h2
      simp at h2
      exact ⟨h3, by omega⟩
  · have h7 := h6
    unfold sixteen at h7
    simp only [Bool.and_eq_true, decide_eq_true_eq] at h7
    refine fin (s.drop 2) 16 (by decide) hd (pu_c 16 (.inr rfl) (s.drop 2) (fun e => ?_) (by rw [List.length_drop]; omega) (fun b hb => ?_))
    · have := congrArg List.length e
      rw [List.length_drop] at this
      simp at this
      omega
    · have h1 := List.all_eq_true.1 h7.2.2 b hb
      have h2 := hex_bound b
      rw [h1] at h2
      simp at h2
      exact ⟨h1, h2.1⟩
theorem token_c (r : List UInt8) (p : Nat × Nat) (hr : r.length ≤ 16384) :
    CallsM Tryd.prog ΓL 20 [(0, Sc r p)] 1 [.c (.ptr 0 0)] (tvT (tokF r)) [(0, Sc r p)] [] := by
  have hR := (runR_c r hr).gL
  have hsz := bs_size r
  have hdl := drop_len alnum r
  have htl := take_len alnum r
  unfold tokF
  rcases hw : r.takeWhile alnum with _ | ⟨b, w⟩ <;> rw [hw] at hR hdl htl
  · dsimp only
    obtain ⟨R, hR2⟩ : ∃ R, signF r = R := ⟨_, rfl⟩
    rw [hR2]
    refine fn_ruleM (C := ⟨Tryd.prog, layF, Tryd.f20.ntmps, ΓL, 1, [], []⟩) layF_ok mixed Tryd.func20 rfl (by kernel_rfl) rfl rfl rfl ?_
    repeat' (first | refine ex_call hR ?_ | refine ex_true (by first | decide | omega | assumption | (with_reducible exact rfl)) ?_ | refine ex_false (by first | decide | omega | assumption | exact (fun h => h rfl)) ?_ | refine ex_dec (fun _ => ?_) (fun _ => ?_) | refine ex_u8 _ rfl (by omega) (by omega) ?_ | refine ex_i64 _ rfl (by omega) (by omega) ?_ | refine ex_u64 _ rfl (by omega) (by omega) ?_ | refine and_mk (by first | omega | (show drawOk _ _ _ = true; kernel_rfl)) ?_ | refine and_mk ⟨_, rfl⟩ ?_ | refine ex_is _ (List.length_map _) ?_ | refine ex_is _ List.length_nil ?_ | fail "no step")
    refine ex_loop (X := Nat) (fun q => ⟨[(0, .o (.c (.ptr 0 0))), (2, .o (.c (.ptr 1 0))), (35, .o (.g (signsL.map fun l => .d (ds (bs l))))), (36, Ti q)], [(0, Sc r p), (1, .obj [.d (di 0), .d (ds (bs [])), .d (du 0), .d (di 0), .d (di 0)])], 2⟩) (fun q => 29 - q) (fun q => q ≤ 29 ∧ (signsL.drop q).find? (·.isPrefixOf r) = R) 0 ⟨by decide, hR2⟩ (SLe.of ⟨⟨rfl, rfl, rfl, rfl, trivial⟩, ⟨rfl, rfl, trivial⟩⟩) ?_
    rintro q ⟨hq, hs⟩
    refine ex_dec (fun h => ?_) (fun h => ?_)
    · have hql : q < signsL.length := by rw [show signsL.length = 29 from rfl]; omega
      have hc : signsL[q]? = some signsL[q] := at_some hql
      have hix : List.take 1 (List.drop (((q : Nat) : Int).toNat * 1) (signsL.map fun l => CV.d (ds (bs l)))) = [CV.d (ds (bs signsL[q]))] := by
        rw [Int.toNat_natCast, Nat.mul_one, ← List.map_drop, List.drop_eq_getElem_cons hql, List.map_cons, List.take_succ_cons, List.take_zero]
      rw [List.drop_eq_getElem_cons hql, List.find?_cons] at hs
      generalize signsL[q] = c at *
      refine ⟨by omega, by omega, ex_is _ hix ?_⟩
      have hp := prefix_c ΓL r c
      rcases hpr : c.isPrefixOf r with _ | _
      · rw [hpr] at hs
        rw [show Lib.hasPrefix r c = false from hpr] at hp
        refine ex_call (hp) ?_
        repeat' (first | refine ex_i64 ((q + 1 : Nat) : Int) (by omega) (by omega) (by omega) ?_ | refine ex_u64 ((q + 1 : Nat) : Int) (by omega) (by omega) (by omega) ?_ | refine ex_u8 ((q + 1 : Nat) : Int) (by omega) (by omega) (by omega) ?_ | refine ex_true (by first | decide | omega | assumption | (with_reducible exact rfl)) ?_ | refine ex_false (by first | decide | omega | assumption | exact (fun h => h rfl)) ?_ | refine ex_dec (fun _ => ?_) (fun _ => ?_) | refine ex_u8 _ rfl (by omega) (by omega) ?_ | refine ex_i64 _ rfl (by omega) (by omega) ?_ | refine ex_u64 _ rfl (by omega) (by omega) ?_ | refine and_mk (by first | omega | (show drawOk _ _ _ = true; kernel_rfl)) ?_ | refine and_mk ⟨_, rfl⟩ ?_ | refine ex_is _ (List.length_map _) ?_ | refine ex_is _ List.length_nil ?_ | fail "no step")
        exact ex_round (q + 1) ⟨by omega, hs⟩ (by show _ - _ < _ - _; omega) (SLe.of ⟨⟨rfl, rfl, rfl, rfl, trivial⟩, ⟨rfl, rfl, trivial⟩⟩)
      · rw [hpr] at hs
        subst hs
        rw [show Lib.hasPrefix r c = true from hpr] at hp
        refine ex_call (hp) ?_
        repeat' (first | refine ex_true (by first | decide | omega | assumption | (with_reducible exact rfl)) ?_ | refine ex_false (by first | decide | omega | assumption | exact (fun h => h rfl)) ?_ | refine ex_dec (fun _ => ?_) (fun _ => ?_) | refine ex_u8 _ rfl (by omega) (by omega) ?_ | refine ex_i64 _ rfl (by omega) (by omega) ?_ | refine ex_u64 _ rfl (by omega) (by omega) ?_ | refine and_mk (by first | omega | (show drawOk _ _ _ = true; kernel_rfl)) ?_ | refine and_mk ⟨_, rfl⟩ ?_ | refine ex_is _ (List.length_map _) ?_ | refine ex_is _ List.length_nil ?_ | fail "no step")
        exact ⟨rfl, TLe.rfl, rfl, rfl⟩
    · have : q = 29 := by omega
      subst this
      subst hs
      exact ⟨rfl, TLe.rfl, rfl, rfl⟩
  · have hwl : (b :: w).length ≤ r.length := by omega
    have hD := (runD_c (b :: w) (by omega)).gL
    have hN := number_c (b :: w) (by simp) (by omega)
    have hE := ext_take r (b :: w).length
    rw [htl] at hE
    have hbd : 0 < (b :: w).length := by simp
    dsimp only
    rcases hb : isDig b with _ | _
    · have hD0 : ((b :: w).takeWhile isDig).length = 0 := by rw [List.takeWhile_cons, hb]; rfl
      rw [hD0] at hD
      generalize b :: w = y at *
      by_cases h32 : y.length ≤ 32
      · rw [if_neg (by decide), if_pos h32]
        refine fn_ruleM (C := ⟨Tryd.prog, layF, Tryd.f20.ntmps, ΓL, 1, [], []⟩) layF_ok mixed Tryd.func20 rfl (by kernel_rfl) rfl rfl rfl ?_
        repeat' (first | refine ex_call hR ?_ | refine ex_true (by first | decide | omega | assumption | (with_reducible exact rfl)) ?_ | refine ex_false (by first | decide | omega | assumption | exact (fun h => h rfl)) ?_ | refine ex_dec (fun _ => ?_) (fun _ => ?_) | refine ex_u8 _ rfl (by omega) (by omega) ?_ | refine ex_i64 _ rfl (by omega) (by omega) ?_ | refine ex_u64 _ rfl (by omega) (by omega) ?_ | refine and_mk (by first | omega | (show drawOk _ _ _ = true; kernel_rfl)) ?_ | refine and_mk ⟨_, rfl⟩ ?_ | refine ex_is _ (List.length_map _) ?_ | refine ex_is _ List.length_nil ?_ | fail "no step")
        rw [hE]
        repeat' (first | refine ex_call hD ?_ | refine ex_true (by first | decide | omega | assumption | (with_reducible exact rfl)) ?_ | refine ex_false (by first | decide | omega | assumption | exact (fun h => h rfl)) ?_ | refine ex_dec (fun _ => ?_) (fun _ => ?_) | refine ex_u8 _ rfl (by omega) (by omega) ?_ | refine ex_i64 _ rfl (by omega) (by omega) ?_ | refine ex_u64 _ rfl (by omega) (by omega) ?_ | refine and_mk (by first | omega | (show drawOk _ _ _ = true; kernel_rfl)) ?_ | refine and_mk ⟨_, rfl⟩ ?_ | refine ex_is _ (List.length_map _) ?_ | refine ex_is _ List.length_nil ?_ | fail "no step")
        exact ⟨rfl, TLe.rfl, rfl, rfl⟩
      · rw [if_neg (by decide), if_neg h32]
        refine fn_ruleM (C := ⟨Tryd.prog, layF, Tryd.f20.ntmps, ΓL, 1, [], []⟩) layF_ok mixed Tryd.func20 rfl (by kernel_rfl) rfl rfl rfl ?_
        repeat' (first | refine ex_call hR ?_ | refine ex_true (by first | decide | omega | assumption | (with_reducible exact rfl)) ?_ | refine ex_false (by first | decide | omega | assumption | exact (fun h => h rfl)) ?_ | refine ex_dec (fun _ => ?_) (fun _ => ?_) | refine ex_u8 _ rfl (by omega) (by omega) ?_ | refine ex_i64 _ rfl (by omega) (by omega) ?_ | refine ex_u64 _ rfl (by omega) (by omega) ?_ | refine and_mk (by first | omega | (show drawOk _ _ _ = true; kernel_rfl)) ?_ | refine and_mk ⟨_, rfl⟩ ?_ | refine ex_is _ (List.length_map _) ?_ | refine ex_is _ List.length_nil ?_ | fail "no step")
        rw [hE]
        repeat' (first | refine ex_call hD ?_ | refine ex_true (by first | decide | omega | assumption | (with_reducible exact rfl)) ?_ | refine ex_false (by first | decide | omega | assumption | exact (fun h => h rfl)) ?_ | refine ex_dec (fun _ => ?_) (fun _ => ?_) | refine ex_u8 _ rfl (by omega) (by omega) ?_ | refine ex_i64 _ rfl (by omega) (by omega) ?_ | refine ex_u64 _ rfl (by omega) (by omega) ?_ | refine and_mk (by first | omega | (show drawOk _ _ _ = true; kernel_rfl)) ?_ | refine and_mk ⟨_, rfl⟩ ?_ | refine ex_is _ (List.length_map _) ?_ | refine ex_is _ List.length_nil ?_ | fail "no step")
        exact ⟨rfl, TLe.rfl, rfl, rfl⟩
    · have hD0 : 0 < ((b :: w).takeWhile isDig).length := by rw [List.takeWhile_cons, hb]; simp
      rw [if_pos rfl]
      generalize b :: w = y at *
      generalize (y.takeWhile isDig).length = d at *
      rcases hn : numF y with ⟨k, t, n⟩ | e <;> rw [hn] at hN
      ·
        refine fn_ruleM (C := ⟨Tryd.prog, layF, Tryd.f20.ntmps, ΓL, 1, [], []⟩) layF_ok mixed Tryd.func20 rfl (by kernel_rfl) rfl rfl rfl ?_
        repeat' (first | refine ex_call hR ?_ | refine ex_true (by first | decide | omega | assumption | (with_reducible exact rfl)) ?_ | refine ex_false (by first | decide | omega | assumption | exact (fun h => h rfl)) ?_ | refine ex_dec (fun _ => ?_) (fun _ => ?_) | refine ex_u8 _ rfl (by omega) (by omega) ?_ | refine ex_i64 _ rfl (by omega) (by omega) ?_ | refine ex_u64 _ rfl (by omega) (by omega) ?_ | refine and_mk (by first | omega | (show drawOk _ _ _ = true; kernel_rfl)) ?_ | refine and_mk ⟨_, rfl⟩ ?_ | refine ex_is _ (List.length_map _) ?_ | refine ex_is _ List.length_nil ?_ | fail "no step")
        rw [hE]
        repeat' (first | refine ex_call hN ?_ | refine ex_call hD ?_ | refine ex_true (by first | decide | omega | assumption | (with_reducible exact rfl)) ?_ | refine ex_false (by first | decide | omega | assumption | exact (fun h => h rfl)) ?_ | refine ex_dec (fun _ => ?_) (fun _ => ?_) | refine ex_u8 _ rfl (by omega) (by omega) ?_ | refine ex_i64 _ rfl (by omega) (by omega) ?_ | refine ex_u64 _ rfl (by omega) (by omega) ?_ | refine and_mk (by first | omega | (show drawOk _ _ _ = true; kernel_rfl)) ?_ | refine and_mk ⟨_, rfl⟩ ?_ | refine ex_is _ (List.length_map _) ?_ | refine ex_is _ List.length_nil ?_ | fail "no step")
        exact ⟨rfl, TLe.rfl, rfl, rfl⟩
      ·
        refine fn_ruleM (C := ⟨Tryd.prog, layF, Tryd.f20.ntmps, ΓL, 1, [], []⟩) layF_ok mixed Tryd.func20 rfl (by kernel_rfl) rfl rfl rfl ?_
        repeat' (first | refine ex_call hR ?_ | refine ex_true (by first | decide | omega | assumption | (with_reducible exact rfl)) ?_ | refine ex_false (by first | decide | omega | assumption | exact (fun h => h rfl)) ?_ | refine ex_dec (fun _ => ?_) (fun _ => ?_) | refine ex_u8 _ rfl (by omega) (by omega) ?_ | refine ex_i64 _ rfl (by omega) (by omega) ?_ | refine ex_u64 _ rfl (by omega) (by omega) ?_ | refine and_mk (by first | omega | (show drawOk _ _ _ = true; kernel_rfl)) ?_ | refine and_mk ⟨_, rfl⟩ ?_ | refine ex_is _ (List.length_map _) ?_ | refine ex_is _ List.length_nil ?_ | fail "no step")
        rw [hE]
        repeat' (first | refine ex_call hN ?_ | refine ex_call hD ?_ | refine ex_true (by first | decide | omega | assumption | (with_reducible exact rfl)) ?_ | refine ex_false (by first | decide | omega | assumption | exact (fun h => h rfl)) ?_ | refine ex_dec (fun _ => ?_) (fun _ => ?_) | refine ex_u8 _ rfl (by omega) (by omega) ?_ | refine ex_i64 _ rfl (by omega) (by omega) ?_ | refine ex_u64 _ rfl (by omega) (by omega) ?_ | refine and_mk (by first | omega | (show drawOk _ _ _ = true; kernel_rfl)) ?_ | refine and_mk ⟨_, rfl⟩ ?_ | refine ex_is _ (List.length_map _) ?_ | refine ex_is _ List.length_nil ?_ | fail "no step")
        exact ⟨rfl, TLe.rfl, rfl, rfl⟩
end Go.Proofs.YtokhlojibhegnaaDoor

namespace Go.Proofs.YtokhlojibhegnaaDoor
set_option linter.unusedVariables false
set_option linter.unusedSimpArgs false
open Go.RowKit
set_option maxRecDepth 100000

def tokD (t : TokP) : List D := [di t.k, ds (bs t.t), du t.n, di t.l, di t.c]
/-- What Lex answers. -/
def lexT : LR → TV
  | .ok ts => .tup [c1 (.sl 5 (ts.map tokD)), gD [di 0, di 0], c1 (di 0)]
  | .err l c e => .tup [c1 (.sl 5 []), gD [di l, di c], c1 (di e)]
def lexV (s : List UInt8) : LR := if s.length ≤ 16384 then lexF s 1 1 else .err 1 1 7
theorem passF_facts (r : List UInt8) (p : Nat × Nat) (h : Bd p r.length) : lexF r p.1 p.2 = lexF (passF r p).1 (passF r p).2.1 (passF r p).2.2 ∧ Due (passF r p).1 ∧ Bd (passF r p).2 (passF r p).1.length ∧ (passF r p).1.length ≤ r.length := passN_facts _ r p (Nat.lt_succ_self _) h
theorem TLe.nilc {s : Nat} {l : List T1} : TLe (.tup (c1 (.v (.slice none 0 0)) :: l)) (.tup (c1 (.sl s []) :: l)) := fun ι S w v ⟨us, hu, h⟩ => by
  have h : All2 (V1 ι S w) (c1 (.v (.slice none 0 0)) :: l) us := h
  obtain ⟨u, us, rfl, e, h⟩ := h.cons_left
  exact ⟨u :: us, hu, .cons (TLe.nil ι S w u e) h⟩
theorem numF_err {s : List UInt8} {e : Nat} (h : numF s = .err e) : 4 ≤ e ∧ e ≤ 7 := by
  unfold numF at h
  split at h
  · revert h; cases valF 16 0 (s.drop 2) <;> intro h <;> cases h; decide
  · split at h
    · revert h; cases valF 10 0 s <;> intro h <;> cases h; decide
    · cases h; decide
theorem tokF_err {r : List UInt8} {e : Nat} (h : tokF r = .err e) : 4 ≤ e ∧ e ≤ 7 := by
  unfold tokF at h
  split at h
  · split at h
    · cases h; decide
    · cases h
  · split at h
    · exact numF_err h
    · split at h
      · cases h
      · cases h; decide
abbrev Pz : Blk := .obj [.d (di 0), .d (di 0)]
theorem lex_c (s : List UInt8) : CallsA Tryd.prog ΓL 8 [c1 (ds (bs s))] (lexT (lexV s)) := by
  have hsz := bs_size s
  unfold lexV
  by_cases hs : s.length ≤ 16384
  · rw [if_pos hs]
    obtain ⟨R, hR⟩ : ∃ R, lexF s 1 1 = R := ⟨_, rfl⟩
    rw [hR]
    refine fn_rule (C := ⟨Tryd.prog, layF, Tryd.f8.ntmps, ΓL, 0, [], []⟩) layF_ok mixed Tryd.func8 rfl (by kernel_rfl) rfl rfl rfl ?_
    repeat' (first | refine ex_true (by first | decide | omega | assumption | (with_reducible exact rfl)) ?_ | refine ex_false (by first | decide | omega | assumption | exact (fun h => h rfl)) ?_ | refine ex_dec (fun _ => ?_) (fun _ => ?_) | refine ex_u8 _ rfl (by omega) (by omega) ?_ | refine ex_i64 _ rfl (by omega) (by omega) ?_ | refine ex_u64 _ rfl (by omega) (by omega) ?_ | refine and_mk (by first | omega | (show drawOk _ _ _ = true; kernel_rfl)) ?_ | refine and_mk ⟨_, rfl⟩ ?_ | refine ex_is _ (List.length_map _) ?_ | refine ex_is _ List.length_nil ?_ | fail "no step")
    refine ex_loop (X := List UInt8 × Nat × Nat × List TokP) (fun ⟨r, u, v, o⟩ => ⟨[(3, .o (.c (.ptr 0 0))), (5, .o (.c (.ptr 1 0))), (6, .o (.c (.row 2)))], [(0, Pz), (1, Sc r (u, v)), (2, .row 5 36 (o.map tokD))], 3⟩) (fun x => x.1.length)
      (fun ⟨r, u, v, o⟩ => Bd (u, v) r.length ∧ o.length + r.length ≤ s.length ∧ (lexF r u v).pre o = R) (s, 1, 1, []) ⟨⟨by decide, by decide, by show 1 + _ ≤ _; omega, by show 1 + _ ≤ _; omega⟩, by simp, by rw [hR]; cases R <;> rfl⟩ (SLe.trans (SLe.of ⟨⟨rfl, rfl, rfl, trivial⟩, ⟨rfl, rfl, rfl, trivial⟩⟩) (SLe.own 6 2 5 36 rfl rfl rfl rfl rfl)) ?_
    rintro ⟨r, u, v, o⟩ ⟨hb, hol, hs2⟩
    obtain ⟨e1, e2, e3, e4⟩ := passF_facts r (u, v) hb
    have hp := pass_c r (u, v) hb
    rw [e1] at hs2
    generalize passF r (u, v) = Q at *
    obtain ⟨x, u, v⟩ := Q
    dsimp only at e1 e2 e3 e4 hs2 hp
    refine ex_callM (CallsM.ren (hp) [1] 3 rfl rfl rfl rfl) ?_
    have hxs := bs_size x
    rcases x with _ | ⟨b, y⟩
    · rw [lexF_nil] at hs2
      subst hs2
      repeat' (first | refine ex_true (by first | decide | omega | assumption | (with_reducible exact rfl)) ?_ | refine ex_false (by first | decide | omega | assumption | exact (fun h => h rfl)) ?_ | refine ex_dec (fun _ => ?_) (fun _ => ?_) | refine ex_u8 _ rfl (by omega) (by omega) ?_ | refine ex_i64 _ rfl (by omega) (by omega) ?_ | refine ex_u64 _ rfl (by omega) (by omega) ?_ | refine and_mk (by first | omega | (show drawOk _ _ _ = true; kernel_rfl)) ?_ | refine and_mk ⟨_, rfl⟩ ?_ | refine ex_is _ (List.length_map _) ?_ | refine ex_is _ List.length_nil ?_ | fail "no step")
      refine ex_app (o.length) (1) 1000 (by first | rfl | (simp; done) | (simp; omega)) (by first | rfl | (simp; done) | (simp; omega)) rfl (by omega) ?_
      refine ex_is (List.map tokD (o ++ [(⟨3, [], 0, u, v⟩ : TokP)])) (by rw [List.map_append]; rfl) ?_
      repeat' (first | refine ex_true (by first | decide | omega | assumption | (with_reducible exact rfl)) ?_ | refine ex_false (by first | decide | omega | assumption | exact (fun h => h rfl)) ?_ | refine ex_dec (fun _ => ?_) (fun _ => ?_) | refine ex_u8 _ rfl (by omega) (by omega) ?_ | refine ex_i64 _ rfl (by omega) (by omega) ?_ | refine ex_u64 _ rfl (by omega) (by omega) ?_ | refine and_mk (by first | omega | (show drawOk _ _ _ = true; kernel_rfl)) ?_ | refine and_mk ⟨_, rfl⟩ ?_ | refine ex_is _ (List.length_map _) ?_ | refine ex_is _ List.length_nil ?_ | fail "no step")
      exact TLe.rfl
    · have hne := size_pos (l := b :: y) (by simp)
      have hx0 : b :: y ≠ [] := by simp
      have hxl : 1 ≤ (b :: y).length := by simp
      generalize b :: y = x at *
      refine ex_false hne ?_
      have ht := token_c x (u, v) (by omega)
      rw [lexF_tok u v hx0 e2.2 e2.1] at hs2
      rcases hk : tokF x with ⟨k, t, n⟩ | e <;> rw [hk] at ht hs2
      · dsimp only at hs2
        obtain ⟨⟨X, hX⟩, ht0, hk3, ht10⟩ := tokF_ok hk
        refine ex_callM (CallsM.ren (ht) [1] 3 rfl rfl rfl rfl) ?_
        repeat' (first | refine ex_true (by first | decide | omega | assumption | (with_reducible exact rfl)) ?_ | refine ex_false (by first | decide | omega | assumption | exact (fun h => h rfl)) ?_ | refine ex_dec (fun _ => ?_) (fun _ => ?_) | refine ex_u8 _ rfl (by omega) (by omega) ?_ | refine ex_i64 _ rfl (by omega) (by omega) ?_ | refine ex_u64 _ rfl (by omega) (by omega) ?_ | refine and_mk (by first | omega | (show drawOk _ _ _ = true; kernel_rfl)) ?_ | refine and_mk ⟨_, rfl⟩ ?_ | refine ex_is _ (List.length_map _) ?_ | refine ex_is _ List.length_nil ?_ | fail "no step")
        refine ex_app (o.length) (1) 1000 (by first | rfl | (simp; done) | (simp; omega)) (by first | rfl | (simp; done) | (simp; omega)) rfl (by omega) ?_
        refine ex_is (List.map tokD (o ++ [(⟨k, t, n, u, v⟩ : TokP)])) (by rw [List.map_append]; rfl) ?_
        repeat' (first | refine ex_true (by first | decide | omega | assumption | (with_reducible exact rfl)) ?_ | refine ex_false (by first | decide | omega | assumption | exact (fun h => h rfl)) ?_ | refine ex_dec (fun _ => ?_) (fun _ => ?_) | refine ex_u8 _ rfl (by omega) (by omega) ?_ | refine ex_i64 _ rfl (by omega) (by omega) ?_ | refine ex_u64 _ rfl (by omega) (by omega) ?_ | refine and_mk (by first | omega | (show drawOk _ _ _ = true; kernel_rfl)) ?_ | refine and_mk ⟨_, rfl⟩ ?_ | refine ex_is _ (List.length_map _) ?_ | refine ex_is _ List.length_nil ?_ | fail "no step")
        have hbt := bs_size t
        have hxt : x.length = t.length + X.length := by rw [hX, List.length_append]
        have hsk := skip_c x (u, v) (bs t).size (by omega) (by omega) (by have := e3.2.2.1; show u ≤ _; omega) (by have := e3.2.2.2; show v ≤ _; omega)
        have hq : (x.take (bs t).size).foldl skipP (u, v) = (u, v + t.length) := by rw [hbt, hX, List.take_left, skip_line t u v ht10]
        have hdr : x.drop (bs t).size = X := by rw [hbt, hX, List.drop_left]
        rw [hq, hdr] at hsk
        rw [← hbt, hdr, hbt, LR.pre_pre] at hs2
        refine ex_callM (CallsM.ren (hsk.of0) [1] 6 rfl rfl rfl rfl) ?_
        have hpos : 0 < t.length := List.length_pos_iff.2 ht0
        exact ex_round (X, u, v + t.length, o ++ [⟨k, t, n, u, v⟩]) ⟨⟨e3.1, by have := e3.2.1; show 1 ≤ v + _; omega, by have := e3.2.2.1; show u + _ ≤ _; omega, by have := e3.2.2.2; show v + _ + _ ≤ _; omega⟩, by show (o ++ [_]).length + X.length ≤ _; rw [List.length_append, List.length_cons, List.length_nil]; omega, hs2⟩ (by show X.length < r.length; omega) (SLe.ren [(0, 0), (1, 1), (5, 2)] ⟨⟨rfl, rfl⟩, ⟨rfl, rfl⟩, ⟨rfl, rfl⟩, trivial⟩ ⟨⟨rfl, rfl⟩, ⟨rfl, rfl⟩, ⟨rfl, rfl⟩, trivial⟩ rfl)
      · have he := tokF_err hk
        subst hs2
        refine ex_callM (CallsM.ren (ht) [1] 3 rfl rfl rfl rfl) ?_
        repeat' (first | refine ex_true (by first | decide | omega | assumption | (with_reducible exact rfl)) ?_ | refine ex_false (by first | decide | omega | assumption | exact (fun h => h rfl)) ?_ | refine ex_dec (fun _ => ?_) (fun _ => ?_) | refine ex_u8 _ rfl (by omega) (by omega) ?_ | refine ex_i64 _ rfl (by omega) (by omega) ?_ | refine ex_u64 _ rfl (by omega) (by omega) ?_ | refine and_mk (by first | omega | (show drawOk _ _ _ = true; kernel_rfl)) ?_ | refine and_mk ⟨_, rfl⟩ ?_ | refine ex_is _ (List.length_map _) ?_ | refine ex_is _ List.length_nil ?_ | fail "no step")
        exact TLe.nilc
  · rw [if_neg hs]
    refine fn_rule (C := ⟨Tryd.prog, layF, Tryd.f8.ntmps, ΓL, 0, [], []⟩) layF_ok mixed Tryd.func8 rfl (by kernel_rfl) rfl rfl rfl ?_
    repeat' (first | refine ex_true (by first | decide | omega | assumption | (with_reducible exact rfl)) ?_ | refine ex_false (by first | decide | omega | assumption | exact (fun h => h rfl)) ?_ | refine ex_dec (fun _ => ?_) (fun _ => ?_) | refine ex_u8 _ rfl (by omega) (by omega) ?_ | refine ex_i64 _ rfl (by omega) (by omega) ?_ | refine ex_u64 _ rfl (by omega) (by omega) ?_ | refine and_mk (by first | omega | (show drawOk _ _ _ = true; kernel_rfl)) ?_ | refine and_mk ⟨_, rfl⟩ ?_ | refine ex_is _ (List.length_map _) ?_ | refine ex_is _ List.length_nil ?_ | fail "no step")
    exact TLe.nilc
end Go.Proofs.YtokhlojibhegnaaDoor

namespace Go.Proofs.YtokhlojibhegnaaDoor
set_option linter.unusedVariables false
set_option linter.unusedSimpArgs false
open Go.RowKit
set_option maxRecDepth 100000

set_option maxRecDepth 100000

abbrev dstrs (l : List ByteArray) : D := .sl 1 (l.map fun s => [ds s])
theorem join_c (Γ : Glob) (l : List ByteArray) (sep : ByteArray) (h : (Lib.join (l.map (·.data.toList)) sep.data.toList).length ≤ 140737488355328) (hl : l.length ≤ 140737488355328) :
    CallsA Tryd.prog Γ 26 [c1 (dstrs l), c1 (ds sep)] (.o (c1 (ds ⟨(Lib.join (l.map (·.data.toList)) sep.data.toList).toArray⟩))) :=
  ⟨⟨_, Tryd.func26, by kernel_rfl, rfl⟩, fun S w vs hS hG hvs => by
    obtain ⟨u, v, rfl, e1, e2⟩ := two_args hvs
    obtain rfl := open_v e2
    have e1 : Imm S w (dstrs l) u := e1
    obtain ⟨rows, hr⟩ : ∃ rows, l.map (fun s => [ds s]) = rows := ⟨_, rfl⟩
    have hl2 : rows.length = l.length := by rw [← hr, List.length_map]
    rw [show dstrs l = .sl 1 rows by rw [← hr]] at e1
    have hnil : rows = [] → l = [] := fun e => by rw [e] at hl2; exact List.eq_nil_of_length_eq_zero hl2.symm
    have fin : ∀ (a : Option Addr) (c : Nat), l = [] → Calls Tryd.prog 26 #[.slice a 0 c, .string sep] w fun e w' => ∃ v S', e = .returned v ∧ Below w.heap.size w w' ∧ (∀ b, S b → S' b) ∧ (∀ b, S' b → S b ∨ w.heap.size ≤ b) ∧ (∀ b, S' b → b < w'.heap.size) ∧ V ι0 S' w' (.o (c1 (ds ⟨(Lib.join (l.map (·.data.toList)) sep.data.toList).toArray⟩))) v := fun a c h0 => by
      rw [h0]
      refine (Tryd.strings_Join_none a c sep w).mono fun e w' ⟨he, hb⟩ => ?_
      subst he; subst hb
      exact flat_end hS (Below.refl _ _) (Imm.v rfl)
    cases e1 with
    | nil => exact fin _ _ (hnil rfl)
    | sl0 => exact fin _ _ (hnil rfl)
    | sl us hs hc hrr hc1 hc2 =>
      rename_i g f cap
      rw [hl2]
      refine (Tryd.strings_Join g f cap l sep w (fun j x hj => ?_) (hS _ hs) hl (by omega) h).mono fun e w' ⟨he, hb⟩ => ?_
      · have hrow : rows.flatten[j]? = some (ds x) := by
          have := flatten_get (i := j) (j := 0) (r := [ds x]) (d := ds x) hrr (by rw [← hr, List.getElem?_map, hj]; rfl) rfl
          simpa using this
        have h1 := hc1 j _ hrow
        have h2 := hc2 j _ hrow
        rw [h1]
        generalize us j = u at *
        cases h2
        rfl
      · subst he
        exact flat_end hS hb (Imm.v rfl)⟩
theorem repeat_c (Γ : Glob) (s : ByteArray) (c : Nat) (hc : c ≤ 9223372036854775807) (h : s.size * c ≤ 140737488355328) :
    CallsA Tryd.prog Γ 18 [c1 (ds s), c1 (di c)] (.o (c1 (ds ⟨(Lib.repeatL s.data.toList c).toArray⟩))) :=
  ⟨⟨_, Tryd.func18, by kernel_rfl, rfl⟩, fun S w vs hS hG hvs => by
    obtain ⟨u, v, rfl, e1, e2⟩ := two_args hvs
    obtain rfl := open_v e1
    obtain rfl := open_v e2
    refine (Tryd.strings_Repeat s c w hc h).mono fun e w' ⟨he, hb⟩ => ?_
    subst he
    exact flat_end hS hb (Imm.v rfl)⟩
def nameF : List UInt8 → Bool
  | [] => false
  | b :: s => decide ((b :: s).length ≤ 32) && ((b :: s).all alnum && !isDig b)
theorem name_c (s : List UInt8) (hl : s.length ≤ 281474976710656) : CallsA Tryd.prog Γ0 11 [c1 (ds (bs s))] (Tb (nameF s)) := by
  have hsz := bs_size s
  rcases s with _ | ⟨b, x⟩
  ·
    refine fn_rule (C := ⟨Tryd.prog, layF, Tryd.f11.ntmps, Γ0, 0, [], []⟩) layF_ok mixed Tryd.func11 rfl (by kernel_rfl) rfl rfl rfl ?_
    repeat' (first | refine ex_true (by first | decide | omega | assumption | (with_reducible exact rfl)) ?_ | refine ex_false (by first | decide | omega | assumption | exact (fun h => h rfl)) ?_ | refine ex_dec (fun _ => ?_) (fun _ => ?_) | refine ex_u8 _ rfl (by omega) (by omega) ?_ | refine ex_i64 _ rfl (by omega) (by omega) ?_ | refine ex_u64 _ rfl (by omega) (by omega) ?_ | refine and_mk (by first | omega | (show drawOk _ _ _ = true; kernel_rfl)) ?_ | refine and_mk ⟨_, rfl⟩ ?_ | refine ex_is _ (List.length_map _) ?_ | refine ex_is _ List.length_nil ?_ | fail "no step")
    exact TLe.rfl
  · have hne := size_pos (l := b :: x) (by simp)
    have hhd : ((b :: x).takeWhile isDig).length = 0 ↔ isDig b = false := by
      rw [List.takeWhile_cons]
      split
      · rename_i h; simp [h]
      · rename_i h; simp [h]
    rw [show nameF (b :: x) = (decide ((b :: x).length ≤ 32) && ((b :: x).all alnum && !isDig b)) from rfl]
    generalize hs : b :: x = s at *
    by_cases h32 : s.length ≤ 32
    · have hr := runR_c s (by omega)
      have hd := runD_c s (by omega)
      have ha := take_all alnum s
      rw [decide_eq_true h32]
      generalize (s.takeWhile alnum).length = u at *
      generalize (s.takeWhile isDig).length = v at *
      rcases hA : s.all alnum with _ | _ <;> rw [hA] at ha <;> simp only [Bool.false_eq_true, iff_false, iff_true] at ha
      ·
        refine fn_rule (C := ⟨Tryd.prog, layF, Tryd.f11.ntmps, Γ0, 0, [], []⟩) layF_ok mixed Tryd.func11 rfl (by kernel_rfl) rfl rfl rfl ?_
        repeat' (first | refine ex_call hd ?_ | refine ex_call hr ?_ | refine ex_true (by first | decide | omega | assumption | (with_reducible exact rfl)) ?_ | refine ex_false (by first | decide | omega | assumption | exact (fun h => h rfl)) ?_ | refine ex_dec (fun _ => ?_) (fun _ => ?_) | refine ex_u8 _ rfl (by omega) (by omega) ?_ | refine ex_i64 _ rfl (by omega) (by omega) ?_ | refine ex_u64 _ rfl (by omega) (by omega) ?_ | refine and_mk (by first | omega | (show drawOk _ _ _ = true; kernel_rfl)) ?_ | refine and_mk ⟨_, rfl⟩ ?_ | refine ex_is _ (List.length_map _) ?_ | refine ex_is _ List.length_nil ?_ | fail "no step")
        all_goals first | exact TLe.rfl | exact absurd ‹_› hne
      · rcases hD : isDig b with _ | _ <;> rw [hD] at hhd <;> simp only [Bool.true_eq_false, iff_false, iff_true] at hhd
        all_goals
          refine fn_rule (C := ⟨Tryd.prog, layF, Tryd.f11.ntmps, Γ0, 0, [], []⟩) layF_ok mixed Tryd.func11 rfl (by kernel_rfl) rfl rfl rfl ?_
          repeat' (first | refine ex_call hd ?_ | refine ex_call hr ?_ | refine ex_true (by first | decide | omega | assumption | (with_reducible exact rfl)) ?_ | refine ex_false (by first | decide | omega | assumption | exact (fun h => h rfl)) ?_ | refine ex_dec (fun _ => ?_) (fun _ => ?_) | refine ex_u8 _ rfl (by omega) (by omega) ?_ | refine ex_i64 _ rfl (by omega) (by omega) ?_ | refine ex_u64 _ rfl (by omega) (by omega) ?_ | refine and_mk (by first | omega | (show drawOk _ _ _ = true; kernel_rfl)) ?_ | refine and_mk ⟨_, rfl⟩ ?_ | refine ex_is _ (List.length_map _) ?_ | refine ex_is _ List.length_nil ?_ | fail "no step")
          all_goals first | exact TLe.rfl | exact absurd ‹_› hne
    · rw [decide_eq_false h32]
      refine fn_rule (C := ⟨Tryd.prog, layF, Tryd.f11.ntmps, Γ0, 0, [], []⟩) layF_ok mixed Tryd.func11 rfl (by kernel_rfl) rfl rfl rfl ?_
      repeat' (first | refine ex_true (by first | decide | omega | assumption | (with_reducible exact rfl)) ?_ | refine ex_false (by first | decide | omega | assumption | exact (fun h => h rfl)) ?_ | refine ex_dec (fun _ => ?_) (fun _ => ?_) | refine ex_u8 _ rfl (by omega) (by omega) ?_ | refine ex_i64 _ rfl (by omega) (by omega) ?_ | refine ex_u64 _ rfl (by omega) (by omega) ?_ | refine and_mk (by first | omega | (show drawOk _ _ _ = true; kernel_rfl)) ?_ | refine and_mk ⟨_, rfl⟩ ?_ | refine ex_is _ (List.length_map _) ?_ | refine ex_is _ List.length_nil ?_ | fail "no step")
      all_goals first | exact TLe.rfl | exact absurd ‹_› hne
def real (u : TokP) : Bool := u.k != 3
theorem join_tail (us : List TokP) : Lib.join (us.map (·.t)) [32] = joinF us := by
  rcases us with _ | ⟨u, us⟩
  · rfl
  · rw [List.map_cons, Lib.join_cons]
    show u.t ++ Lib.joinTail [32] (us.map (·.t)) = u.t ++ tailJ us
    unfold Lib.joinTail tailJ
    rw [List.map_map, List.flatMap_def]
    rfl
theorem Join_c (ts : List TokP) (hl : ts.length ≤ 1000000) (hj : (joinF (ts.filter real)).length ≤ 1000000000) : CallsA Tryd.prog Γ0 13 [c1 (.sl 5 (ts.map tokD))] (Tstr (bs (joinF (ts.filter real)))) := by
  refine fn_rule (C := ⟨Tryd.prog, layF, Tryd.f13.ntmps, Γ0, 0, [], []⟩) layF_ok mixed Tryd.func13 rfl (by kernel_rfl) rfl rfl rfl ?_
  refine ex_is ts.length (by simp) ?_
  refine ex_loop (X := Nat × List ByteArray) (fun ⟨q, m⟩ => ⟨[(6, .o (c1 (.sl 5 (ts.map tokD)))), (3, .o (.c (.row 0))), (7, Ti ts.length), (8, Ti q)], [(0, .row 1 9 (m.map fun s => [ds s]))], 1⟩) (fun x => ts.length - x.1)
    (fun ⟨q, m⟩ => q ≤ ts.length ∧ m.length ≤ q ∧ m = ((ts.take q).filter real).map fun u => bs u.t) (0, []) ⟨Nat.zero_le _, Nat.le_refl _, rfl⟩ (SLe.trans (SLe.of ⟨⟨rfl, rfl, rfl, rfl, trivial⟩, ⟨rfl, trivial⟩⟩) (SLe.own 3 0 1 9 rfl rfl rfl rfl rfl)) ?_
  rintro ⟨q, m⟩ ⟨hq, hml, hm⟩
  refine ex_dec (fun h => ?_) (fun h => ?_)
  · have hql : q < ts.length := by omega
    have hc : ts[q]? = some ts[q] := at_some hql
    have htk : (ts.take (q + 1)).filter real = (ts.take q).filter real ++ [ts[q]].filter real := by rw [List.take_add_one, hc, List.filter_append]; rfl
    generalize ts[q] = u at *
    refine ex_row q u rfl hc ?_
    rcases hr : real u with _ | _
    · have hk : u.k = 3 := by simpa [real] using hr
      repeat' (first | refine ex_i64 ((q + 1 : Nat) : Int) (by omega) (by omega) (by omega) ?_ | refine ex_u64 ((q + 1 : Nat) : Int) (by omega) (by omega) (by omega) ?_ | refine ex_u8 ((q + 1 : Nat) : Int) (by omega) (by omega) (by omega) ?_ | refine ex_true (by first | decide | omega | assumption | (with_reducible exact rfl)) ?_ | refine ex_false (by first | decide | omega | assumption | exact (fun h => h rfl)) ?_ | refine ex_dec (fun _ => ?_) (fun _ => ?_) | refine ex_u8 _ rfl (by omega) (by omega) ?_ | refine ex_i64 _ rfl (by omega) (by omega) ?_ | refine ex_u64 _ rfl (by omega) (by omega) ?_ | refine and_mk (by first | omega | (show drawOk _ _ _ = true; kernel_rfl)) ?_ | refine and_mk ⟨_, rfl⟩ ?_ | refine ex_is _ (List.length_map _) ?_ | refine ex_is _ List.length_nil ?_ | fail "no step")
      exact ex_round (q + 1, m) ⟨by omega, by omega, by rw [htk, List.filter_cons, hr, hm]; simp⟩ (by show _ - _ < _ - _; omega) (SLe.of ⟨⟨rfl, rfl, rfl, rfl, trivial⟩, ⟨rfl, trivial⟩⟩)
    · have hk : u.k ≠ 3 := by simpa [real] using hr
      repeat' (first | refine ex_true (by first | decide | omega | assumption | (with_reducible exact rfl)) ?_ | refine ex_false (by first | decide | omega | assumption | exact (fun h => h rfl)) ?_ | refine ex_dec (fun _ => ?_) (fun _ => ?_) | refine ex_u8 _ rfl (by omega) (by omega) ?_ | refine ex_i64 _ rfl (by omega) (by omega) ?_ | refine ex_u64 _ rfl (by omega) (by omega) ?_ | refine and_mk (by first | omega | (show drawOk _ _ _ = true; kernel_rfl)) ?_ | refine and_mk ⟨_, rfl⟩ ?_ | refine ex_is _ (List.length_map _) ?_ | refine ex_is _ List.length_nil ?_ | fail "no step")
      refine ex_app (m.length) (1) 1000 (by first | rfl | (simp; done) | (simp; omega)) (by first | rfl | (simp; done) | (simp; omega)) rfl (by omega) ?_
      refine ex_is ((m ++ [bs u.t]).map (fun s => [ds s])) (by rw [List.map_append]; rfl) ?_
      repeat' (first | refine ex_i64 ((q + 1 : Nat) : Int) (by omega) (by omega) (by omega) ?_ | refine ex_u64 ((q + 1 : Nat) : Int) (by omega) (by omega) (by omega) ?_ | refine ex_u8 ((q + 1 : Nat) : Int) (by omega) (by omega) (by omega) ?_ | refine ex_true (by first | decide | omega | assumption | (with_reducible exact rfl)) ?_ | refine ex_false (by first | decide | omega | assumption | exact (fun h => h rfl)) ?_ | refine ex_dec (fun _ => ?_) (fun _ => ?_) | refine ex_u8 _ rfl (by omega) (by omega) ?_ | refine ex_i64 _ rfl (by omega) (by omega) ?_ | refine ex_u64 _ rfl (by omega) (by omega) ?_ | refine and_mk (by first | omega | (show drawOk _ _ _ = true; kernel_rfl)) ?_ | refine and_mk ⟨_, rfl⟩ ?_ | refine ex_is _ (List.length_map _) ?_ | refine ex_is _ List.length_nil ?_ | fail "no step")
      exact ex_round (q + 1, m ++ [bs u.t]) ⟨by omega, by show (m ++ [_]).length ≤ _; rw [List.length_append, List.length_cons, List.length_nil]; omega, by rw [htk, List.filter_cons, hr, hm]; simp⟩ (by show _ - _ < _ - _; omega) (SLe.ren [(3, 0)] ⟨⟨rfl, rfl⟩, ⟨rfl, rfl⟩, ⟨rfl, rfl⟩, ⟨rfl, rfl⟩, trivial⟩ ⟨⟨rfl, rfl⟩, trivial⟩ rfl)
  · have hq' : q = ts.length := by omega
    subst hq'
    rw [List.take_length] at hm
    have he : Lib.join (m.map (·.data.toList)) [32] = joinF (ts.filter real) := by
      rw [← join_tail, hm, List.map_map]
      rfl
    have hjc := join_c Γ0 m (bs [32]) (by rw [show (bs [32]).data.toList = [32] from rfl, he]; omega) (by omega)
    rw [show (bs [32]).data.toList = [32] from rfl, he] at hjc
    repeat' (first | refine ex_call hjc ?_ | refine ex_true (by first | decide | omega | assumption | (with_reducible exact rfl)) ?_ | refine ex_false (by first | decide | omega | assumption | exact (fun h => h rfl)) ?_ | refine ex_dec (fun _ => ?_) (fun _ => ?_) | refine ex_u8 _ rfl (by omega) (by omega) ?_ | refine ex_i64 _ rfl (by omega) (by omega) ?_ | refine ex_u64 _ rfl (by omega) (by omega) ?_ | refine and_mk (by first | omega | (show drawOk _ _ _ = true; kernel_rfl)) ?_ | refine and_mk ⟨_, rfl⟩ ?_ | refine ex_is _ (List.length_map _) ?_ | refine ex_is _ List.length_nil ?_ | fail "no step")
    exact TLe.rfl
end Go.Proofs.YtokhlojibhegnaaDoor

namespace Go.Proofs.YtokhlojibhegnaaDoor
set_option linter.unusedVariables false
set_option linter.unusedSimpArgs false
open Go.RowKit
set_option maxRecDepth 100000

theorem tb_eq {x y : Bool} (h : x = true ↔ y = true) : Tb x = Tb y := congrArg Tb (Bool.eq_iff_iff.2 h)
theorem rdigit_c (b : UInt8) : CallsA Tryd.prog Γ0 24 [c1 (.v (.int .u8 b.toNat))] (Tb (isDig b)) := by
  have e : isDig b = true ↔ (48 : Int) ≤ b.toNat ∧ (b.toNat : Int) ≤ 57 := by
    simp only [isDig, Bool.and_eq_true, decide_eq_true_eq]; omega
  refine fn_rule (C := ⟨Tryd.prog, layF, Tryd.f24.ntmps, Γ0, 0, [], []⟩) layF_ok mixed Tryd.func24 rfl (by kernel_rfl) rfl rfl rfl ?_
  refine ex_dec (fun h => ?_) (fun h => ?_)
  · refine ex_dec (fun h2 => ?_) (fun h2 => ?_)
    · exact TLe.eq (tb_eq (by rw [e]; simp; omega))
    · exact TLe.eq (tb_eq (by rw [e]; simp; omega))
  · exact TLe.eq (tb_eq (by rw [e]; simp; omega))
theorem rletter_c (b : UInt8) : CallsA Tryd.prog Γ0 25 [c1 (.v (.int .u8 b.toNat))] (Tb (isLet b)) := by
  have e : isLet b = true ↔ ((65 : Int) ≤ b.toNat ∧ (b.toNat : Int) ≤ 90) ∨ (((97 : Int) ≤ b.toNat ∧ (b.toNat : Int) ≤ 122) ∨ (b.toNat : Int) = 95) := by
    simp only [isLet, Bool.and_eq_true, Bool.or_eq_true, decide_eq_true_eq]; omega
  refine fn_rule (C := ⟨Tryd.prog, layF, Tryd.f25.ntmps, Γ0, 0, [], []⟩) layF_ok mixed Tryd.func25 rfl (by kernel_rfl) rfl rfl rfl ?_
  all_goals repeat' (refine ex_dec (fun _ => ?_) (fun _ => ?_))
  all_goals exact TLe.eq (tb_eq (by rw [e]; simp; omega))
def hexI (b : UInt8) : Int := if isHex b then (hexN b : Nat) else -1
theorem rhex_c (b : UInt8) : CallsA Tryd.prog Γ0 50 [c1 (.v (.int .u8 b.toNat))] (Ti (hexI b)) := by
  have hb := b.toNat_lt
  have e : isHex b = true ↔ ((48 : Int) ≤ b.toNat ∧ (b.toNat : Int) ≤ 57) ∨ (((97 : Int) ≤ b.toNat ∧ (b.toNat : Int) ≤ 102) ∨ ((65 : Int) ≤ b.toNat ∧ (b.toNat : Int) ≤ 70)) := by
    simp only [isHex, isDig, Bool.and_eq_true, Bool.or_eq_true, decide_eq_true_eq]; omega
  refine fn_rule (C := ⟨Tryd.prog, layF, Tryd.f50.ntmps, Γ0, 0, [], []⟩) layF_ok mixed Tryd.func50 rfl (by kernel_rfl) rfl rfl rfl ?_
  have fin : ∀ {n : Int}, n = hexI b → TLe (Ti n) (Ti (hexI b)) := fun e => TLe.eq (congrArg Ti e)
  repeat' (first | refine ex_true (by first | decide | omega | assumption | (with_reducible exact rfl)) ?_ | refine ex_false (by first | decide | omega | assumption | exact (fun h => h rfl)) ?_ | refine ex_dec (fun _ => ?_) (fun _ => ?_) | refine ex_u8 _ rfl (by omega) (by omega) ?_ | refine ex_i64 _ rfl (by omega) (by omega) ?_ | refine ex_u64 _ rfl (by omega) (by omega) ?_ | refine and_mk (by first | omega | (show drawOk _ _ _ = true; kernel_rfl)) ?_ | refine and_mk ⟨_, rfl⟩ ?_ | refine ex_is _ (List.length_map _) ?_ | refine ex_is _ List.length_nil ?_ | fail "no step")
  all_goals (refine fin ?_; unfold hexI hexN; split <;> rename_i h0 <;> (first | rw [e] at h0 | skip) <;> (try split) <;> (try split) <;> omega)
def tvV : Option Nat → TV
  | some n => .tup [c1 (du n), c1 (di 0)]
  | none => .tup [c1 (du 0), c1 (di 5)]
theorem div_room {base d : Nat} (hb : 0 < base) (hd : d ≤ 18446744073709551615) (n : Nat) : (18446744073709551615 - d) / base < n ↔ 18446744073709551616 ≤ n * base + d := by
  rw [Nat.div_lt_iff_lt_mul hb]
  omega
theorem div_int (d base : Nat) (hd : d ≤ 18446744073709551615) : ((18446744073709551615 : Int) - (d : Nat)).tdiv (base : Nat) = ((18446744073709551615 - d) / base : Nat) := by
  rw [show (18446744073709551615 : Int) - (d : Nat) = ((18446744073709551615 - d : Nat) : Int) by omega]
  rfl
theorem rvalue_c (base : Nat) (hb : base = 10 ∨ base = 16) (l : List UInt8) (hl : l.length ≤ 16384) (hh : ∀ b ∈ l, isHex b = true ∧ hexN b < base) :
    CallsA Tryd.prog Γ0 51 [c1 (ds (bs l)), c1 (du base)] (tvV (valF base 0 l)) := by
  obtain ⟨R, hR⟩ : ∃ R, valF base 0 l = R := ⟨_, rfl⟩
  rw [hR]
  have hsz := bs_size l
  have hb0 : 0 < base := by omega
  refine fn_rule (C := ⟨Tryd.prog, layF, Tryd.f51.ntmps, Γ0, 0, [], []⟩) layF_ok mixed Tryd.func51 rfl (by kernel_rfl) rfl rfl rfl ?_
  refine ex_loop (X := Nat × Nat) (fun ⟨q, n⟩ => ⟨[(0, Tstr (bs l)), (1, Tu base), (6, Tu n), (7, Ti q)], [], 0⟩) (fun x => l.length - x.1) (fun ⟨q, n⟩ => q ≤ l.length ∧ n < 18446744073709551616 ∧ valF base n (l.drop q) = R) (0, 0) ⟨Nat.zero_le _, by decide, hR⟩ (SLe.of ⟨⟨rfl, rfl, rfl, rfl, trivial⟩, trivial⟩) ?_
  rintro ⟨q, n⟩ ⟨hq, hn, hv⟩
  refine ex_dec (fun h => ?_) (fun h => ?_)
  · have hql : q < l.length := by omega
    have hc : l[q]? = some l[q] := at_some hql
    have hm : l[q] ∈ l := List.getElem_mem hql
    rw [List.drop_eq_getElem_cons hql, valF] at hv
    generalize l[q] = c at *
    obtain ⟨h1, h2⟩ := hh c hm
    have hx : hexI c = (hexN c : Nat) := by unfold hexI; rw [if_pos h1]
    refine ex_chr q c rfl hc ?_
    refine ex_call (rhex_c c) ?_
    rw [hx]
    have hd := div_room (d := hexN c) hb0 (by omega) n
    generalize hz : (18446744073709551615 - hexN c) / base = z at hd
    repeat' (first | refine ex_true (by first | decide | omega | assumption | (with_reducible exact rfl)) ?_ | refine ex_false (by first | decide | omega | assumption | exact (fun h => h rfl)) ?_ | refine ex_dec (fun _ => ?_) (fun _ => ?_) | refine ex_u8 _ rfl (by omega) (by omega) ?_ | refine ex_i64 _ rfl (by omega) (by omega) ?_ | refine ex_u64 _ rfl (by omega) (by omega) ?_ | refine and_mk (by first | omega | (show drawOk _ _ _ = true; kernel_rfl)) ?_ | refine and_mk ⟨_, rfl⟩ ?_ | refine ex_is _ (List.length_map _) ?_ | refine ex_is _ List.length_nil ?_ | fail "no step")
    refine ex_u64 (z : Int) (by rw [div_int _ _ (by omega), hz]) (by omega) (by have := Nat.div_le_self (18446744073709551615 - hexN c) base; omega) ?_
    refine ex_dec (fun h3 => ?_) (fun h3 => ?_)
    · rw [if_neg (by omega)] at hv
      subst hv
      repeat' (first | refine ex_true (by first | decide | omega | assumption | (with_reducible exact rfl)) ?_ | refine ex_false (by first | decide | omega | assumption | exact (fun h => h rfl)) ?_ | refine ex_dec (fun _ => ?_) (fun _ => ?_) | refine ex_u8 _ rfl (by omega) (by omega) ?_ | refine ex_i64 _ rfl (by omega) (by omega) ?_ | refine ex_u64 _ rfl (by omega) (by omega) ?_ | refine and_mk (by first | omega | (show drawOk _ _ _ = true; kernel_rfl)) ?_ | refine and_mk ⟨_, rfl⟩ ?_ | refine ex_is _ (List.length_map _) ?_ | refine ex_is _ List.length_nil ?_ | fail "no step")
      exact TLe.rfl
    · rw [if_pos (by omega)] at hv
      refine ex_u64 ((n * base : Nat) : Int) (Int.natCast_mul n base).symm (by omega) (by omega) ?_
      refine ex_u64 ((n * base + hexN c : Nat) : Int) (by omega) (by omega) (by omega) ?_
      repeat' (first | refine ex_true (by first | decide | omega | assumption | (with_reducible exact rfl)) ?_ | refine ex_false (by first | decide | omega | assumption | exact (fun h => h rfl)) ?_ | refine ex_dec (fun _ => ?_) (fun _ => ?_) | refine ex_u8 _ rfl (by omega) (by omega) ?_ | refine ex_i64 _ rfl (by omega) (by omega) ?_ | refine ex_u64 _ rfl (by omega) (by omega) ?_ | refine and_mk (by first | omega | (show drawOk _ _ _ = true; kernel_rfl)) ?_ | refine and_mk ⟨_, rfl⟩ ?_ | refine ex_is _ (List.length_map _) ?_ | refine ex_is _ List.length_nil ?_ | fail "no step")
      exact ex_round (q + 1, n * base + hexN c) ⟨by omega, by omega, hv⟩ (by show _ - _ < _ - _; omega) (SLe.of ⟨⟨rfl, rfl, rfl, rfl, trivial⟩, trivial⟩)
  · rw [List.drop_eq_nil_of_le (by omega), valF] at hv
    subst hv
    repeat' (first | refine ex_true (by first | decide | omega | assumption | (with_reducible exact rfl)) ?_ | refine ex_false (by first | decide | omega | assumption | exact (fun h => h rfl)) ?_ | refine ex_dec (fun _ => ?_) (fun _ => ?_) | refine ex_u8 _ rfl (by omega) (by omega) ?_ | refine ex_i64 _ rfl (by omega) (by omega) ?_ | refine ex_u64 _ rfl (by omega) (by omega) ?_ | refine and_mk (by first | omega | (show drawOk _ _ _ = true; kernel_rfl)) ?_ | refine and_mk ⟨_, rfl⟩ ?_ | refine ex_is _ (List.length_map _) ?_ | refine ex_is _ List.length_nil ?_ | fail "no step")
    exact TLe.rfl
end Go.Proofs.YtokhlojibhegnaaDoor

namespace Go.Proofs.YtokhlojibhegnaaDoor
set_option linter.unusedVariables false
set_option linter.unusedSimpArgs false
open Go.RowKit
set_option maxRecDepth 100000

theorem val_ok {s : List UInt8} {base : Nat} (h : ∀ b ∈ s, isHex b = true ∧ hexN b < base) (hb : base = 10 ∨ base = 16) (hl : s.length ≤ 16384) : CallsA Tryd.prog Γ0 51 [c1 (ds (bs s)), c1 (du base)] (tvV (valF base 0 s)) := rvalue_c base hb s hl h
theorem dig_hex {b : UInt8} (h : isDig b = true) : isHex b = true ∧ hexN b < 10 := by
  have h2 := hex_bound b
  have h3 : isHex b = true := by unfold isHex; rw [h]; rfl
  rw [h3, h] at h2
  simp at h2
  exact ⟨h3, by omega⟩
theorem rnumber_c (s : List UInt8) (hl : s.length ≤ 16384) (h0 : s ≠ []) : CallsA Tryd.prog Γ0 39 [c1 (ds (bs s))] (tvT (numF s)) := by
  have hsz := bs_size s
  obtain ⟨pf, hpf⟩ : ∃ pf, (decide (2 < s.length) && [48, 120].isPrefixOf s) = pf := ⟨_, rfl⟩
  have h6 : sixteen s = (pf && ((s.take s.length).drop 2).all isHex) := by
    rw [← hpf, List.take_length]
    unfold sixteen
    rw [← Bool.and_assoc, Bool.and_comm (decide _) (List.isPrefixOf _ _)]
  have hten : s.all isDig = (s.take s.length).all isDig := by rw [List.take_length]
  have hval16 : sixteen s = true → CallsA Tryd.prog Γ0 51 [c1 (ds (bs (s.drop 2))), c1 (du 16)] (tvV (valF 16 0 (s.drop 2))) := fun h => val_ok (base := 16) (fun b hb => by
    have h7 := h
    unfold sixteen at h7
    simp only [Bool.and_eq_true, decide_eq_true_eq] at h7
    have h1 := List.all_eq_true.1 h7.2.2 b hb
    have h2 := hex_bound b
    rw [h1] at h2
    simp at h2
    exact ⟨h1, h2.1⟩) (.inr rfl) (by rw [List.length_drop]; omega)
  have hval10 : s.all isDig = true → CallsA Tryd.prog Γ0 51 [c1 (ds (bs s)), c1 (du 10)] (tvV (valF 10 0 s)) := fun h => val_ok (base := 10) (fun b hb => dig_hex (List.all_eq_true.1 h b hb)) (.inl rfl) hl
  unfold numF
  refine fn_rule (C := ⟨Tryd.prog, layF, Tryd.f39.ntmps, Γ0, 0, [], [2]⟩) layF_ok mixed Tryd.func39 rfl (by kernel_rfl) rfl rfl rfl ?_
  refine ex_join (X := Bool) (fun p => ⟨[(0, Tstr (bs s)), (2, .o (.c (.ptr 0 0))), (4, Tb p)], [(0, .obj [.d (di 0), .d (ds (bs [])), .d (du 0), .d (di 0), .d (di 0)])], 1⟩) (fun p => p = pf) ?_ ?_
  · by_cases h2 : 2 < s.length
    · obtain ⟨a, b, c, r, rfl⟩ : ∃ a b c r, s = a :: b :: c :: r := by
        match s, h2 with
        | a :: b :: c :: r, _ => exact ⟨a, b, c, r, rfl⟩
      have ha : (bs (a :: b :: c :: r)).data.toList[0]? = some a := rfl
      have hb : (bs (a :: b :: c :: r)).data.toList[1]? = some b := rfl
      have e1 : pf = (decide ((a.toNat : Int) = 48) && decide ((b.toNat : Int) = 120)) := by
        rw [← hpf, decide_eq_true h2, Bool.true_and]
        have hA : (48 == a) = decide ((a.toNat : Int) = 48) := Bool.eq_iff_iff.2 (by rw [beq_iff_eq, decide_eq_true_eq]; exact ⟨fun e => by rw [← e]; rfl, fun e => (UInt8.toNat_inj.1 (Int.ofNat_inj.1 e)).symm⟩)
        have hB : (120 == b) = decide ((b.toNat : Int) = 120) := Bool.eq_iff_iff.2 (by rw [beq_iff_eq, decide_eq_true_eq]; exact ⟨fun e => by rw [← e]; rfl, fun e => (UInt8.toNat_inj.1 (Int.ofNat_inj.1 e)).symm⟩)
        show (48 == a && (120 == b && true)) = _
        rw [hA, hB, Bool.and_true]
      repeat' (first | refine (ex_chr 1 b rfl hb) ?_ | refine (ex_chr 0 a rfl ha) ?_ | refine ex_true (by first | decide | omega | assumption | (with_reducible exact rfl)) ?_ | refine ex_false (by first | decide | omega | assumption | exact (fun h => h rfl)) ?_ | refine ex_dec (fun _ => ?_) (fun _ => ?_) | refine ex_u8 _ rfl (by omega) (by omega) ?_ | refine ex_i64 _ rfl (by omega) (by omega) ?_ | refine ex_u64 _ rfl (by omega) (by omega) ?_ | refine and_mk (by first | omega | (show drawOk _ _ _ = true; kernel_rfl)) ?_ | refine and_mk ⟨_, rfl⟩ ?_ | refine ex_is _ (List.length_map _) ?_ | refine ex_is _ List.length_nil ?_ | fail "no step")
      all_goals first
        | exact ex_meet true (by rw [e1]; simp; omega) (SLe.of ⟨⟨rfl, rfl, rfl, trivial⟩, ⟨rfl, trivial⟩⟩)
        | exact ex_meet false (by rw [e1]; simp; omega) (SLe.of ⟨⟨rfl, rfl, rfl, trivial⟩, ⟨rfl, trivial⟩⟩)
    · repeat' (first | refine ex_true (by first | decide | omega | assumption | (with_reducible exact rfl)) ?_ | refine ex_false (by first | decide | omega | assumption | exact (fun h => h rfl)) ?_ | refine ex_dec (fun _ => ?_) (fun _ => ?_) | refine ex_u8 _ rfl (by omega) (by omega) ?_ | refine ex_i64 _ rfl (by omega) (by omega) ?_ | refine ex_u64 _ rfl (by omega) (by omega) ?_ | refine and_mk (by first | omega | (show drawOk _ _ _ = true; kernel_rfl)) ?_ | refine and_mk ⟨_, rfl⟩ ?_ | refine ex_is _ (List.length_map _) ?_ | refine ex_is _ List.length_nil ?_ | fail "no step")
      exact ex_meet false (by rw [← hpf, decide_eq_false h2]; rfl) (SLe.of ⟨⟨rfl, rfl, rfl, trivial⟩, ⟨rfl, trivial⟩⟩)
  · intro p hp
    rw [← hp] at h6 hpf
    clear hp
    repeat' (first | refine ex_true (by first | decide | omega | assumption | (with_reducible exact rfl)) ?_ | refine ex_false (by first | decide | omega | assumption | exact (fun h => h rfl)) ?_ | refine ex_dec (fun _ => ?_) (fun _ => ?_) | refine ex_u8 _ rfl (by omega) (by omega) ?_ | refine ex_i64 _ rfl (by omega) (by omega) ?_ | refine ex_u64 _ rfl (by omega) (by omega) ?_ | refine and_mk (by first | omega | (show drawOk _ _ _ = true; kernel_rfl)) ?_ | refine and_mk ⟨_, rfl⟩ ?_ | refine ex_is _ (List.length_map _) ?_ | refine ex_is _ List.length_nil ?_ | fail "no step")
    refine ex_loop (X := Nat × Bool × Bool) (fun ⟨q, x, y⟩ => ⟨[(0, Tstr (bs s)), (2, .o (.c (.ptr 0 0))), (4, Tb x), (5, Tb y), (6, Ti q)], [(0, .obj [.d (di 0), .d (ds (bs [])), .d (du 0), .d (di 0), .d (di 0)])], 1⟩) (fun x => s.length - x.1)
      (fun ⟨q, x, y⟩ => q ≤ s.length ∧ x = (p && ((s.take q).drop 2).all isHex) ∧ y = (s.take q).all isDig) (0, p, true) ⟨Nat.zero_le _, by simp, rfl⟩ (SLe.of ⟨⟨rfl, rfl, rfl, rfl, rfl, trivial⟩, ⟨rfl, trivial⟩⟩) ?_
    rintro ⟨q, x, y⟩ ⟨hq, hx, hy⟩
    refine ex_dec (fun h => ?_) (fun h => ?_)
    · have hql : q < s.length := by omega
      have hc : s[q]? = some s[q] := at_some hql
      have htk : s.take (q + 1) = s.take q ++ [s[q]] := by rw [List.take_add_one, hc]; rfl
      have hlen : (s.take q).length = q := by rw [List.length_take]; omega
      have hd2 : ((s.take (q + 1)).drop 2).all isHex = if 1 < q then (((s.take q).drop 2).all isHex && isHex s[q]) else true := by
        rw [htk]
        split
        · rw [List.drop_append_of_le_length (by omega), List.all_append]; simp
        · rw [List.drop_eq_nil_of_le (by rw [List.length_append, hlen]; simp; omega)]; rfl
      have hd2' : ¬ 1 < q → ((s.take q).drop 2).all isHex = true := fun h => by rw [List.drop_eq_nil_of_le (by omega)]; rfl
      have hall : (s.take (q + 1)).all isDig = ((s.take q).all isDig && isDig s[q]) := by rw [htk, List.all_append]; simp
      generalize s[q] = c at *
      have hdg := rdigit_c c
      have hhx := rhex_c c
      have hI : hexI c = if isHex c then ((hexN c : Nat) : Int) else -1 := rfl
      generalize hexI c = z at *
      rcases hD : isDig c with _ | _ <;> rw [hD] at hdg hall <;> rcases hH : isHex c with _ | _ <;> rw [hH] at hI hd2 <;> simp only [if_true, if_false, Bool.false_eq_true] at hI
      all_goals
        repeat' (first | refine ex_call hhx ?_ | refine ex_call hdg ?_ | refine ex_i64 ((q + 1 : Nat) : Int) (by omega) (by omega) (by omega) ?_ | refine ex_u64 ((q + 1 : Nat) : Int) (by omega) (by omega) (by omega) ?_ | refine ex_u8 ((q + 1 : Nat) : Int) (by omega) (by omega) (by omega) ?_ | refine (ex_chr q c rfl hc) ?_ | refine ex_true (by first | decide | omega | assumption | (with_reducible exact rfl)) ?_ | refine ex_false (by first | decide | omega | assumption | exact (fun h => h rfl)) ?_ | refine ex_dec (fun _ => ?_) (fun _ => ?_) | refine ex_u8 _ rfl (by omega) (by omega) ?_ | refine ex_i64 _ rfl (by omega) (by omega) ?_ | refine ex_u64 _ rfl (by omega) (by omega) ?_ | refine and_mk (by first | omega | (show drawOk _ _ _ = true; kernel_rfl)) ?_ | refine and_mk ⟨_, rfl⟩ ?_ | refine ex_is _ (List.length_map _) ?_ | refine ex_is _ List.length_nil ?_ | fail "no step")
        all_goals
          rename_i h1q
          first
          | (rw [if_pos (by omega)] at hd2
             exact ex_round (q + 1, _, _) ⟨by omega, by rw [hd2]; simp [hx], by rw [hall]; simp [hy]⟩ (by show _ - _ < _ - _; omega) (SLe.of ⟨⟨rfl, rfl, rfl, rfl, rfl, trivial⟩, ⟨rfl, trivial⟩⟩))
          | (rw [if_neg (by omega)] at hd2
             exact ex_round (q + 1, _, _) ⟨by omega, by rw [hd2]; simp [hx, hd2' (by omega)], by rw [hall]; simp [hy]⟩ (by show _ - _ < _ - _; omega) (SLe.of ⟨⟨rfl, rfl, rfl, rfl, rfl, trivial⟩, ⟨rfl, trivial⟩⟩))
    · have hq' : q = s.length := by omega
      subst hq'
      rw [← h6] at hx
      rw [← hten] at hy
      rcases h16 : sixteen s with _ | _ <;> rw [h16] at hx <;> subst hx
      · rcases h10 : s.all isDig with _ | _ <;> rw [h10] at hy <;> subst hy
        · repeat' (first | refine ex_true (by first | decide | omega | assumption | (with_reducible exact rfl)) ?_ | refine ex_false (by first | decide | omega | assumption | exact (fun h => h rfl)) ?_ | refine ex_dec (fun _ => ?_) (fun _ => ?_) | refine ex_u8 _ rfl (by omega) (by omega) ?_ | refine ex_i64 _ rfl (by omega) (by omega) ?_ | refine ex_u64 _ rfl (by omega) (by omega) ?_ | refine and_mk (by first | omega | (show drawOk _ _ _ = true; kernel_rfl)) ?_ | refine and_mk ⟨_, rfl⟩ ?_ | refine ex_is _ (List.length_map _) ?_ | refine ex_is _ List.length_nil ?_ | fail "no step")
          exact TLe.rfl
        · have hv := hval10 h10
          cases he : valF 10 0 s with
          | none =>
            rw [he] at hv
            repeat' (first | refine ex_call hv ?_ | refine ex_true (by first | decide | omega | assumption | (with_reducible exact rfl)) ?_ | refine ex_false (by first | decide | omega | assumption | exact (fun h => h rfl)) ?_ | refine ex_dec (fun _ => ?_) (fun _ => ?_) | refine ex_u8 _ rfl (by omega) (by omega) ?_ | refine ex_i64 _ rfl (by omega) (by omega) ?_ | refine ex_u64 _ rfl (by omega) (by omega) ?_ | refine and_mk (by first | omega | (show drawOk _ _ _ = true; kernel_rfl)) ?_ | refine and_mk ⟨_, rfl⟩ ?_ | refine ex_is _ (List.length_map _) ?_ | refine ex_is _ List.length_nil ?_ | fail "no step")
            exact TLe.rfl
          | some n =>
            rw [he] at hv
            repeat' (first | refine ex_call hv ?_ | refine ex_true (by first | decide | omega | assumption | (with_reducible exact rfl)) ?_ | refine ex_false (by first | decide | omega | assumption | exact (fun h => h rfl)) ?_ | refine ex_dec (fun _ => ?_) (fun _ => ?_) | refine ex_u8 _ rfl (by omega) (by omega) ?_ | refine ex_i64 _ rfl (by omega) (by omega) ?_ | refine ex_u64 _ rfl (by omega) (by omega) ?_ | refine and_mk (by first | omega | (show drawOk _ _ _ = true; kernel_rfl)) ?_ | refine and_mk ⟨_, rfl⟩ ?_ | refine ex_is _ (List.length_map _) ?_ | refine ex_is _ List.length_nil ?_ | fail "no step")
            exact TLe.rfl
      · have hv := hval16 h16
        have h2l : 2 ≤ s.length := by
          unfold sixteen at h16
          simp only [Bool.and_eq_true, decide_eq_true_eq] at h16
          omega
        have hex2 : (bs s).extract (Int.toNat 2) ((bs s).size : Int).toNat = bs (s.drop 2) := ext_drop s 2 h2l
        cases he : valF 16 0 (s.drop 2) with
        | none =>
          rw [he] at hv
          repeat' (first | refine ex_true (by first | decide | omega | assumption | (with_reducible exact rfl)) ?_ | refine ex_false (by first | decide | omega | assumption | exact (fun h => h rfl)) ?_ | refine ex_dec (fun _ => ?_) (fun _ => ?_) | refine ex_u8 _ rfl (by omega) (by omega) ?_ | refine ex_i64 _ rfl (by omega) (by omega) ?_ | refine ex_u64 _ rfl (by omega) (by omega) ?_ | refine and_mk (by first | omega | (show drawOk _ _ _ = true; kernel_rfl)) ?_ | refine and_mk ⟨_, rfl⟩ ?_ | refine ex_is _ (List.length_map _) ?_ | refine ex_is _ List.length_nil ?_ | fail "no step")
          rw [hex2]
          repeat' (first | refine ex_call hv ?_ | refine ex_true (by first | decide | omega | assumption | (with_reducible exact rfl)) ?_ | refine ex_false (by first | decide | omega | assumption | exact (fun h => h rfl)) ?_ | refine ex_dec (fun _ => ?_) (fun _ => ?_) | refine ex_u8 _ rfl (by omega) (by omega) ?_ | refine ex_i64 _ rfl (by omega) (by omega) ?_ | refine ex_u64 _ rfl (by omega) (by omega) ?_ | refine and_mk (by first | omega | (show drawOk _ _ _ = true; kernel_rfl)) ?_ | refine and_mk ⟨_, rfl⟩ ?_ | refine ex_is _ (List.length_map _) ?_ | refine ex_is _ List.length_nil ?_ | fail "no step")
          exact TLe.rfl
        | some n =>
          rw [he] at hv
          repeat' (first | refine ex_true (by first | decide | omega | assumption | (with_reducible exact rfl)) ?_ | refine ex_false (by first | decide | omega | assumption | exact (fun h => h rfl)) ?_ | refine ex_dec (fun _ => ?_) (fun _ => ?_) | refine ex_u8 _ rfl (by omega) (by omega) ?_ | refine ex_i64 _ rfl (by omega) (by omega) ?_ | refine ex_u64 _ rfl (by omega) (by omega) ?_ | refine and_mk (by first | omega | (show drawOk _ _ _ = true; kernel_rfl)) ?_ | refine and_mk ⟨_, rfl⟩ ?_ | refine ex_is _ (List.length_map _) ?_ | refine ex_is _ List.length_nil ?_ | fail "no step")
          rw [hex2]
          repeat' (first | refine ex_call hv ?_ | refine ex_true (by first | decide | omega | assumption | (with_reducible exact rfl)) ?_ | refine ex_false (by first | decide | omega | assumption | exact (fun h => h rfl)) ?_ | refine ex_dec (fun _ => ?_) (fun _ => ?_) | refine ex_u8 _ rfl (by omega) (by omega) ?_ | refine ex_i64 _ rfl (by omega) (by omega) ?_ | refine ex_u64 _ rfl (by omega) (by omega) ?_ | refine and_mk (by first | omega | (show drawOk _ _ _ = true; kernel_rfl)) ?_ | refine and_mk ⟨_, rfl⟩ ?_ | refine ex_is _ (List.length_map _) ?_ | refine ex_is _ List.length_nil ?_ | fail "no step")
          exact TLe.rfl
def optN : Option (List UInt8) → Nat
  | some t => t.length
  | none => 0
theorem bs_inj {a b : List UInt8} : bs a = bs b ↔ a = b := ⟨fun h => by have := congrArg (fun x : ByteArray => x.data.toList) h; simpa using this, fun h => by rw [h]⟩
def ones : List UInt8 := [123, 125, 40, 41, 91, 93, 59, 58, 44, 61, 60, 62, 43, 45, 42, 47, 37, 38, 124, 33]
theorem pre_two {t r : List UInt8} (ht : t.length = 2) (hr : 1 < r.length) : t.isPrefixOf r = true ↔ t = r.take 2 := by
  match t, r, ht, hr with
  | [x, x'], a :: b :: y, _, _ => simp [List.isPrefixOf]
theorem pre_short {t r : List UInt8} (ht : t.length = 2) (hr : r.length ≤ 1) : t.isPrefixOf r = false := by
  match t, r, ht, hr with
  | [x, x'], [], _, _ => rfl
  | [x, x'], [a], _, _ => simp [List.isPrefixOf]
theorem rsign_c (r : List UInt8) (h0 : r ≠ []) (hl : r.length ≤ 16384) : CallsA Tryd.prog Γ0 40 [c1 (ds (bs r))] (Ti (optN (signF r) : Nat)) := by
  have hsz := bs_size r
  obtain ⟨N, hN⟩ : ∃ N, optN (signF r) = N := ⟨_, rfl⟩
  rw [hN]
  have hpos := List.length_pos_iff.2 h0
  have two : ∀ q, q < 9 → (signsL.take 9)[q]? = some (signsL.getD q []) ∧ (signsL.getD q []).length = 2 ∧ signsL.drop q = signsL.getD q [] :: signsL.drop (q + 1) := by decide
  have one : ∀ q, q < 20 → ones[q]? = some (ones.getD q 0) ∧ signsL.drop (9 + q) = [ones.getD q 0] :: signsL.drop (9 + (q + 1)) := by decide
  have two' : ∀ t ∈ signsL.take 9, t.length = 2 := by decide
  have hshort : r.length ≤ 1 → signsL.find? (·.isPrefixOf r) = (signsL.drop 9).find? (·.isPrefixOf r) := fun h => by
    conv => lhs; rw [← List.take_append_drop 9 signsL]
    rw [List.find?_append, List.find?_eq_none.2 (fun t ht => by rw [pre_short (two' t ht) h]; decide), Option.none_or]
  have hE2 : (bs r).extract (Int.toNat 0) (Int.toNat 2) = bs (r.take 2) := ext_take r 2
  refine fn_rule (C := ⟨Tryd.prog, layF, Tryd.f40.ntmps, Γ0, 0, [], [7]⟩) layF_ok mixed Tryd.func40 rfl (by kernel_rfl) rfl rfl rfl ?_
  refine ex_join (X := Nat) (fun _ => ⟨[(0, Tstr (bs r))], [], 0⟩) (fun _ => optN ((signsL.drop 9).find? (·.isPrefixOf r)) = N) ?_ ?_
  · repeat' (first | refine ex_true (by first | decide | omega | assumption | (with_reducible exact rfl)) ?_ | refine ex_false (by first | decide | omega | assumption | exact (fun h => h rfl)) ?_ | refine ex_dec (fun _ => ?_) (fun _ => ?_) | refine ex_u8 _ rfl (by omega) (by omega) ?_ | refine ex_i64 _ rfl (by omega) (by omega) ?_ | refine ex_u64 _ rfl (by omega) (by omega) ?_ | refine and_mk (by first | omega | (show drawOk _ _ _ = true; kernel_rfl)) ?_ | refine and_mk ⟨_, rfl⟩ ?_ | refine ex_is _ (List.length_map _) ?_ | refine ex_is _ List.length_nil ?_ | fail "no step")
    refine ex_loop (X := Nat) (fun q => ⟨[(0, Tstr (bs r)), (3, .o (c1 (.sl 1 ((signsL.take 9).map fun t => [ds (bs t)])))), (4, Ti q)], [], 1⟩) (fun q => 9 - q) (fun q => q ≤ 9 ∧ (q = 0 ∨ 1 < r.length) ∧ optN ((signsL.drop q).find? (·.isPrefixOf r)) = N) 0 ⟨by decide, .inl rfl, hN⟩ (SLe.trans (SLe.of ⟨⟨rfl, rfl, rfl, trivial⟩, trivial⟩) (SLe.still 0 1 9 _ rfl)) ?_
    rintro q ⟨hq, hq1, hs⟩
    refine ex_is 9 rfl ?_
    refine ex_dec (fun h => ?_) (fun h => ?_)
    · have hql : q < 9 := by omega
      obtain ⟨hc, ht2, hdr⟩ := two q hql
      rw [hdr, List.find?_cons] at hs
      generalize signsL.getD q [] = t at *
      by_cases h1 : 1 < r.length
      · have hpt := pre_two ht2 h1
        refine ex_true (by omega) ?_
        refine ex_row q t rfl hc ?_
        rcases hp : t.isPrefixOf r with _ | _
        · rw [hp] at hs
          have hne : ¬ bs t = (bs r).extract (Int.toNat 0) (Int.toNat 2) := fun e => by
            rw [hE2] at e
            have := hpt.2 (bs_inj.1 e)
            rw [hp] at this
            cases this
          repeat' (first | refine ex_i64 ((q + 1 : Nat) : Int) (by omega) (by omega) (by omega) ?_ | refine ex_u64 ((q + 1 : Nat) : Int) (by omega) (by omega) (by omega) ?_ | refine ex_u8 ((q + 1 : Nat) : Int) (by omega) (by omega) (by omega) ?_ | refine ex_true (by first | decide | omega | assumption | (with_reducible exact rfl)) ?_ | refine ex_false (by first | decide | omega | assumption | exact (fun h => h rfl)) ?_ | refine ex_dec (fun _ => ?_) (fun _ => ?_) | refine ex_u8 _ rfl (by omega) (by omega) ?_ | refine ex_i64 _ rfl (by omega) (by omega) ?_ | refine ex_u64 _ rfl (by omega) (by omega) ?_ | refine and_mk (by first | omega | (show drawOk _ _ _ = true; kernel_rfl)) ?_ | refine and_mk ⟨_, rfl⟩ ?_ | refine ex_is _ (List.length_map _) ?_ | refine ex_is _ List.length_nil ?_ | fail "no step")
          exact ex_round (q + 1) ⟨by omega, .inr h1, hs⟩ (by show _ - _ < _ - _; omega) (SLe.of ⟨⟨rfl, rfl, rfl, trivial⟩, trivial⟩)
        · rw [hp] at hs
          have heq : bs t = (bs r).extract (Int.toNat 0) (Int.toNat 2) := by rw [hE2]; exact bs_inj.2 (hpt.1 hp)
          have hs2 : N = 2 := by rw [← hs, ← ht2]; rfl
          subst hs2
          repeat' (first | refine ex_true (by first | decide | omega | assumption | (with_reducible exact rfl)) ?_ | refine ex_false (by first | decide | omega | assumption | exact (fun h => h rfl)) ?_ | refine ex_dec (fun _ => ?_) (fun _ => ?_) | refine ex_u8 _ rfl (by omega) (by omega) ?_ | refine ex_i64 _ rfl (by omega) (by omega) ?_ | refine ex_u64 _ rfl (by omega) (by omega) ?_ | refine and_mk (by first | omega | (show drawOk _ _ _ = true; kernel_rfl)) ?_ | refine and_mk ⟨_, rfl⟩ ?_ | refine ex_is _ (List.length_map _) ?_ | refine ex_is _ List.length_nil ?_ | fail "no step")
          exact TLe.rfl
      · refine ex_false (by omega) ?_
        have hq0 : q = 0 := by omega
        subst hq0
        have hs' : optN ((signsL.drop 9).find? (·.isPrefixOf r)) = N := by rw [← hshort (by omega)]; exact hN
        exact ex_meet 0 hs' (SLe.of ⟨⟨rfl, trivial⟩, trivial⟩)
    · have hq9 : q = 9 := by omega
      subst hq9
      exact ex_meet 0 hs (SLe.of ⟨⟨rfl, trivial⟩, trivial⟩)
  · rintro - hq
    repeat' (first | refine ex_true (by first | decide | omega | assumption | (with_reducible exact rfl)) ?_ | refine ex_false (by first | decide | omega | assumption | exact (fun h => h rfl)) ?_ | refine ex_dec (fun _ => ?_) (fun _ => ?_) | refine ex_u8 _ rfl (by omega) (by omega) ?_ | refine ex_i64 _ rfl (by omega) (by omega) ?_ | refine ex_u64 _ rfl (by omega) (by omega) ?_ | refine and_mk (by first | omega | (show drawOk _ _ _ = true; kernel_rfl)) ?_ | refine and_mk ⟨_, rfl⟩ ?_ | refine ex_is _ (List.length_map _) ?_ | refine ex_is _ List.length_nil ?_ | fail "no step")
    refine ex_loop (X := Nat) (fun q => ⟨[(0, Tstr (bs r)), (5, Tstr (bs ones)), (6, Ti q)], [], 0⟩) (fun q => 20 - q) (fun q => q ≤ 20 ∧ optN ((signsL.drop (9 + q)).find? (·.isPrefixOf r)) = N) 0 ⟨by decide, hq⟩ (SLe.of ⟨⟨rfl, rfl, rfl, trivial⟩, trivial⟩) ?_
    rintro q ⟨hq, hs⟩
    have hos : (bs ones).size = 20 := rfl
    refine ex_dec (fun h => ?_) (fun h => ?_)
    · have hql : q < 20 := by omega
      obtain ⟨hc, hdr⟩ := one q hql
      rw [hdr, List.find?_cons] at hs
      generalize ones.getD q 0 = c at *
      obtain ⟨a, y, rfl⟩ : ∃ a y, r = a :: y := by rcases r with _ | ⟨a, y⟩; exact absurd rfl h0; exact ⟨a, y, rfl⟩
      have ha : (bs (a :: y)).data.toList[0]? = some a := rfl
      have hpe : [c].isPrefixOf (a :: y) = decide ((c.toNat : Int) = (a.toNat : Int)) := Bool.eq_iff_iff.2 (by
        rw [decide_eq_true_eq]
        show (c == a && true) = true ↔ _
        rw [Bool.and_true, beq_iff_eq]
        exact ⟨fun e => by rw [e], fun e => UInt8.toNat_inj.1 (Int.ofNat_inj.1 e)⟩)
      rw [hpe] at hs
      refine ex_chr q c rfl hc ?_
      refine ex_chr 0 a rfl ha ?_
      refine ex_dec (fun h2 => ?_) (fun h2 => ?_)
      · rw [decide_eq_true h2] at hs
        have hs2 : N = 1 := hs.symm
        subst hs2
        repeat' (first | refine ex_true (by first | decide | omega | assumption | (with_reducible exact rfl)) ?_ | refine ex_false (by first | decide | omega | assumption | exact (fun h => h rfl)) ?_ | refine ex_dec (fun _ => ?_) (fun _ => ?_) | refine ex_u8 _ rfl (by omega) (by omega) ?_ | refine ex_i64 _ rfl (by omega) (by omega) ?_ | refine ex_u64 _ rfl (by omega) (by omega) ?_ | refine and_mk (by first | omega | (show drawOk _ _ _ = true; kernel_rfl)) ?_ | refine and_mk ⟨_, rfl⟩ ?_ | refine ex_is _ (List.length_map _) ?_ | refine ex_is _ List.length_nil ?_ | fail "no step")
        exact TLe.rfl
      · rw [decide_eq_false h2] at hs
        repeat' (first | refine ex_i64 ((q + 1 : Nat) : Int) (by omega) (by omega) (by omega) ?_ | refine ex_u64 ((q + 1 : Nat) : Int) (by omega) (by omega) (by omega) ?_ | refine ex_u8 ((q + 1 : Nat) : Int) (by omega) (by omega) (by omega) ?_ | refine ex_true (by first | decide | omega | assumption | (with_reducible exact rfl)) ?_ | refine ex_false (by first | decide | omega | assumption | exact (fun h => h rfl)) ?_ | refine ex_dec (fun _ => ?_) (fun _ => ?_) | refine ex_u8 _ rfl (by omega) (by omega) ?_ | refine ex_i64 _ rfl (by omega) (by omega) ?_ | refine ex_u64 _ rfl (by omega) (by omega) ?_ | refine and_mk (by first | omega | (show drawOk _ _ _ = true; kernel_rfl)) ?_ | refine and_mk ⟨_, rfl⟩ ?_ | refine ex_is _ (List.length_map _) ?_ | refine ex_is _ List.length_nil ?_ | fail "no step")
        exact ex_round (q + 1) ⟨by omega, hs⟩ (by show _ - _ < _ - _; omega) (SLe.of ⟨⟨rfl, rfl, rfl, trivial⟩, trivial⟩)
    · have hq9 : q = 20 := by omega
      subst hq9
      have hs2 : N = 0 := hs.symm
      subst hs2
      exact TLe.rfl
end Go.Proofs.YtokhlojibhegnaaDoor

namespace Go.Proofs.YtokhlojibhegnaaDoor
set_option linter.unusedVariables false
set_option linter.unusedSimpArgs false
open Go.RowKit
set_option maxRecDepth 100000

theorem tw_get {α} (p : α → Bool) : ∀ (l : List α) (q : Nat) (c : α), l[q]? = some c → q ≤ (l.takeWhile p).length → (q < (l.takeWhile p).length ↔ p c = true)
  | [], q, c, h, _ => by cases h
  | a :: l, 0, c, h, _ => by
    cases h
    rw [List.takeWhile_cons]
    split
    · rename_i h; simp [h]
    · rename_i h; simp [h]
  | a :: l, q + 1, c, h, hq => by
    rw [List.takeWhile_cons] at hq ⊢
    split at hq
    · rename_i ha
      rw [if_pos ha]
      have := tw_get p l q c h (by simpa using hq)
      simp [this]
    · exact absurd hq (by simp)
set_option maxHeartbeats 2000000 in
theorem rone_c (r : List UInt8) (h0 : r ≠ []) (hl : r.length ≤ 16384) : CallsA Tryd.prog Γ0 22 [c1 (ds (bs r))] (tvT (tokF r)) := by
  have hsz := bs_size r
  obtain ⟨T, hT⟩ : ∃ T, (r.takeWhile alnum).length = T := ⟨_, rfl⟩
  have hdl := drop_len alnum r
  have htl := take_len alnum r
  have htw := tw_get alnum r
  rw [hT] at htw hdl htl
  have hE := ext_take r T
  rw [htl] at hE
  refine fn_rule (C := ⟨Tryd.prog, layF, Tryd.f22.ntmps, Γ0, 0, [], [7]⟩) layF_ok mixed Tryd.func22 rfl (by kernel_rfl) rfl rfl rfl ?_
  refine ex_join (X := Nat) (fun q => ⟨[(0, Tstr (bs r)), (2, .o (.c (.ptr 0 0))), (4, Ti q)], [(0, .obj [.d (di 0), .d (ds (bs [])), .d (du 0), .d (di 0), .d (di 0)])], 1⟩) (fun q => q = T) ?_ ?_
  · repeat' (first | refine ex_true (by first | decide | omega | assumption | (with_reducible exact rfl)) ?_ | refine ex_false (by first | decide | omega | assumption | exact (fun h => h rfl)) ?_ | refine ex_dec (fun _ => ?_) (fun _ => ?_) | refine ex_u8 _ rfl (by omega) (by omega) ?_ | refine ex_i64 _ rfl (by omega) (by omega) ?_ | refine ex_u64 _ rfl (by omega) (by omega) ?_ | refine and_mk (by first | omega | (show drawOk _ _ _ = true; kernel_rfl)) ?_ | refine and_mk ⟨_, rfl⟩ ?_ | refine ex_is _ (List.length_map _) ?_ | refine ex_is _ List.length_nil ?_ | fail "no step")
    refine ex_loop (X := Nat) (fun q => ⟨[(0, Tstr (bs r)), (2, .o (.c (.ptr 0 0))), (4, Ti q)], [(0, .obj [.d (di 0), .d (ds (bs [])), .d (du 0), .d (di 0), .d (di 0)])], 1⟩) (fun q => T - q) (fun q => q ≤ T) 0 (Nat.zero_le _) (SLe.of ⟨⟨rfl, rfl, rfl, trivial⟩, ⟨rfl, trivial⟩⟩) ?_
    intro q hq
    refine ex_dec (fun h => ?_) (fun h => ?_)
    · have hql : q < r.length := by omega
      have hc : r[q]? = some r[q] := at_some hql
      have hw := htw q _ hc hq
      generalize r[q] = c at *
      have hdg := rdigit_c c
      have hlt := rletter_c c
      unfold alnum at hw
      rcases hD : isDig c with _ | _ <;> rw [hD] at hdg hw <;> rcases hL : isLet c with _ | _ <;> rw [hL] at hlt hw <;> simp at hw
      · repeat' (first | refine ex_call hlt ?_ | refine ex_call hdg ?_ | refine (ex_chr q c rfl hc) ?_ | refine ex_true (by first | decide | omega | assumption | (with_reducible exact rfl)) ?_ | refine ex_false (by first | decide | omega | assumption | exact (fun h => h rfl)) ?_ | refine ex_dec (fun _ => ?_) (fun _ => ?_) | refine ex_u8 _ rfl (by omega) (by omega) ?_ | refine ex_i64 _ rfl (by omega) (by omega) ?_ | refine ex_u64 _ rfl (by omega) (by omega) ?_ | refine and_mk (by first | omega | (show drawOk _ _ _ = true; kernel_rfl)) ?_ | refine and_mk ⟨_, rfl⟩ ?_ | refine ex_is _ (List.length_map _) ?_ | refine ex_is _ List.length_nil ?_ | fail "no step")
        exact ex_meet q (by omega) (SLe.of ⟨⟨rfl, rfl, rfl, trivial⟩, ⟨rfl, trivial⟩⟩)
      all_goals
        repeat' (first | refine ex_call hlt ?_ | refine ex_call hdg ?_ | refine ex_i64 ((q + 1 : Nat) : Int) (by omega) (by omega) (by omega) ?_ | refine ex_u64 ((q + 1 : Nat) : Int) (by omega) (by omega) (by omega) ?_ | refine ex_u8 ((q + 1 : Nat) : Int) (by omega) (by omega) (by omega) ?_ | refine (ex_chr q c rfl hc) ?_ | refine ex_true (by first | decide | omega | assumption | (with_reducible exact rfl)) ?_ | refine ex_false (by first | decide | omega | assumption | exact (fun h => h rfl)) ?_ | refine ex_dec (fun _ => ?_) (fun _ => ?_) | refine ex_u8 _ rfl (by omega) (by omega) ?_ | refine ex_i64 _ rfl (by omega) (by omega) ?_ | refine ex_u64 _ rfl (by omega) (by omega) ?_ | refine and_mk (by first | omega | (show drawOk _ _ _ = true; kernel_rfl)) ?_ | refine and_mk ⟨_, rfl⟩ ?_ | refine ex_is _ (List.length_map _) ?_ | refine ex_is _ List.length_nil ?_ | fail "no step")
        exact ex_round (q + 1) (by show q + 1 ≤ T; omega) (by show T - _ < T - _; omega) (SLe.of ⟨⟨rfl, rfl, rfl, trivial⟩, ⟨rfl, trivial⟩⟩)
    · exact ex_meet q (by omega) (SLe.of ⟨⟨rfl, rfl, rfl, trivial⟩, ⟨rfl, trivial⟩⟩)
  · intro q hq
    subst hq
    unfold tokF
    rcases hw : r.takeWhile alnum with _ | ⟨b, w⟩ <;> rw [hw] at hT
    · have hT0 : q = 0 := hT.symm
      subst hT0
      have hs := rsign_c r h0 hl
      dsimp only
      rcases hsg : signF r with _ | t <;> rw [hsg] at hs
      · have hs : CallsA Tryd.prog Γ0 40 [c1 (ds (bs r))] (Ti 0) := hs
        repeat' (first | refine ex_call hs ?_ | refine ex_true (by first | decide | omega | assumption | (with_reducible exact rfl)) ?_ | refine ex_false (by first | decide | omega | assumption | exact (fun h => h rfl)) ?_ | refine ex_dec (fun _ => ?_) (fun _ => ?_) | refine ex_u8 _ rfl (by omega) (by omega) ?_ | refine ex_i64 _ rfl (by omega) (by omega) ?_ | refine ex_u64 _ rfl (by omega) (by omega) ?_ | refine and_mk (by first | omega | (show drawOk _ _ _ = true; kernel_rfl)) ?_ | refine and_mk ⟨_, rfl⟩ ?_ | refine ex_is _ (List.length_map _) ?_ | refine ex_is _ List.length_nil ?_ | fail "no step")
        exact TLe.rfl
      · obtain ⟨hm, X, hX⟩ := signF_mem hsg
        have hl2 := signs_len t hm
        have hs : CallsA Tryd.prog Γ0 40 [c1 (ds (bs r))] (Ti (t.length : Nat)) := hs
        have hr2 : t.length ≤ r.length := by rw [hX, List.length_append]; omega
        have hE2 := ext_take r t.length
        rw [show r.take t.length = t by rw [hX, List.take_left]] at hE2
        repeat' (first | refine ex_call hs ?_ | refine ex_true (by first | decide | omega | assumption | (with_reducible exact rfl)) ?_ | refine ex_false (by first | decide | omega | assumption | exact (fun h => h rfl)) ?_ | refine ex_dec (fun _ => ?_) (fun _ => ?_) | refine ex_u8 _ rfl (by omega) (by omega) ?_ | refine ex_i64 _ rfl (by omega) (by omega) ?_ | refine ex_u64 _ rfl (by omega) (by omega) ?_ | refine and_mk (by first | omega | (show drawOk _ _ _ = true; kernel_rfl)) ?_ | refine and_mk ⟨_, rfl⟩ ?_ | refine ex_is _ (List.length_map _) ?_ | refine ex_is _ List.length_nil ?_ | fail "no step")
        rw [hE2]
        exact TLe.rfl
    · rw [hw] at hE
      have hpos : 0 < q := by rw [← hT]; simp
      have hb0 : r[0]? = some b := by
        obtain ⟨X, hX, -⟩ := takeWhile_split alnum r
        rw [hX, hw]; rfl
      have hdg := rdigit_c b
      have hN := rnumber_c (b :: w) (by omega) (by simp)
      dsimp only
      rcases hD : isDig b with _ | _ <;> rw [hD] at hdg
      · generalize b :: w = y at *
        by_cases h32 : y.length ≤ 32
        · rw [if_neg (by decide), if_pos h32]
          repeat' (first | refine ex_call hdg ?_ | refine (ex_chr 0 b rfl hb0) ?_ | refine ex_true (by first | decide | omega | assumption | (with_reducible exact rfl)) ?_ | refine ex_false (by first | decide | omega | assumption | exact (fun h => h rfl)) ?_ | refine ex_dec (fun _ => ?_) (fun _ => ?_) | refine ex_u8 _ rfl (by omega) (by omega) ?_ | refine ex_i64 _ rfl (by omega) (by omega) ?_ | refine ex_u64 _ rfl (by omega) (by omega) ?_ | refine and_mk (by first | omega | (show drawOk _ _ _ = true; kernel_rfl)) ?_ | refine and_mk ⟨_, rfl⟩ ?_ | refine ex_is _ (List.length_map _) ?_ | refine ex_is _ List.length_nil ?_ | fail "no step")
          rw [hE]
          exact TLe.rfl
        · rw [if_neg (by decide), if_neg h32]
          repeat' (first | refine ex_call hdg ?_ | refine (ex_chr 0 b rfl hb0) ?_ | refine ex_true (by first | decide | omega | assumption | (with_reducible exact rfl)) ?_ | refine ex_false (by first | decide | omega | assumption | exact (fun h => h rfl)) ?_ | refine ex_dec (fun _ => ?_) (fun _ => ?_) | refine ex_u8 _ rfl (by omega) (by omega) ?_ | refine ex_i64 _ rfl (by omega) (by omega) ?_ | refine ex_u64 _ rfl (by omega) (by omega) ?_ | refine and_mk (by first | omega | (show drawOk _ _ _ = true; kernel_rfl)) ?_ | refine and_mk ⟨_, rfl⟩ ?_ | refine ex_is _ (List.length_map _) ?_ | refine ex_is _ List.length_nil ?_ | fail "no step")
          exact TLe.rfl
      · rw [if_pos rfl]
        generalize b :: w = y at *
        rcases hn : numF y with ⟨k, t, n⟩ | e <;> rw [hn] at hN
        · repeat' (first | refine ex_call hdg ?_ | refine (ex_chr 0 b rfl hb0) ?_ | refine ex_true (by first | decide | omega | assumption | (with_reducible exact rfl)) ?_ | refine ex_false (by first | decide | omega | assumption | exact (fun h => h rfl)) ?_ | refine ex_dec (fun _ => ?_) (fun _ => ?_) | refine ex_u8 _ rfl (by omega) (by omega) ?_ | refine ex_i64 _ rfl (by omega) (by omega) ?_ | refine ex_u64 _ rfl (by omega) (by omega) ?_ | refine and_mk (by first | omega | (show drawOk _ _ _ = true; kernel_rfl)) ?_ | refine and_mk ⟨_, rfl⟩ ?_ | refine ex_is _ (List.length_map _) ?_ | refine ex_is _ List.length_nil ?_ | fail "no step")
          rw [hE]
          repeat' (first | refine ex_call hN ?_ | refine ex_true (by first | decide | omega | assumption | (with_reducible exact rfl)) ?_ | refine ex_false (by first | decide | omega | assumption | exact (fun h => h rfl)) ?_ | refine ex_dec (fun _ => ?_) (fun _ => ?_) | refine ex_u8 _ rfl (by omega) (by omega) ?_ | refine ex_i64 _ rfl (by omega) (by omega) ?_ | refine ex_u64 _ rfl (by omega) (by omega) ?_ | refine and_mk (by first | omega | (show drawOk _ _ _ = true; kernel_rfl)) ?_ | refine and_mk ⟨_, rfl⟩ ?_ | refine ex_is _ (List.length_map _) ?_ | refine ex_is _ List.length_nil ?_ | fail "no step")
          exact TLe.rfl
        · repeat' (first | refine ex_call hdg ?_ | refine (ex_chr 0 b rfl hb0) ?_ | refine ex_true (by first | decide | omega | assumption | (with_reducible exact rfl)) ?_ | refine ex_false (by first | decide | omega | assumption | exact (fun h => h rfl)) ?_ | refine ex_dec (fun _ => ?_) (fun _ => ?_) | refine ex_u8 _ rfl (by omega) (by omega) ?_ | refine ex_i64 _ rfl (by omega) (by omega) ?_ | refine ex_u64 _ rfl (by omega) (by omega) ?_ | refine and_mk (by first | omega | (show drawOk _ _ _ = true; kernel_rfl)) ?_ | refine and_mk ⟨_, rfl⟩ ?_ | refine ex_is _ (List.length_map _) ?_ | refine ex_is _ List.length_nil ?_ | fail "no step")
          rw [hE]
          repeat' (first | refine ex_call hN ?_ | refine ex_true (by first | decide | omega | assumption | (with_reducible exact rfl)) ?_ | refine ex_false (by first | decide | omega | assumption | exact (fun h => h rfl)) ?_ | refine ex_dec (fun _ => ?_) (fun _ => ?_) | refine ex_u8 _ rfl (by omega) (by omega) ?_ | refine ex_i64 _ rfl (by omega) (by omega) ?_ | refine ex_u64 _ rfl (by omega) (by omega) ?_ | refine and_mk (by first | omega | (show drawOk _ _ _ = true; kernel_rfl)) ?_ | refine and_mk ⟨_, rfl⟩ ?_ | refine ex_is _ (List.length_map _) ?_ | refine ex_is _ List.length_nil ?_ | fail "no step")
          exact TLe.rfl
end Go.Proofs.YtokhlojibhegnaaDoor

namespace Go.Proofs.YtokhlojibhegnaaDoor
set_option linter.unusedVariables false
set_option linter.unusedSimpArgs false
open Go.RowKit
set_option maxRecDepth 100000

theorem u8_int {b : UInt8} (n : Nat) (hn : n < 256) : ((b.toNat : Nat) : Int) = (n : Int) ↔ b = UInt8.ofNat n := by
  constructor
  · intro h
    have : b.toNat = n := by omega
    rw [← this]; simp
  · rintro rfl
    rw [UInt8.toNat_ofNat']
    omega
theorem isCom_cons (b c : UInt8) (y : List UInt8) : isCom (b :: c :: y) = (decide (((b.toNat : Nat) : Int) = 47) && decide (((c.toNat : Nat) : Int) = 47)) := by
  have e : ∀ x : UInt8, (47 == x) = decide (((x.toNat : Nat) : Int) = 47) := fun x => Bool.eq_iff_iff.2 (by
    rw [beq_iff_eq, decide_eq_true_eq]
    exact ⟨fun e => by rw [← e]; rfl, fun e => (UInt8.toNat_inj.1 (Int.ofNat_inj.1 e)).symm⟩)
  show (47 == b && (47 == c && true)) = _
  rw [e, e, Bool.and_true]
set_option maxHeartbeats 4000000 in
theorem rlex_c (s : List UInt8) : CallsA Tryd.prog Γ0 9 [c1 (ds (bs s))] (lexT (lexV s)) := by
  have hsz := bs_size s
  unfold lexV
  by_cases hs : s.length ≤ 16384
  · rw [if_pos hs]
    obtain ⟨R, hR⟩ : ∃ R, lexF s 1 1 = R := ⟨_, rfl⟩
    rw [hR]
    refine fn_rule (C := ⟨Tryd.prog, layF, Tryd.f9.ntmps, Γ0, 0, [], []⟩) layF_ok mixed Tryd.func9 rfl (by kernel_rfl) rfl rfl rfl ?_
    repeat' (first | refine ex_true (by first | decide | omega | assumption | (with_reducible exact rfl)) ?_ | refine ex_false (by first | decide | omega | assumption | exact (fun h => h rfl)) ?_ | refine ex_dec (fun _ => ?_) (fun _ => ?_) | refine ex_u8 _ rfl (by omega) (by omega) ?_ | refine ex_i64 _ rfl (by omega) (by omega) ?_ | refine ex_u64 _ rfl (by omega) (by omega) ?_ | refine and_mk (by first | omega | (show drawOk _ _ _ = true; kernel_rfl)) ?_ | refine and_mk ⟨_, rfl⟩ ?_ | refine ex_is _ (List.length_map _) ?_ | refine ex_is _ List.length_nil ?_ | fail "no step")
    refine ex_loop (X := Nat × Nat × Nat × List TokP) (fun ⟨i, u, v, o⟩ => ⟨[(0, Tstr (bs s)), (3, .o (.c (.ptr 0 0))), (5, .o (.c (.row 1))), (6, Ti u), (7, Ti v), (8, Ti i)], [(0, Pz), (1, .row 5 38 (o.map tokD))], 2⟩) (fun x => s.length - x.1)
      (fun ⟨i, u, v, o⟩ => i ≤ s.length ∧ Bd (u, v) (s.length - i) ∧ o.length ≤ i ∧ (lexF (s.drop i) u v).pre o = R) (0, 1, 1, []) ⟨Nat.zero_le _, ⟨by decide, by decide, by show 1 + _ ≤ _; omega, by show 1 + _ ≤ _; omega⟩, Nat.le_refl _, by rw [List.drop_zero, hR]; cases R <;> rfl⟩ (SLe.trans (SLe.of ⟨⟨rfl, rfl, rfl, rfl, rfl, rfl, trivial⟩, ⟨rfl, rfl, trivial⟩⟩) (SLe.own 5 1 5 38 rfl rfl rfl rfl rfl)) ?_
    rintro ⟨i, u, v, o⟩ ⟨hi, ⟨hb1, hb2, hb3, hb4⟩, hol, hs2⟩
    dsimp only at hb1 hb2 hb3 hb4
    refine ex_dec (fun h => ?_) (fun h => ?_)
    · have hil : i < s.length := by omega
      have hc : s[i]? = some s[i] := at_some hil
      have hdr : s.drop i = s[i] :: s.drop (i + 1) := List.drop_eq_getElem_cons hil
      rw [hdr] at hs2
      generalize s[i] = b at *
      by_cases h10 : (b.toNat : Int) = 10
      · have hb : b = 10 := (u8_int 10 (by decide)).1 h10
        rw [hb, lexF_eq] at hs2
        repeat' (first | refine ex_i64 ((i + 1 : Nat) : Int) (by omega) (by omega) (by omega) ?_ | refine ex_u64 ((i + 1 : Nat) : Int) (by omega) (by omega) (by omega) ?_ | refine ex_u8 ((i + 1 : Nat) : Int) (by omega) (by omega) (by omega) ?_ | refine ex_i64 ((u + 1 : Nat) : Int) (by omega) (by omega) (by omega) ?_ | refine ex_u64 ((u + 1 : Nat) : Int) (by omega) (by omega) (by omega) ?_ | refine ex_u8 ((u + 1 : Nat) : Int) (by omega) (by omega) (by omega) ?_ | refine (ex_chr i b rfl hc) ?_ | refine ex_true (by first | decide | omega | assumption | (with_reducible exact rfl)) ?_ | refine ex_false (by first | decide | omega | assumption | exact (fun h => h rfl)) ?_ | refine ex_dec (fun _ => ?_) (fun _ => ?_) | refine ex_u8 _ rfl (by omega) (by omega) ?_ | refine ex_i64 _ rfl (by omega) (by omega) ?_ | refine ex_u64 _ rfl (by omega) (by omega) ?_ | refine and_mk (by first | omega | (show drawOk _ _ _ = true; kernel_rfl)) ?_ | refine and_mk ⟨_, rfl⟩ ?_ | refine ex_is _ (List.length_map _) ?_ | refine ex_is _ List.length_nil ?_ | fail "no step")
        exact ex_round (i + 1, u + 1, 1, o) ⟨by omega, ⟨by show 1 ≤ u + 1; omega, Nat.le_refl 1, by show u + 1 + _ ≤ _; omega, by show 1 + _ ≤ _; omega⟩, by omega, hs2⟩ (by show _ - _ < _ - _; omega) (SLe.of ⟨⟨rfl, rfl, rfl, rfl, rfl, rfl, trivial⟩, ⟨rfl, rfl, trivial⟩⟩)
      have n10 : b ≠ 10 := fun e => h10 ((u8_int 10 (by decide)).2 e)
      by_cases hbl : (b.toNat : Int) = 32 ∨ (b.toNat : Int) = 9 ∨ (b.toNat : Int) = 13
      · have hb : b = 32 ∨ b = 9 ∨ b = 13 := by
          rcases hbl with h | h | h
          · exact .inl ((u8_int 32 (by decide)).1 h)
          · exact .inr (.inl ((u8_int 9 (by decide)).1 h))
          · exact .inr (.inr ((u8_int 13 (by decide)).1 h))
        rw [lexF_eq, show stp (b :: s.drop (i + 1)) u v = .go (s.drop (i + 1)) u (v + 1) by unfold stp; dsimp only; rw [if_neg n10, if_pos hb]] at hs2
        repeat' (first | refine ex_i64 ((i + 1 : Nat) : Int) (by omega) (by omega) (by omega) ?_ | refine ex_u64 ((i + 1 : Nat) : Int) (by omega) (by omega) (by omega) ?_ | refine ex_u8 ((i + 1 : Nat) : Int) (by omega) (by omega) (by omega) ?_ | refine ex_i64 ((v + 1 : Nat) : Int) (by omega) (by omega) (by omega) ?_ | refine ex_u64 ((v + 1 : Nat) : Int) (by omega) (by omega) (by omega) ?_ | refine ex_u8 ((v + 1 : Nat) : Int) (by omega) (by omega) (by omega) ?_ | refine (ex_chr i b rfl hc) ?_ | refine ex_true (by first | decide | omega | assumption | (with_reducible exact rfl)) ?_ | refine ex_false (by first | decide | omega | assumption | exact (fun h => h rfl)) ?_ | refine ex_dec (fun _ => ?_) (fun _ => ?_) | refine ex_u8 _ rfl (by omega) (by omega) ?_ | refine ex_i64 _ rfl (by omega) (by omega) ?_ | refine ex_u64 _ rfl (by omega) (by omega) ?_ | refine and_mk (by first | omega | (show drawOk _ _ _ = true; kernel_rfl)) ?_ | refine and_mk ⟨_, rfl⟩ ?_ | refine ex_is _ (List.length_map _) ?_ | refine ex_is _ List.length_nil ?_ | fail "no step")
        all_goals exact ex_round (i + 1, u, v + 1, o) ⟨by omega, ⟨hb1, by show 1 ≤ v + 1; omega, by show u + _ ≤ _; omega, by show v + 1 + _ ≤ _; omega⟩, by omega, hs2⟩ (by show _ - _ < _ - _; omega) (SLe.of ⟨⟨rfl, rfl, rfl, rfl, rfl, rfl, trivial⟩, ⟨rfl, rfl, trivial⟩⟩)
      have nbl : ¬ (b = 32 ∨ b = 9 ∨ b = 13) := by
        rintro (e | e | e)
        · exact hbl (.inl ((u8_int 32 (by decide)).2 e))
        · exact hbl (.inr (.inl ((u8_int 9 (by decide)).2 e)))
        · exact hbl (.inr (.inr ((u8_int 13 (by decide)).2 e)))
      have n32 : ¬ (b.toNat : Int) = 32 := fun e => hbl (.inl e)
      have n9 : ¬ (b.toNat : Int) = 9 := fun e => hbl (.inr (.inl e))
      have n13 : ¬ (b.toNat : Int) = 13 := fun e => hbl (.inr (.inr e))
      have hx0 : b :: s.drop (i + 1) ≠ [] := by simp
      have hxl : (b :: s.drop (i + 1)).length = s.length - i := by rw [← hdr, List.length_drop]
      have hnb : ∀ d, (b :: s.drop (i + 1))[0]? = some d → blank d = false := fun d hd => by
        cases hd
        rcases hh : blank b with _ | _
        · rfl
        · simp [blank, n10] at hh; rcases hh with hh | hh | hh <;> simp [hh] at nbl
      have ht := rone_c (b :: s.drop (i + 1)) hx0 (by omega)
      have hE := ext_drop s i hi
      rw [hdr] at hE
      have tokC : isCom (b :: s.drop (i + 1)) = false → ∀ {k : Nat} {t : List UInt8} {n : Nat}, tokF (b :: s.drop (i + 1)) = .ok k t n → i + t.length ≤ s.length ∧ 0 < t.length ∧ (lexF (s.drop (i + t.length)) u (v + t.length)).pre (o ++ [⟨k, t, n, u, v⟩]) = R := by
        intro hcm k t n hk
        rw [lexF_tok u v hx0 hnb hcm, hk] at hs2
        obtain ⟨⟨X, hX⟩, ht0, -, -⟩ := tokF_ok hk
        have hpos : 0 < t.length := List.length_pos_iff.2 ht0
        rw [hX, List.length_append] at hxl
        dsimp only at hs2
        rw [LR.pre_pre, ← hdr, List.drop_drop] at hs2
        exact ⟨by omega, hpos, hs2⟩
      have tokE : isCom (b :: s.drop (i + 1)) = false → ∀ {e : Nat}, tokF (b :: s.drop (i + 1)) = .err e → .err u v e = R := by
        intro hcm e hk
        rw [lexF_tok u v hx0 hnb hcm, hk] at hs2
        exact hs2
      have comC : isCom (b :: s.drop (i + 1)) = true → ∀ T, ((b :: s.drop (i + 1)).takeWhile notNl).length = T → i + T ≤ s.length ∧ 2 ≤ T ∧ (lexF (s.drop (i + T)) u (v + T)).pre o = R := by
        intro hcm T hT
        rw [lexF_com (u, v) hcm, skip_line _ _ _ (takeWhile_nl _), dropWhile_eq, hT, ← hdr, List.drop_drop] at hs2
        have h1 := drop_len notNl (b :: s.drop (i + 1))
        obtain ⟨Z, hZ⟩ := isCom_eq hcm
        refine ⟨by omega, ?_, hs2⟩
        rw [← hT, hZ, List.takeWhile_cons, if_pos (by decide), List.takeWhile_cons, if_pos (by decide)]
        simp
      rcases hcm : isCom (b :: s.drop (i + 1)) with _ | _
      · have hcase : ¬ (b.toNat : Int) = 47 ∨ ((b.toNat : Int) = 47 ∧ ¬ i + 1 < s.length) ∨ ((b.toNat : Int) = 47 ∧ i + 1 < s.length ∧ ∃ d : UInt8, s[i + 1]? = some d ∧ ¬ (d.toNat : Int) = 47) := by
          by_cases h47 : (b.toNat : Int) = 47
          · by_cases hi1 : i + 1 < s.length
            · refine .inr (.inr ⟨h47, hi1, s[i + 1], at_some hi1, fun hd => ?_⟩)
              rw [List.drop_eq_getElem_cons hi1, isCom_cons, decide_eq_true h47, decide_eq_true hd] at hcm
              cases hcm
            · exact .inr (.inl ⟨h47, hi1⟩)
          · exact .inl h47
        rcases hk : tokF (b :: s.drop (i + 1)) with ⟨k, t, n⟩ | e <;> rw [hk] at ht
        · obtain ⟨hTl, hpos, hs3⟩ := tokC hcm hk
          have hbt := bs_size t
          rcases hcase with h47 | ⟨h47, hi1⟩ | ⟨h47, hi1, d, hc2, hd⟩
          all_goals
            repeat' (first | refine ex_i64 ((i + 1 : Nat) : Int) (by omega) (by omega) (by omega) ?_ | refine ex_u64 ((i + 1 : Nat) : Int) (by omega) (by omega) (by omega) ?_ | refine ex_u8 ((i + 1 : Nat) : Int) (by omega) (by omega) (by omega) ?_ | refine (ex_chr (i + 1) _ rfl (by assumption)) ?_ | refine (ex_chr i b rfl hc) ?_ | refine ex_true (by first | decide | omega | assumption | (with_reducible exact rfl)) ?_ | refine ex_false (by first | decide | omega | assumption | exact (fun h => h rfl)) ?_ | refine ex_dec (fun _ => ?_) (fun _ => ?_) | refine ex_u8 _ rfl (by omega) (by omega) ?_ | refine ex_i64 _ rfl (by omega) (by omega) ?_ | refine ex_u64 _ rfl (by omega) (by omega) ?_ | refine and_mk (by first | omega | (show drawOk _ _ _ = true; kernel_rfl)) ?_ | refine and_mk ⟨_, rfl⟩ ?_ | refine ex_is _ (List.length_map _) ?_ | refine ex_is _ List.length_nil ?_ | fail "no step")
            rw [hE]
            repeat' (first | refine ex_call ht ?_ | refine ex_true (by first | decide | omega | assumption | (with_reducible exact rfl)) ?_ | refine ex_false (by first | decide | omega | assumption | exact (fun h => h rfl)) ?_ | refine ex_dec (fun _ => ?_) (fun _ => ?_) | refine ex_u8 _ rfl (by omega) (by omega) ?_ | refine ex_i64 _ rfl (by omega) (by omega) ?_ | refine ex_u64 _ rfl (by omega) (by omega) ?_ | refine and_mk (by first | omega | (show drawOk _ _ _ = true; kernel_rfl)) ?_ | refine and_mk ⟨_, rfl⟩ ?_ | refine ex_is _ (List.length_map _) ?_ | refine ex_is _ List.length_nil ?_ | fail "no step")
            refine ex_app (o.length) (1) 1000 (by first | rfl | (simp; done) | (simp; omega)) (by first | rfl | (simp; done) | (simp; omega)) rfl (by omega) ?_
            refine ex_is (List.map tokD (o ++ [(⟨k, t, n, u, v⟩ : TokP)])) (by rw [List.map_append]; rfl) ?_
            repeat' (first | refine ex_i64 ((v + t.length : Nat) : Int) (by omega) (by omega) (by omega) ?_ | refine ex_u64 ((v + t.length : Nat) : Int) (by omega) (by omega) (by omega) ?_ | refine ex_u8 ((v + t.length : Nat) : Int) (by omega) (by omega) (by omega) ?_ | refine ex_i64 ((i + t.length : Nat) : Int) (by omega) (by omega) (by omega) ?_ | refine ex_u64 ((i + t.length : Nat) : Int) (by omega) (by omega) (by omega) ?_ | refine ex_u8 ((i + t.length : Nat) : Int) (by omega) (by omega) (by omega) ?_ | refine ex_true (by first | decide | omega | assumption | (with_reducible exact rfl)) ?_ | refine ex_false (by first | decide | omega | assumption | exact (fun h => h rfl)) ?_ | refine ex_dec (fun _ => ?_) (fun _ => ?_) | refine ex_u8 _ rfl (by omega) (by omega) ?_ | refine ex_i64 _ rfl (by omega) (by omega) ?_ | refine ex_u64 _ rfl (by omega) (by omega) ?_ | refine and_mk (by first | omega | (show drawOk _ _ _ = true; kernel_rfl)) ?_ | refine and_mk ⟨_, rfl⟩ ?_ | refine ex_is _ (List.length_map _) ?_ | refine ex_is _ List.length_nil ?_ | fail "no step")
            exact ex_round (i + t.length, u, v + t.length, o ++ [⟨k, t, n, u, v⟩]) ⟨hTl, ⟨hb1, by show 1 ≤ v + _; omega, by show u + _ ≤ _; omega, by show v + _ + _ ≤ _; omega⟩, by show (o ++ [_]).length ≤ _; rw [List.length_append, List.length_cons, List.length_nil]; omega, hs3⟩ (by show _ - _ < _ - _; omega) (SLe.ren [(0, 0), (4, 1)] ⟨⟨rfl, rfl⟩, ⟨rfl, rfl⟩, ⟨rfl, rfl⟩, ⟨rfl, rfl⟩, ⟨rfl, rfl⟩, ⟨rfl, rfl⟩, trivial⟩ ⟨⟨rfl, rfl⟩, ⟨rfl, rfl⟩, trivial⟩ rfl)
        · have he := tokF_err hk
          have hs3 := tokE hcm hk
          subst hs3
          rcases hcase with h47 | ⟨h47, hi1⟩ | ⟨h47, hi1, d, hc2, hd⟩
          all_goals
            repeat' (first | refine ex_i64 ((i + 1 : Nat) : Int) (by omega) (by omega) (by omega) ?_ | refine ex_u64 ((i + 1 : Nat) : Int) (by omega) (by omega) (by omega) ?_ | refine ex_u8 ((i + 1 : Nat) : Int) (by omega) (by omega) (by omega) ?_ | refine (ex_chr (i + 1) _ rfl (by assumption)) ?_ | refine (ex_chr i b rfl hc) ?_ | refine ex_true (by first | decide | omega | assumption | (with_reducible exact rfl)) ?_ | refine ex_false (by first | decide | omega | assumption | exact (fun h => h rfl)) ?_ | refine ex_dec (fun _ => ?_) (fun _ => ?_) | refine ex_u8 _ rfl (by omega) (by omega) ?_ | refine ex_i64 _ rfl (by omega) (by omega) ?_ | refine ex_u64 _ rfl (by omega) (by omega) ?_ | refine and_mk (by first | omega | (show drawOk _ _ _ = true; kernel_rfl)) ?_ | refine and_mk ⟨_, rfl⟩ ?_ | refine ex_is _ (List.length_map _) ?_ | refine ex_is _ List.length_nil ?_ | fail "no step")
            rw [hE]
            repeat' (first | refine ex_call ht ?_ | refine ex_true (by first | decide | omega | assumption | (with_reducible exact rfl)) ?_ | refine ex_false (by first | decide | omega | assumption | exact (fun h => h rfl)) ?_ | refine ex_dec (fun _ => ?_) (fun _ => ?_) | refine ex_u8 _ rfl (by omega) (by omega) ?_ | refine ex_i64 _ rfl (by omega) (by omega) ?_ | refine ex_u64 _ rfl (by omega) (by omega) ?_ | refine and_mk (by first | omega | (show drawOk _ _ _ = true; kernel_rfl)) ?_ | refine and_mk ⟨_, rfl⟩ ?_ | refine ex_is _ (List.length_map _) ?_ | refine ex_is _ List.length_nil ?_ | fail "no step")
            exact TLe.nilc
      · obtain ⟨Z, hZ⟩ := isCom_eq hcm
        have hb47 : b = 47 := by injection hZ
        have h47 : (b.toNat : Int) = 47 := (u8_int 47 (by decide)).2 hb47
        have hcm2 := hcm
        have hi1 : i + 1 < s.length := by
          rw [hZ] at hxl
          simp at hxl
          omega
        have hc2 : s[i + 1]? = some s[i + 1] := at_some hi1
        have hcc : isCom (b :: s.drop (i + 1)) = decide ((s[i + 1].toNat : Int) = 47) := by
          rw [List.drop_eq_getElem_cons hi1, isCom_cons, decide_eq_true h47, Bool.true_and]
        generalize s[i + 1] = d at *
        have hd : (d.toNat : Int) = 47 := by rw [hcm] at hcc; exact of_decide_eq_true hcc.symm
        obtain ⟨T, hT⟩ : ∃ T, ((b :: s.drop (i + 1)).takeWhile notNl).length = T := ⟨_, rfl⟩
        obtain ⟨hTl, hT2, hs3⟩ := comC hcm T hT
        have htw := tw_get notNl (b :: s.drop (i + 1))
        rw [hT, ← hdr] at htw
        repeat' (first | refine ex_i64 ((i + 1 : Nat) : Int) (by omega) (by omega) (by omega) ?_ | refine ex_u64 ((i + 1 : Nat) : Int) (by omega) (by omega) (by omega) ?_ | refine ex_u8 ((i + 1 : Nat) : Int) (by omega) (by omega) (by omega) ?_ | refine (ex_chr (i + 1) d rfl hc2) ?_ | refine (ex_chr i b rfl hc) ?_ | refine ex_true (by first | decide | omega | assumption | (with_reducible exact rfl)) ?_ | refine ex_false (by first | decide | omega | assumption | exact (fun h => h rfl)) ?_ | refine ex_dec (fun _ => ?_) (fun _ => ?_) | refine ex_u8 _ rfl (by omega) (by omega) ?_ | refine ex_i64 _ rfl (by omega) (by omega) ?_ | refine ex_u64 _ rfl (by omega) (by omega) ?_ | refine and_mk (by first | omega | (show drawOk _ _ _ = true; kernel_rfl)) ?_ | refine and_mk ⟨_, rfl⟩ ?_ | refine ex_is _ (List.length_map _) ?_ | refine ex_is _ List.length_nil ?_ | fail "no step")
        refine ex_loop (X := Nat) (fun k => ⟨[(0, Tstr (bs s)), (3, .o (.c (.ptr 0 0))), (5, .o (.c (.row 1))), (6, Ti u), (7, Ti (v + k : Nat)), (8, Ti (i + k : Nat))], [(0, Pz), (1, .row 5 38 (o.map tokD))], 2⟩) (fun k => T - k) (fun k => k ≤ T) 0 (Nat.zero_le _) (SLe.of ⟨⟨rfl, rfl, rfl, rfl, rfl, rfl, trivial⟩, ⟨rfl, rfl, trivial⟩⟩) ?_
        intro k hk
        by_cases hkl : i + k < s.length
        · have hc3 : s[i + k]? = some s[i + k] := at_some hkl
          have hw := htw k s[i + k] (by rw [List.getElem?_drop]; exact hc3) hk
          generalize s[i + k] = z at *
          by_cases hz : (z.toNat : Int) = 10
          · have hkT : k = T := by
              have : notNl z = false := by rw [(u8_int 10 (by decide)).1 hz]; rfl
              rw [this] at hw
              simp at hw
              omega
            subst hkT
            repeat' (first | refine (ex_chr (i + k) z rfl hc3) ?_ | refine ex_true (by first | decide | omega | assumption | (with_reducible exact rfl)) ?_ | refine ex_false (by first | decide | omega | assumption | exact (fun h => h rfl)) ?_ | refine ex_dec (fun _ => ?_) (fun _ => ?_) | refine ex_u8 _ rfl (by omega) (by omega) ?_ | refine ex_i64 _ rfl (by omega) (by omega) ?_ | refine ex_u64 _ rfl (by omega) (by omega) ?_ | refine and_mk (by first | omega | (show drawOk _ _ _ = true; kernel_rfl)) ?_ | refine and_mk ⟨_, rfl⟩ ?_ | refine ex_is _ (List.length_map _) ?_ | refine ex_is _ List.length_nil ?_ | fail "no step")
            exact ex_round (i + k, u, v + k, o) ⟨hTl, ⟨hb1, by show 1 ≤ v + k; omega, by show u + _ ≤ _; omega, by show v + k + _ ≤ _; omega⟩, by omega, hs3⟩ (by show _ - _ < _ - _; omega) (SLe.of ⟨⟨rfl, rfl, rfl, rfl, rfl, rfl, trivial⟩, ⟨rfl, rfl, trivial⟩⟩)
          · have hkT : k < T := hw.2 (by
              rcases hh : notNl z with _ | _
              · exact absurd ((u8_int 10 (by decide)).2 (by unfold notNl at hh; simpa using hh)) hz
              · rfl)
            repeat' (first | refine ex_i64 ((v + (k + 1) : Nat) : Int) (by omega) (by omega) (by omega) ?_ | refine ex_u64 ((v + (k + 1) : Nat) : Int) (by omega) (by omega) (by omega) ?_ | refine ex_u8 ((v + (k + 1) : Nat) : Int) (by omega) (by omega) (by omega) ?_ | refine ex_i64 ((i + (k + 1) : Nat) : Int) (by omega) (by omega) (by omega) ?_ | refine ex_u64 ((i + (k + 1) : Nat) : Int) (by omega) (by omega) (by omega) ?_ | refine ex_u8 ((i + (k + 1) : Nat) : Int) (by omega) (by omega) (by omega) ?_ | refine (ex_chr (i + k) z rfl hc3) ?_ | refine ex_true (by first | decide | omega | assumption | (with_reducible exact rfl)) ?_ | refine ex_false (by first | decide | omega | assumption | exact (fun h => h rfl)) ?_ | refine ex_dec (fun _ => ?_) (fun _ => ?_) | refine ex_u8 _ rfl (by omega) (by omega) ?_ | refine ex_i64 _ rfl (by omega) (by omega) ?_ | refine ex_u64 _ rfl (by omega) (by omega) ?_ | refine and_mk (by first | omega | (show drawOk _ _ _ = true; kernel_rfl)) ?_ | refine and_mk ⟨_, rfl⟩ ?_ | refine ex_is _ (List.length_map _) ?_ | refine ex_is _ List.length_nil ?_ | fail "no step")
            exact ex_round (k + 1) (by show k + 1 ≤ T; omega) (by show T - _ < T - _; omega) (SLe.of ⟨⟨rfl, rfl, rfl, rfl, rfl, rfl, trivial⟩, ⟨rfl, rfl, trivial⟩⟩)
        · have hkT : k = T := by omega
          subst hkT
          repeat' (first | refine ex_true (by first | decide | omega | assumption | (with_reducible exact rfl)) ?_ | refine ex_false (by first | decide | omega | assumption | exact (fun h => h rfl)) ?_ | refine ex_dec (fun _ => ?_) (fun _ => ?_) | refine ex_u8 _ rfl (by omega) (by omega) ?_ | refine ex_i64 _ rfl (by omega) (by omega) ?_ | refine ex_u64 _ rfl (by omega) (by omega) ?_ | refine and_mk (by first | omega | (show drawOk _ _ _ = true; kernel_rfl)) ?_ | refine and_mk ⟨_, rfl⟩ ?_ | refine ex_is _ (List.length_map _) ?_ | refine ex_is _ List.length_nil ?_ | fail "no step")
          exact ex_round (i + k, u, v + k, o) ⟨hTl, ⟨hb1, by show 1 ≤ v + k; omega, by show u + _ ≤ _; omega, by show v + k + _ ≤ _; omega⟩, by omega, hs3⟩ (by show _ - _ < _ - _; omega) (SLe.of ⟨⟨rfl, rfl, rfl, rfl, rfl, rfl, trivial⟩, ⟨rfl, rfl, trivial⟩⟩)
    · have hil : i = s.length := by omega
      subst hil
      rw [List.drop_length, lexF_nil] at hs2
      subst hs2
      repeat' (first | refine ex_true (by first | decide | omega | assumption | (with_reducible exact rfl)) ?_ | refine ex_false (by first | decide | omega | assumption | exact (fun h => h rfl)) ?_ | refine ex_dec (fun _ => ?_) (fun _ => ?_) | refine ex_u8 _ rfl (by omega) (by omega) ?_ | refine ex_i64 _ rfl (by omega) (by omega) ?_ | refine ex_u64 _ rfl (by omega) (by omega) ?_ | refine and_mk (by first | omega | (show drawOk _ _ _ = true; kernel_rfl)) ?_ | refine and_mk ⟨_, rfl⟩ ?_ | refine ex_is _ (List.length_map _) ?_ | refine ex_is _ List.length_nil ?_ | fail "no step")
      refine ex_app (o.length) (1) 1000 (by first | rfl | (simp; done) | (simp; omega)) (by first | rfl | (simp; done) | (simp; omega)) rfl (by omega) ?_
      refine ex_is (List.map tokD (o ++ [(⟨3, [], 0, u, v⟩ : TokP)])) (by rw [List.map_append]; rfl) ?_
      repeat' (first | refine ex_true (by first | decide | omega | assumption | (with_reducible exact rfl)) ?_ | refine ex_false (by first | decide | omega | assumption | exact (fun h => h rfl)) ?_ | refine ex_dec (fun _ => ?_) (fun _ => ?_) | refine ex_u8 _ rfl (by omega) (by omega) ?_ | refine ex_i64 _ rfl (by omega) (by omega) ?_ | refine ex_u64 _ rfl (by omega) (by omega) ?_ | refine and_mk (by first | omega | (show drawOk _ _ _ = true; kernel_rfl)) ?_ | refine and_mk ⟨_, rfl⟩ ?_ | refine ex_is _ (List.length_map _) ?_ | refine ex_is _ List.length_nil ?_ | fail "no step")
      exact TLe.rfl
  · rw [if_neg hs]
    refine fn_rule (C := ⟨Tryd.prog, layF, Tryd.f9.ntmps, Γ0, 0, [], []⟩) layF_ok mixed Tryd.func9 rfl (by kernel_rfl) rfl rfl rfl ?_
    repeat' (first | refine ex_true (by first | decide | omega | assumption | (with_reducible exact rfl)) ?_ | refine ex_false (by first | decide | omega | assumption | exact (fun h => h rfl)) ?_ | refine ex_dec (fun _ => ?_) (fun _ => ?_) | refine ex_u8 _ rfl (by omega) (by omega) ?_ | refine ex_i64 _ rfl (by omega) (by omega) ?_ | refine ex_u64 _ rfl (by omega) (by omega) ?_ | refine and_mk (by first | omega | (show drawOk _ _ _ = true; kernel_rfl)) ?_ | refine and_mk ⟨_, rfl⟩ ?_ | refine ex_is _ (List.length_map _) ?_ | refine ex_is _ List.length_nil ?_ | fail "no step")
    exact TLe.nilc
end Go.Proofs.YtokhlojibhegnaaDoor

namespace Go.Proofs.YtokhlojibhegnaaDoor
set_option linter.unusedVariables false
set_option linter.unusedSimpArgs false
open Go.RowKit
set_option maxRecDepth 100000

theorem let_dig (b : UInt8) : (isLet b && isDig b) = false := u8_all (p := fun b => isLet b && isDig b) (q := fun _ => false) (by decide +kernel) b
theorem rname_c (s : List UInt8) (hl : s.length ≤ 281474976710656) : CallsA Tryd.prog Γ0 12 [c1 (ds (bs s))] (Tb (nameF s)) := by
  have hsz := bs_size s
  obtain ⟨N, hN⟩ : ∃ N, nameF s = N := ⟨_, rfl⟩
  rw [hN]
  by_cases hb : 1 ≤ s.length ∧ s.length ≤ 32
  · obtain ⟨h1, h2⟩ := hb
    refine fn_rule (C := ⟨Tryd.prog, layF, Tryd.f12.ntmps, Γ0, 0, [], []⟩) layF_ok mixed Tryd.func12 rfl (by kernel_rfl) rfl rfl rfl ?_
    repeat' (first | refine ex_true (by first | decide | omega | assumption | (with_reducible exact rfl)) ?_ | refine ex_false (by first | decide | omega | assumption | exact (fun h => h rfl)) ?_ | refine ex_dec (fun _ => ?_) (fun _ => ?_) | refine ex_u8 _ rfl (by omega) (by omega) ?_ | refine ex_i64 _ rfl (by omega) (by omega) ?_ | refine ex_u64 _ rfl (by omega) (by omega) ?_ | refine and_mk (by first | omega | (show drawOk _ _ _ = true; kernel_rfl)) ?_ | refine and_mk ⟨_, rfl⟩ ?_ | refine ex_is _ (List.length_map _) ?_ | refine ex_is _ List.length_nil ?_ | fail "no step")
    refine ex_loop (X := Nat) (fun q => ⟨[(0, Tstr (bs s)), (3, Ti q)], [], 0⟩) (fun q => s.length - q) (fun q => q ≤ s.length ∧ (q = 0 ∨ (s.drop q).all alnum = N)) 0 ⟨Nat.zero_le _, .inl rfl⟩ (SLe.of ⟨⟨rfl, rfl, trivial⟩, trivial⟩) ?_
    rintro q ⟨hq, hs⟩
    refine ex_dec (fun h => ?_) (fun h => ?_)
    · have hql : q < s.length := by omega
      have hc : s[q]? = some s[q] := at_some hql
      have hdr := List.drop_eq_getElem_cons hql
      generalize s[q] = c at *
      have hld := let_dig c
      have hdg := rdigit_c c
      have hlt := rletter_c c
      have h0 : q = 0 → N = (alnum c && ((s.drop 1).all alnum) && !isDig c) := fun e => by
        subst e
        rw [List.drop_zero] at hdr
        rw [← hN, hdr]
        show (decide ((c :: s.drop 1).length ≤ 32) && ((c :: s.drop 1).all alnum && !isDig c)) = _
        rw [← hdr, decide_eq_true h2, Bool.true_and, hdr, List.all_cons]
        rfl
      have h3 : q ≠ 0 → N = (alnum c && (s.drop (q + 1)).all alnum) := fun e => by
        rcases hs with hs | hs
        · exact absurd hs e
        · rw [← hs, hdr, List.all_cons]
      have ha : alnum c = (isDig c || isLet c) := rfl
      rw [ha] at h0 h3
      obtain ⟨A1, hA1⟩ : ∃ A, (s.drop 1).all alnum = A := ⟨_, rfl⟩
      obtain ⟨A2, hA2⟩ : ∃ A, (s.drop (q + 1)).all alnum = A := ⟨_, rfl⟩
      have hA : q = 0 → A1 = A2 := fun e => by rw [← hA1, ← hA2, e]
      rw [hA1] at h0
      rw [hA2] at h3
      rcases hD : isDig c with _ | _ <;> rw [hD] at hdg hld h0 h3 <;> rcases hL : isLet c with _ | _ <;> rw [hL] at hlt hld h0 h3 <;> simp at hld h0 h3
      all_goals
        repeat' (first | refine ex_call hlt ?_ | refine ex_call hdg ?_ | refine ex_i64 ((q + 1 : Nat) : Int) (by omega) (by omega) (by omega) ?_ | refine ex_u64 ((q + 1 : Nat) : Int) (by omega) (by omega) (by omega) ?_ | refine ex_u8 ((q + 1 : Nat) : Int) (by omega) (by omega) (by omega) ?_ | refine (ex_chr q c rfl hc) ?_ | refine ex_true (by first | decide | omega | assumption | (with_reducible exact rfl)) ?_ | refine ex_false (by first | decide | omega | assumption | exact (fun h => h rfl)) ?_ | refine ex_dec (fun _ => ?_) (fun _ => ?_) | refine ex_u8 _ rfl (by omega) (by omega) ?_ | refine ex_i64 _ rfl (by omega) (by omega) ?_ | refine ex_u64 _ rfl (by omega) (by omega) ?_ | refine and_mk (by first | omega | (show drawOk _ _ _ = true; kernel_rfl)) ?_ | refine and_mk ⟨_, rfl⟩ ?_ | refine ex_is _ (List.length_map _) ?_ | refine ex_is _ List.length_nil ?_ | fail "no step")
        all_goals first
          | exact ex_round (q + 1) ⟨by omega, .inr (by
              rcases Nat.eq_zero_or_pos q with e | e
              · first | (exfalso; omega) | rw [hA2, h0 e, hA e]
              · rw [hA2, h3 (by omega)])⟩ (by show _ - _ < _ - _; omega) (SLe.of ⟨⟨rfl, rfl, trivial⟩, trivial⟩)
          | exact TLe.eq (congrArg Tb (by
              rcases Nat.eq_zero_or_pos q with e | e
              · first | (exfalso; omega) | rw [h0 e]
              · first | (exfalso; omega) | rw [h3 (by omega)]))
    · rw [List.drop_eq_nil_of_le (by omega)] at hs
      have : N = true := by
        rcases hs with hs | hs
        · omega
        · exact hs.symm
      subst this
      repeat' (first | refine ex_true (by first | decide | omega | assumption | (with_reducible exact rfl)) ?_ | refine ex_false (by first | decide | omega | assumption | exact (fun h => h rfl)) ?_ | refine ex_dec (fun _ => ?_) (fun _ => ?_) | refine ex_u8 _ rfl (by omega) (by omega) ?_ | refine ex_i64 _ rfl (by omega) (by omega) ?_ | refine ex_u64 _ rfl (by omega) (by omega) ?_ | refine and_mk (by first | omega | (show drawOk _ _ _ = true; kernel_rfl)) ?_ | refine and_mk ⟨_, rfl⟩ ?_ | refine ex_is _ (List.length_map _) ?_ | refine ex_is _ List.length_nil ?_ | fail "no step")
      exact TLe.rfl
  · have : N = false := by
      rw [← hN]
      rcases s with _ | ⟨b, x⟩
      · rfl
      · show (decide ((b :: x).length ≤ 32) && _) = false
        rw [decide_eq_false (fun e => hb ⟨by simp, e⟩)]; rfl
    subst this
    refine fn_rule (C := ⟨Tryd.prog, layF, Tryd.f12.ntmps, Γ0, 0, [], []⟩) layF_ok mixed Tryd.func12 rfl (by kernel_rfl) rfl rfl rfl ?_
    repeat' (first | refine ex_true (by first | decide | omega | assumption | (with_reducible exact rfl)) ?_ | refine ex_false (by first | decide | omega | assumption | exact (fun h => h rfl)) ?_ | refine ex_dec (fun _ => ?_) (fun _ => ?_) | refine ex_u8 _ rfl (by omega) (by omega) ?_ | refine ex_i64 _ rfl (by omega) (by omega) ?_ | refine ex_u64 _ rfl (by omega) (by omega) ?_ | refine and_mk (by first | omega | (show drawOk _ _ _ = true; kernel_rfl)) ?_ | refine and_mk ⟨_, rfl⟩ ?_ | refine ex_is _ (List.length_map _) ?_ | refine ex_is _ List.length_nil ?_ | fail "no step")
    all_goals exact TLe.rfl
theorem tailJ_app (a b : List TokP) : tailJ (a ++ b) = tailJ a ++ tailJ b := by unfold tailJ; rw [List.flatMap_append]
theorem joinF_app (us : List TokP) (u : TokP) : joinF (us ++ [u]) = if us = [] then u.t else joinF us ++ 32 :: u.t := by
  unfold joinF
  rw [tailJ_app]
  rcases us with _ | ⟨v, us⟩
  · rw [if_pos rfl]
    show List.drop 1 ([] ++ (32 :: (u.t ++ []))) = u.t
    simp
  · rw [if_neg (by simp)]
    show List.drop 1 (32 :: (v.t ++ tailJ us) ++ (32 :: (u.t ++ []))) = List.drop 1 (32 :: (v.t ++ tailJ us)) ++ 32 :: u.t
    simp
theorem joinF_ne {us : List TokP} (h : ∀ u ∈ us, u.t ≠ []) (h0 : us ≠ []) : joinF us ≠ [] := by
  rcases us with _ | ⟨v, us⟩
  · exact absurd rfl h0
  · show v.t ++ tailJ us ≠ []
    simp [h v (by simp)]
theorem tail_le (a b : List TokP) : (joinF a).length ≤ (tailJ (a ++ b)).length := by
  rw [tailJ_app, List.length_append]
  unfold joinF
  rw [List.length_drop]
  omega
theorem rjoin_c (ts : List TokP) (hl : ts.length ≤ 1000000) (hj : (tailJ (ts.filter real)).length ≤ 1000000000) (hg : ∀ u ∈ ts, real u = true → u.t ≠ []) : CallsA Tryd.prog Γ0 14 [c1 (.sl 5 (ts.map tokD))] (Tstr (bs (joinF (ts.filter real)))) := by
  refine fn_rule (C := ⟨Tryd.prog, layF, Tryd.f14.ntmps, Γ0, 0, [], []⟩) layF_ok mixed Tryd.func14 rfl (by kernel_rfl) rfl rfl rfl ?_
  repeat' (first | refine ex_true (by first | decide | omega | assumption | (with_reducible exact rfl)) ?_ | refine ex_false (by first | decide | omega | assumption | exact (fun h => h rfl)) ?_ | refine ex_dec (fun _ => ?_) (fun _ => ?_) | refine ex_u8 _ rfl (by omega) (by omega) ?_ | refine ex_i64 _ rfl (by omega) (by omega) ?_ | refine ex_u64 _ rfl (by omega) (by omega) ?_ | refine and_mk (by first | omega | (show drawOk _ _ _ = true; kernel_rfl)) ?_ | refine and_mk ⟨_, rfl⟩ ?_ | refine ex_is _ (List.length_map _) ?_ | refine ex_is _ List.length_nil ?_ | fail "no step")
  refine ex_loop (X := Nat × ByteArray) (fun ⟨q, m⟩ => ⟨[(0, .o (c1 (.sl 5 (ts.map tokD)))), (3, Tstr m), (4, Ti q)], [], 0⟩) (fun x => ts.length - x.1)
    (fun ⟨q, m⟩ => q ≤ ts.length ∧ m = bs (joinF ((ts.take q).filter real))) (0, bs []) ⟨Nat.zero_le _, rfl⟩ (SLe.of ⟨⟨rfl, rfl, rfl, trivial⟩, trivial⟩) ?_
  rintro ⟨q, m⟩ ⟨hq, hm⟩
  refine ex_is ts.length (by simp) ?_
  refine ex_dec (fun h => ?_) (fun h => ?_)
  · have hql : q < ts.length := by omega
    have hc : ts[q]? = some ts[q] := at_some hql
    have hmem : ts[q] ∈ ts := List.getElem_mem hql
    have hms : m.size = (joinF ((ts.take q).filter real)).length := by rw [hm, bs_size]
    have h32 : (⟨#[32]⟩ : ByteArray).size = 1 := rfl
    have htk : (ts.take (q + 1)).filter real = (ts.take q).filter real ++ [ts[q]].filter real := by rw [List.take_add_one, hc, List.filter_append]; rfl
    have hle : (joinF ((ts.take (q + 1)).filter real)).length ≤ 1000000000 := by
      have := tail_le ((ts.take (q + 1)).filter real) ((ts.drop (q + 1)).filter real)
      rw [← List.filter_append, List.take_append_drop] at this
      omega
    have hne : (ts.take q).filter real ≠ [] → m ≠ ByteArray.empty := fun h => by
      rw [hm]
      exact size_pos (joinF_ne (fun u hu => by
        have := List.mem_filter.1 hu
        exact hg u (List.mem_of_mem_take this.1) this.2) h)
    generalize ts[q] = u at *
    have hus := bs_size u.t
    rcases hr : real u with _ | _
    · have hk : u.k = 3 := by simpa [real] using hr
      repeat' (first | refine ex_i64 ((q + 1 : Nat) : Int) (by omega) (by omega) (by omega) ?_ | refine ex_u64 ((q + 1 : Nat) : Int) (by omega) (by omega) (by omega) ?_ | refine ex_u8 ((q + 1 : Nat) : Int) (by omega) (by omega) (by omega) ?_ | refine (ex_row q u rfl hc) ?_ | refine ex_true (by first | decide | omega | assumption | (with_reducible exact rfl)) ?_ | refine ex_false (by first | decide | omega | assumption | exact (fun h => h rfl)) ?_ | refine ex_dec (fun _ => ?_) (fun _ => ?_) | refine ex_u8 _ rfl (by omega) (by omega) ?_ | refine ex_i64 _ rfl (by omega) (by omega) ?_ | refine ex_u64 _ rfl (by omega) (by omega) ?_ | refine and_mk (by first | omega | (show drawOk _ _ _ = true; kernel_rfl)) ?_ | refine and_mk ⟨_, rfl⟩ ?_ | refine ex_is _ (List.length_map _) ?_ | refine ex_is _ List.length_nil ?_ | fail "no step")
      exact ex_round (q + 1, m) ⟨by omega, by rw [htk, List.filter_cons, hr, hm]; simp⟩ (by show _ - _ < _ - _; omega) (SLe.of ⟨⟨rfl, rfl, rfl, trivial⟩, trivial⟩)
    · have hk : u.k ≠ 3 := by simpa [real] using hr
      have hnx : joinF ((ts.take (q + 1)).filter real) = joinF ((ts.take q).filter real ++ [u]) := by rw [htk, List.filter_cons, hr]; rfl
      rw [hnx, joinF_app] at hle
      rw [joinF_app] at hnx
      by_cases h0 : (ts.take q).filter real = []
      · rw [if_pos h0] at hle hnx
        have hm0 : m = bs [] := by rw [hm, h0]; rfl
        rw [h0, show (joinF []).length = 0 from rfl] at hms
        subst hm0
        repeat' (first | refine ex_i64 ((q + 1 : Nat) : Int) (by omega) (by omega) (by omega) ?_ | refine ex_u64 ((q + 1 : Nat) : Int) (by omega) (by omega) (by omega) ?_ | refine ex_u8 ((q + 1 : Nat) : Int) (by omega) (by omega) (by omega) ?_ | refine (ex_row q u rfl hc) ?_ | refine ex_true (by first | decide | omega | assumption | (with_reducible exact rfl)) ?_ | refine ex_false (by first | decide | omega | assumption | exact (fun h => h rfl)) ?_ | refine ex_dec (fun _ => ?_) (fun _ => ?_) | refine ex_u8 _ rfl (by omega) (by omega) ?_ | refine ex_i64 _ rfl (by omega) (by omega) ?_ | refine ex_u64 _ rfl (by omega) (by omega) ?_ | refine and_mk (by first | omega | (show drawOk _ _ _ = true; kernel_rfl)) ?_ | refine and_mk ⟨_, rfl⟩ ?_ | refine ex_is _ (List.length_map _) ?_ | refine ex_is _ List.length_nil ?_ | fail "no step")
        exact ex_round (q + 1, bs [] ++ bs u.t) ⟨by omega, by rw [hnx, bs_app]; rfl⟩ (by show _ - _ < _ - _; omega) (SLe.of ⟨⟨rfl, rfl, rfl, trivial⟩, trivial⟩)
      · rw [if_neg h0] at hle hnx
        have hmn := hne h0
        rw [List.length_append, List.length_cons] at hle
        have hsp : (m ++ ⟨#[32]⟩).size = m.size + 1 := by rw [ByteArray.size_append]; rfl
        repeat' (first | refine ex_i64 ((q + 1 : Nat) : Int) (by omega) (by omega) (by omega) ?_ | refine ex_u64 ((q + 1 : Nat) : Int) (by omega) (by omega) (by omega) ?_ | refine ex_u8 ((q + 1 : Nat) : Int) (by omega) (by omega) (by omega) ?_ | refine (ex_row q u rfl hc) ?_ | refine ex_true (by first | decide | omega | assumption | (with_reducible exact rfl)) ?_ | refine ex_false (by first | decide | omega | assumption | exact (fun h => h rfl)) ?_ | refine ex_dec (fun _ => ?_) (fun _ => ?_) | refine ex_u8 _ rfl (by omega) (by omega) ?_ | refine ex_i64 _ rfl (by omega) (by omega) ?_ | refine ex_u64 _ rfl (by omega) (by omega) ?_ | refine and_mk (by first | omega | (show drawOk _ _ _ = true; kernel_rfl)) ?_ | refine and_mk ⟨_, rfl⟩ ?_ | refine ex_is _ (List.length_map _) ?_ | refine ex_is _ List.length_nil ?_ | fail "no step")
        all_goals first
          | exact absurd ‹_› hmn
          | exact ex_round (q + 1, m ++ ⟨#[32]⟩ ++ bs u.t) ⟨by omega, by rw [hnx, hm, show (⟨#[32]⟩ : ByteArray) = bs [32] from rfl, bs_app, bs_app, List.append_assoc]; rfl⟩ (by show _ - _ < _ - _; omega) (SLe.of ⟨⟨rfl, rfl, rfl, trivial⟩, trivial⟩)
  · have hq' : q = ts.length := by omega
    subst hq'
    rw [List.take_length] at hm
    subst hm
    repeat' (first | refine ex_true (by first | decide | omega | assumption | (with_reducible exact rfl)) ?_ | refine ex_false (by first | decide | omega | assumption | exact (fun h => h rfl)) ?_ | refine ex_dec (fun _ => ?_) (fun _ => ?_) | refine ex_u8 _ rfl (by omega) (by omega) ?_ | refine ex_i64 _ rfl (by omega) (by omega) ?_ | refine ex_u64 _ rfl (by omega) (by omega) ?_ | refine and_mk (by first | omega | (show drawOk _ _ _ = true; kernel_rfl)) ?_ | refine and_mk ⟨_, rfl⟩ ?_ | refine ex_is _ (List.length_map _) ?_ | refine ex_is _ List.length_nil ?_ | fail "no step")
    exact TLe.rfl
end Go.Proofs.YtokhlojibhegnaaDoor

namespace Go.Proofs.YtokhlojibhegnaaDoor
set_option linter.unusedVariables false
set_option linter.unusedSimpArgs false
open Go.RowKit
set_option maxRecDepth 100000
section
variable {P : Program}
def EqT (P : Program) (d : Nat) (t : TypeId) (x y : Value) (c : Bool) : Prop := ∀ w, (Op.equalIn d t x y).run P w = .ok c w
def EqFs (P : Program) (d : Nat) (xs ys : List Value) (fs : List Field) (c : Bool) : Prop := ∀ w, (Op.eqFields d xs.toArray ys.toArray fs).run P w = .ok c w
def PartI (P : Program) (t : TypeId) (xs : List Value) (off : Nat) (x : Value) : Prop := ∀ w, (part t xs.toArray off).run P w = .ok x w
theorem EqT.int {d : Nat} {t : TypeId} {k k' : IntKind} {a b : Int} (h : P.underlying t = some (.int k')) : EqT P (d + 1) t (.int k a) (.int k b) (decide (a = b)) := fun w => by
  rw [run_equalIn_int w d t k k' a b h]
  rfl
theorem EqT.str {d : Nat} {t : TypeId} {a b : ByteArray} (h : P.underlying t = some .string) : EqT P (d + 1) t (.string a) (.string b) (decide (a = b)) := fun w => by
  rw [run_equalIn_string w d t a b h, bytes_eq]
theorem EqT.bool {d : Nat} {t : TypeId} {a b : Bool} (h : P.underlying t = some .bool) : EqT P (d + 1) t (.bool a) (.bool b) (decide (a = b)) := fun w => by
  rw [run_equalIn_bool' w d t a b h]
  cases a <;> cases b <;> rfl
theorem EqT.st {d : Nat} {t : TypeId} {fs : Array Field} {xs ys : List Value} {c : Bool} (hu : P.underlying t = some (.struct fs)) (hp : P.stoodInHeld t = false) (h : EqFs P d xs ys fs.toList c) : EqT P (d + 1) t (.agg xs.toArray) (.agg ys.toArray) c := fun w => by
  have hf : P.fieldsOf t = fs := by unfold Program.fieldsOf; rw [hu]
  rw [run_equalIn_struct w d t _ _ (by rw [hf]; exact hu) hp, hf]
  exact h w
/-- A struct's fields: is it named? its type, its place. -/
def fieldsK (P : Program) (t : TypeId) : List (Bool × Nat × Nat) := (P.fieldsOf t).toList.map fun f => (f.name != "_", f.type, f.offset)
def EqKs (P : Program) (d : Nat) (xs ys : List Value) (ks : List (Bool × Nat × Nat)) (c : Bool) : Prop := ∀ fs : List Field, fs.map (fun f => (f.name != "_", f.type, f.offset)) = ks → EqFs P d xs ys fs c
theorem EqT.stk {d : Nat} {t : TypeId} {xs ys : List Value} {c : Bool} (ks : List (Bool × Nat × Nat)) (hk : fieldsK P t = ks) (hs : (match P.underlying t with | some (.struct _) => true | _ => false) = true) (hp : P.stoodInHeld t = false) (h : EqKs P d xs ys ks c) : EqT P (d + 1) t (.agg xs.toArray) (.agg ys.toArray) c := by
  split at hs
  · rename_i fs hu
    refine EqT.st hu hp (h _ ?_)
    have hf : P.fieldsOf t = fs := by unfold Program.fieldsOf; rw [hu]
    rw [← hk, ← hf]; rfl
  · cases hs
theorem EqKs.nil {d : Nat} {xs ys : List Value} : EqKs P d xs ys [] true := fun fs h => by
  rw [List.map_eq_nil_iff] at h
  subst h
  exact fun w => rfl
theorem EqFs.cons {d : Nat} {xs ys : List Value} {f : Field} {fs : List Field} {x y : Value} {b c : Bool} (hn : (f.name != "_") = true) (hx : PartI P f.type xs f.offset x) (hy : PartI P f.type ys f.offset y) (h1 : EqT P d f.type x y b) (h2 : EqFs P d xs ys fs c) : EqFs P d xs ys (f :: fs) (b && c) := fun w => by
  have hn' : f.name ≠ "_" := by simpa using hn
  rw [Op.eqFields, if_pos hn']
  simp only [Sem.run_bind]
  rw [hx w, Result.andThen_ok, hy w, Result.andThen_ok, h1 w, Result.andThen_ok]
  cases b
  · simp
  · simp only [Bool.not_true, Bool.false_eq_true, if_false, Bool.true_and]
    exact h2 w
theorem EqKs.cons {d t off : Nat} {xs ys : List Value} {ks : List (Bool × Nat × Nat)} {x y : Value} {b c : Bool} (hx : PartI P t xs off x) (hy : PartI P t ys off y) (h1 : EqT P d t x y b) (h2 : EqKs P d xs ys ks c) : EqKs P d xs ys ((true, t, off) :: ks) (b && c) := fun fs h => by
  rcases fs with _ | ⟨f, fs⟩
  · cases h
  · rw [List.map_cons] at h
    injection h with e h
    injection e with e1 e
    injection e with e2 e3
    subst e2
    subst e3
    exact EqFs.cons e1 hx hy h1 (h2 fs h)
def isAggB (P : Program) (t : TypeId) : Bool := match P.underlying t with
  | some (.struct _) | some (.array _ _) => true
  | _ => false
theorem PartI.one {t : TypeId} {xs : List Value} {off : Nat} {x : Value} {dsc : TypeDesc} (hu : P.underlying t = some dsc) (ha : isAggB P t = false) (hx : xs[off]? = some x) : PartI P t xs off x := fun w => by
  unfold isAggB at ha
  rw [hu] at ha
  unfold part isAgg
  simp only [Sem.run_bind, run_underlying hu, Result.andThen_ok]
  cases dsc <;> first | (cases ha; done) | (simp [hx]; done)
theorem PartI.agg {t : TypeId} {xs : List Value} {off n : Nat} {ys : List Value} {dsc : TypeDesc} {i : TypeInfo} (hu : P.underlying t = some dsc) (ha : isAggB P t = true) (hi : P.info? t = some i) (hn : i.size = n) (hx : (xs.drop off).take n = ys) : PartI P t xs off (.agg ys.toArray) := fun w => by
  unfold isAggB at ha
  rw [hu] at ha
  have h1 : ∀ w, (isAgg t).run P w = .ok true w := fun w => by
    unfold isAgg
    simp only [Sem.run_bind, run_underlying hu, Result.andThen_ok]
    cases dsc <;> first | (cases ha; done) | rfl
  have h2 : ∀ w, (sizeOf t).run P w = .ok n w := fun w => by
    unfold sizeOf
    simp [typeInfo, hi, hn]
  unfold part
  simp only [Sem.run_bind, h1, h2, Result.andThen_ok, if_true]
  rw [← hx]
  simp [List.extract_eq_take_drop]
end
/-- The equality of two structs of the program, cell by cell. -/
theorem eqPos (a b c d : Int) (n : Nat) : EqT Tryd.prog (n + 2) 24 (.agg #[.int .i64 a, .int .i64 b]) (.agg #[.int .i64 c, .int .i64 d]) (decide (a = c) && (decide (b = d) && true)) :=
  EqT.stk (xs := [.int .i64 a, .int .i64 b]) (ys := [.int .i64 c, .int .i64 d]) [(true, 3, 0), (true, 3, 1)] (by kernel_rfl) (by kernel_rfl) (by kernel_rfl)
    (EqKs.cons (PartI.one rfl (by kernel_rfl) rfl) (PartI.one rfl (by kernel_rfl) rfl) (EqT.int rfl) (EqKs.cons (PartI.one rfl (by kernel_rfl) rfl) (PartI.one rfl (by kernel_rfl) rfl) (EqT.int rfl) EqKs.nil))
theorem eqTok (k u v k' u' v' n n' : Int) (s s' : ByteArray) (d : Nat) : EqT Tryd.prog (d + 3) 36 (.agg #[.int .i64 k, .string s, .int .u64 n, .int .i64 u, .int .i64 v]) (.agg #[.int .i64 k', .string s', .int .u64 n', .int .i64 u', .int .i64 v']) (decide (k = k') && (decide (s = s') && (decide (n = n') && ((decide (u = u') && (decide (v = v') && true)) && true)))) :=
  EqT.stk (xs := [.int .i64 k, .string s, .int .u64 n, .int .i64 u, .int .i64 v]) (ys := [.int .i64 k', .string s', .int .u64 n', .int .i64 u', .int .i64 v']) [(true, 33, 0), (true, 9, 1), (true, 34, 2), (true, 24, 3)] (by kernel_rfl) (by kernel_rfl) (by kernel_rfl)
    (EqKs.cons (PartI.one rfl (by kernel_rfl) rfl) (PartI.one rfl (by kernel_rfl) rfl) (EqT.int rfl) (EqKs.cons (PartI.one rfl (by kernel_rfl) rfl) (PartI.one rfl (by kernel_rfl) rfl) (EqT.str rfl) (EqKs.cons (PartI.one rfl (by kernel_rfl) rfl) (PartI.one rfl (by kernel_rfl) rfl) (EqT.int rfl)
      (EqKs.cons (PartI.agg rfl (by kernel_rfl) rfl rfl rfl) (PartI.agg rfl (by kernel_rfl) rfl rfl rfl) (eqPos u v u' v' d) EqKs.nil))))
theorem ex_agg {g : Prop} {Q K : Bool → Prop} (hg : g) (c : Bool) (he : Q c) (h : K c) : g ∧ ∃ c, Q c ∧ K c := ⟨hg, c, he, h⟩
theorem eqPosT (a b : Int) : ∀ w, (Op.equal 24 (.agg [.int .i64 a, .int .i64 b].toArray) (.agg [.int .i64 a, .int .i64 b].toArray)).run Tryd.prog w = .ok true w := fun w => by
  have h := eqPos a b a b 9998 w
  rw [decide_eq_true rfl, decide_eq_true rfl] at h
  exact h
theorem eqTokT (k u v n : Int) (s : ByteArray) : ∀ w, (Op.equal 36 (.agg [.int .i64 k, .string s, .int .u64 n, .int .i64 u, .int .i64 v].toArray) (.agg [.int .i64 k, .string s, .int .u64 n, .int .i64 u, .int .i64 v].toArray)).run Tryd.prog w = .ok true w := fun w => by
  have h := eqTok k u v k u v n n s s 9997 w
  rw [decide_eq_true rfl, decide_eq_true rfl, decide_eq_true rfl, decide_eq_true rfl, decide_eq_true rfl] at h
  exact h
end Go.Proofs.YtokhlojibhegnaaDoor
