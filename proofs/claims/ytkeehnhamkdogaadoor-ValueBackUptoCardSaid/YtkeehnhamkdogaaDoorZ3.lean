/- Texts that the last one leans on: The types' table of this program, as literals. No condition. Rules for walking code over the abstract state. No condition. strconv.FormatUint at base 10 (the shelf's FormatInt turned), strings.IndexByte, strconv.ParseUint as contracts over data; what is known of the program's variables. Conditions: FormatUint: a uint64; ParseUint: at most 2^48 bytes. General lemmas that this repo's proofs share: the class of worlds that extend a world, a region that draws its order walked once in that class, small closers. No condition. strings.Builder: copyCheck, WriteString, WriteByte, String, over objects. Conditions: at most 2^47 bytes; String: at least one. strings.Builder: WriteByte, String; value.write and Text over data. Conditions: at most 2^47 bytes; of each number in it, what FormatUint gives. Values as data; what makes them. No condition. Values: same, Equal, lean, count, Good. Condition: a value is made of at most 2^62 ones. value.write and Text over data. Conditions: at most 2^46 bytes; of each number in it, what FormatUint gives. The parser's small functions over its object. Conditions: at most 2^24 bytes; the place within the signs. The parser's digit, bytes and number. Conditions: as in P1. The parser's list and value. Conditions: as in P1; at most 1200 lists in one another. The parser's value. Conditions: as in P1; at most 1200 lists in one another. A function whose one deferred closure recovers. No condition. Parse's deferred closure, and P -/
import Derived.Test.YtkeehnhamkdogaaDoorRows
import Derived.Lib.AppendIntMem
import Derived.WalkKit
import Derived.WalkSpells
import Derived.WalkLawsBesides
import Derived.BigQuiet
import Derived.Lib.Hide
import Derived.Handy
import Derived.StillTail
import Derived.Lib.ConvBytes
import Derived.Lib.Builder
import Derived.Lib.ItoaNum
import Derived.Lib.IndexAny
import Derived.Defers
import Derived.Recover
import Derived.Test.YtkeehnhamkdogaaDoorZ1
import Derived.Test.YtkeehnhamkdogaaDoorZ2
namespace Go.Proofs.YtkeehnhamkdogaaDoor
set_option linter.unusedVariables false
set_option linter.unusedSimpArgs false

def lay : List (Nat × Lay) := [
  (1, ⟨1, 8, [.nilFunc], .other⟩),
  (2, ⟨1, 8, [.int .i64 0], .int .i64⟩),
  (3, ⟨1, 8, [.int .i64 0], .int .i64⟩),
  (4, ⟨1, 1, [.bool false], .bool⟩),
  (5, ⟨1, 1, [.int .u8 0], .int .u8⟩),
  (6, ⟨1, 1, [.int .u8 0], .int .u8⟩),
  (7, ⟨4, 24, [.int .i64 0, .int .i64 0, .bool false, .int .u8 0], .st [(0, 1, false), (1, 1, false), (2, 1, false), (3, 1, false)]⟩),
  (8, ⟨4, 24, [.int .i64 0, .int .i64 0, .bool false, .int .u8 0], .st [(0, 1, false), (1, 1, false), (2, 1, false), (3, 1, false)]⟩),
  (9, ⟨1, 16, [.string ⟨#[]⟩], .str⟩),
  (10, ⟨1, 16, [.string ⟨#[]⟩], .str⟩),
  (11, ⟨1, 16, [.string ⟨#[]⟩], .str⟩),
  (12, ⟨1, 8, [.int .u64 0], .int .u64⟩),
  (13, ⟨2, 24, [.string ⟨#[]⟩, .int .u64 0], .st [(0, 1, false), (1, 1, false)]⟩),
  (14, ⟨2, 24, [.string ⟨#[]⟩, .int .u64 0], .st [(0, 1, false), (1, 1, false)]⟩),
  (15, ⟨1, 8, [.pointer none], .other⟩),
  (16, ⟨1, 8, [.pointer none], .other⟩),
  (17, ⟨1, 8, [.pointer none], .other⟩),
  (18, ⟨1, 8, [.pointer none], .st [(0, 1, false)]⟩),
  (19, ⟨1, 8, [.pointer none], .st [(0, 1, false)]⟩),
  (20, ⟨1, 16, [.nilIface], .other⟩),
  (21, ⟨1, 4, [.int .i32 0], .int .i32⟩),
  (22, ⟨1, 24, [.slice none 0 0], .sl 93⟩),
  (23, ⟨1, 8, [.int .i64 0], .int .i64⟩),
  (24, ⟨1, 8, [.int .u64 0], .int .u64⟩),
  (25, ⟨1, 24, [.slice none 0 0], .sl 27⟩),
  (26, ⟨4, 56, [.int .i64 0, .int .u64 0, .string ⟨#[]⟩, .slice none 0 0], .st [(0, 1, false), (1, 1, false), (2, 1, false), (3, 1, false)]⟩),
  (27, ⟨4, 56, [.int .i64 0, .int .u64 0, .string ⟨#[]⟩, .slice none 0 0], .st [(0, 1, false), (1, 1, false), (2, 1, false), (3, 1, false)]⟩),
  (28, ⟨1, 24, [.slice none 0 0], .sl 30⟩),
  (29, ⟨4, 56, [.int .i64 0, .int .u64 0, .string ⟨#[]⟩, .slice none 0 0], .st [(0, 1, false), (1, 1, false), (2, 1, false), (3, 1, false)]⟩),
  (30, ⟨4, 56, [.int .i64 0, .int .u64 0, .string ⟨#[]⟩, .slice none 0 0], .st [(0, 1, false), (1, 1, false), (2, 1, false), (3, 1, false)]⟩),
  (32, ⟨1, 8, [.nilFunc], .other⟩),
  (33, ⟨1, 8, [.nilFunc], .other⟩),
  (34, ⟨1, 8, [.nilFunc], .other⟩),
  (35, ⟨1, 8, [.nilFunc], .other⟩),
  (36, ⟨1, 8, [.nilFunc], .other⟩),
  (37, ⟨1, 8, [.nilFunc], .other⟩),
  (38, ⟨1, 8, [.nilFunc], .other⟩),
  (39, ⟨1, 8, [.nilFunc], .other⟩),
  (40, ⟨1, 8, [.int .i64 0], .int .i64⟩),
  (42, ⟨1, 8, [.nilFunc], .other⟩),
  (44, ⟨1, 8, [.nilFunc], .other⟩),
  (45, ⟨1, 8, [.nilFunc], .other⟩),
  (46, ⟨1, 8, [.nilFunc], .other⟩),
  (47, ⟨1, 8, [.nilFunc], .other⟩),
  (48, ⟨1, 8, [.nilFunc], .other⟩),
  (49, ⟨1, 8, [.nilFunc], .other⟩),
  (50, ⟨1, 24, [.slice none 0 0], .sl 9⟩),
  (51, ⟨1, 8, [.nilFunc], .other⟩),
  (52, ⟨1, 8, [.nilFunc], .other⟩),
  (53, ⟨1, 2, [.int .u16 0], .int .u16⟩),
  (54, ⟨1, 8, [.nilFunc], .other⟩),
  (55, ⟨1, 8, [.nilFunc], .other⟩),
  (56, ⟨1, 8, [.nilFunc], .other⟩),
  (57, ⟨1, 8, [.nilFunc], .other⟩),
  (58, ⟨1, 24, [.slice none 0 0], .sl 4⟩),
  (59, ⟨1, 8, [.nilFunc], .other⟩),
  (60, ⟨1, 8, [.nilFunc], .other⟩),
  (61, ⟨1, 8, [.nilFunc], .other⟩),
  (62, ⟨1, 8, [.pointer none], .other⟩),
  (63, ⟨1, 24, [.slice none 0 0], .sl 5⟩),
  (64, ⟨2, 32, [.pointer none, .slice none 0 0], .st [(0, 1, false), (1, 1, false)]⟩),
  (65, ⟨2, 32, [.pointer none, .slice none 0 0], .st [(0, 1, false), (1, 1, false)]⟩),
  (66, ⟨1, 8, [.nilFunc], .other⟩),
  (67, ⟨1, 8, [.nilFunc], .other⟩),
  (68, ⟨1, 8, [.pointer none], .other⟩),
  (69, ⟨2, 24, [.string ⟨#[]⟩, .int .i64 0], .st [(0, 1, false), (1, 1, false)]⟩),
  (70, ⟨2, 24, [.string ⟨#[]⟩, .int .i64 0], .st [(0, 1, false), (1, 1, false)]⟩),
  (71, ⟨2, 16, [.int .i64 0, .int .i64 0], .st [(0, 1, false), (1, 1, false)]⟩),
  (72, ⟨2, 16, [.int .i64 0, .int .i64 0], .st [(0, 1, false), (1, 1, false)]⟩),
  (73, ⟨1, 8, [.nilFunc], .other⟩),
  (74, ⟨1, 8, [.nilFunc], .other⟩),
  (75, ⟨1, 8, [.pointer none], .other⟩),
  (76, ⟨4, 40, [.string ⟨#[]⟩, .int .i64 0, .int .i64 0, .int .i64 0], .st [(0, 1, false), (1, 1, false), (2, 1, false), (3, 1, false)]⟩),
  (77, ⟨4, 40, [.string ⟨#[]⟩, .int .i64 0, .int .i64 0, .int .i64 0], .st [(0, 1, false), (1, 1, false), (2, 1, false), (3, 1, false)]⟩),
  (78, ⟨1, 8, [.nilFunc], .other⟩),
  (79, ⟨1, 8, [.nilFunc], .other⟩),
  (80, ⟨1, 8, [.nilFunc], .other⟩),
  (81, ⟨1, 8, [.nilFunc], .other⟩),
  (82, ⟨1, 16, [.nilIface], .other⟩),
  (83, ⟨1, 16, [.nilIface], .other⟩),
  (85, ⟨1, 8, [.nilFunc], .other⟩),
  (86, ⟨1, 8, [.int .u64 0], .int .u64⟩),
  (88, ⟨1, 8, [.nilFunc], .other⟩),
  (89, ⟨1, 8, [.nilFunc], .other⟩),
  (90, ⟨1, 8, [.nilFunc], .other⟩),
  (91, ⟨1, 24, [.slice none 0 0], .sl 3⟩),
  (92, ⟨4, 56, [.int .i64 0, .int .u64 0, .string ⟨#[]⟩, .slice none 0 0], .st [(0, 1, false), (1, 1, false), (2, 1, false), (3, 1, false)]⟩),
  (93, ⟨4, 56, [.int .i64 0, .int .u64 0, .string ⟨#[]⟩, .slice none 0 0], .st [(0, 1, false), (1, 1, false), (2, 1, false), (3, 1, false)]⟩),
  (94, ⟨1, 8, [.nilFunc], .other⟩),
  (95, ⟨1, 8, [.nilFunc], .other⟩),
  (96, ⟨1, 8, [.nilFunc], .other⟩),
  (97, ⟨1, 8, [.pointer none], .other⟩),
  (98, ⟨1, 8, [.nilFunc], .other⟩),
  (99, ⟨1, 8, [.nilFunc], .other⟩),
  (100, ⟨1, 8, [.nilFunc], .other⟩),
  (101, ⟨1, 8, [.nilFunc], .other⟩),
  (102, ⟨1, 8, [.nilFunc], .other⟩),
  (103, ⟨1, 8, [.nilFunc], .other⟩),
  (104, ⟨1, 4, [.int .u32 0], .int .u32⟩),
  (106, ⟨1, 8, [.nilFunc], .other⟩),
  (108, ⟨1, 8, [.nilFunc], .other⟩),
  (109, ⟨1, 8, [.nilFunc], .other⟩),
  (111, ⟨1, 8, [.nilFunc], .other⟩),
  (113, ⟨1, 8, [.nilFunc], .other⟩),
  (114, ⟨1, 8, [.nilFunc], .other⟩),
  (115, ⟨1, 8, [.pointer none], .other⟩),
  (116, ⟨1, 8, [.nilFunc], .other⟩),
  (117, ⟨1, 8, [.nilFunc], .other⟩),
  (118, ⟨1, 8, [.nilFunc], .other⟩),
  (119, ⟨1, 8, [.nilFunc], .other⟩),
  (120, ⟨24, 24, [.int .u8 0, .int .u8 0, .int .u8 0, .int .u8 0, .int .u8 0, .int .u8 0, .int .u8 0, .int .u8 0, .int .u8 0, .int .u8 0, .int .u8 0, .int .u8 0, .int .u8 0, .int .u8 0, .int .u8 0, .int .u8 0, .int .u8 0, .int .u8 0, .int .u8 0, .int .u8 0, .int .u8 0, .int .u8 0, .int .u8 0, .int .u8 0], .arr 24 5⟩),
  (121, ⟨1, 8, [.nilFunc], .other⟩),
  (122, ⟨1, 8, [.nilFunc], .other⟩),
  (124, ⟨1, 8, [.nilFunc], .other⟩),
  (125, ⟨1, 8, [.nilFunc], .other⟩),
  (127, ⟨2, 2, [.int .u8 0, .int .u8 0], .st [(0, 1, false), (1, 1, false)]⟩),
  (128, ⟨2, 2, [.int .u8 0, .int .u8 0], .st [(0, 1, false), (1, 1, false)]⟩),
  (129, ⟨32, 32, [.int .u8 0, .int .u8 0, .int .u8 0, .int .u8 0, .int .u8 0, .int .u8 0, .int .u8 0, .int .u8 0, .int .u8 0, .int .u8 0, .int .u8 0, .int .u8 0, .int .u8 0, .int .u8 0, .int .u8 0, .int .u8 0, .int .u8 0, .int .u8 0, .int .u8 0, .int .u8 0, .int .u8 0, .int .u8 0, .int .u8 0, .int .u8 0, .int .u8 0, .int .u8 0, .int .u8 0, .int .u8 0, .int .u8 0, .int .u8 0, .int .u8 0, .int .u8 0], .arr 16 128⟩),
  (130, ⟨1, 8, [.nilFunc], .other⟩),
  (131, ⟨20, 160, [.int .u64 0, .int .u64 0, .int .u64 0, .int .u64 0, .int .u64 0, .int .u64 0, .int .u64 0, .int .u64 0, .int .u64 0, .int .u64 0, .int .u64 0, .int .u64 0, .int .u64 0, .int .u64 0, .int .u64 0, .int .u64 0, .int .u64 0, .int .u64 0, .int .u64 0, .int .u64 0], .arr 20 24⟩),
  (132, ⟨65, 65, [.int .u8 0, .int .u8 0, .int .u8 0, .int .u8 0, .int .u8 0, .int .u8 0, .int .u8 0, .int .u8 0, .int .u8 0, .int .u8 0, .int .u8 0, .int .u8 0, .int .u8 0, .int .u8 0, .int .u8 0, .int .u8 0, .int .u8 0, .int .u8 0, .int .u8 0, .int .u8 0, .int .u8 0, .int .u8 0, .int .u8 0, .int .u8 0, .int .u8 0, .int .u8 0, .int .u8 0, .int .u8 0, .int .u8 0, .int .u8 0, .int .u8 0, .int .u8 0, .int .u8 0, .int .u8 0, .int .u8 0, .int .u8 0, .int .u8 0, .int .u8 0, .int .u8 0, .int .u8 0, .int .u8 0, .int .u8 0, .int .u8 0, .int .u8 0, .int .u8 0, .int .u8 0, .int .u8 0, .int .u8 0, .int .u8 0, .int .u8 0, .int .u8 0, .int .u8 0, .int .u8 0, .int .u8 0, .int .u8 0, .int .u8 0, .int .u8 0, .int .u8 0, .int .u8 0, .int .u8 0, .int .u8 0, .int .u8 0, .int .u8 0, .int .u8 0, .int .u8 0], .arr 65 5⟩),
  (133, ⟨1, 8, [.nilFunc], .other⟩),
  (134, ⟨1, 8, [.nilFunc], .other⟩),
  (135, ⟨1, 8, [.int .i64 0], .int .i64⟩),
  (136, ⟨1, 8, [.nilFunc], .other⟩),
  (137, ⟨1, 8, [.pointer none], .other⟩),
  (138, ⟨1, 8, [.nilFunc], .other⟩),
  (139, ⟨1, 8, [.nilFunc], .other⟩),
  (140, ⟨1, 8, [.nilFunc], .other⟩),
  (141, ⟨1, 8, [.nilFunc], .other⟩),
  (142, ⟨1, 8, [.nilFunc], .other⟩),
  (143, ⟨3, 48, [.string ⟨#[]⟩, .string ⟨#[]⟩, .nilIface], .st [(0, 1, false), (1, 1, false), (2, 1, false)]⟩),
  (144, ⟨3, 48, [.string ⟨#[]⟩, .string ⟨#[]⟩, .nilIface], .st [(0, 1, false), (1, 1, false), (2, 1, false)]⟩),
  (145, ⟨1, 8, [.nilFunc], .other⟩),
  (146, ⟨32, 32, [.int .u8 0, .int .u8 0, .int .u8 0, .int .u8 0, .int .u8 0, .int .u8 0, .int .u8 0, .int .u8 0, .int .u8 0, .int .u8 0, .int .u8 0, .int .u8 0, .int .u8 0, .int .u8 0, .int .u8 0, .int .u8 0, .int .u8 0, .int .u8 0, .int .u8 0, .int .u8 0, .int .u8 0, .int .u8 0, .int .u8 0, .int .u8 0, .int .u8 0, .int .u8 0, .int .u8 0, .int .u8 0, .int .u8 0, .int .u8 0, .int .u8 0, .int .u8 0], .arr 32 5⟩),
  (147, ⟨64, 64, [.int .u8 0, .int .u8 0, .int .u8 0, .int .u8 0, .int .u8 0, .int .u8 0, .int .u8 0, .int .u8 0, .int .u8 0, .int .u8 0, .int .u8 0, .int .u8 0, .int .u8 0, .int .u8 0, .int .u8 0, .int .u8 0, .int .u8 0, .int .u8 0, .int .u8 0, .int .u8 0, .int .u8 0, .int .u8 0, .int .u8 0, .int .u8 0, .int .u8 0, .int .u8 0, .int .u8 0, .int .u8 0, .int .u8 0, .int .u8 0, .int .u8 0, .int .u8 0, .int .u8 0, .int .u8 0, .int .u8 0, .int .u8 0, .int .u8 0, .int .u8 0, .int .u8 0, .int .u8 0, .int .u8 0, .int .u8 0, .int .u8 0, .int .u8 0, .int .u8 0, .int .u8 0, .int .u8 0, .int .u8 0, .int .u8 0, .int .u8 0, .int .u8 0, .int .u8 0, .int .u8 0, .int .u8 0, .int .u8 0, .int .u8 0, .int .u8 0, .int .u8 0, .int .u8 0, .int .u8 0, .int .u8 0, .int .u8 0, .int .u8 0, .int .u8 0], .arr 64 5⟩),
  (148, ⟨1, 8, [.pointer none], .other⟩),
  (149, ⟨1, 16, [.string ⟨#[]⟩], .st [(0, 1, false)]⟩),
  (150, ⟨1, 16, [.string ⟨#[]⟩], .st [(0, 1, false)]⟩),
  (151, ⟨1, 8, [.nilFunc], .other⟩),
  (152, ⟨4, 40, [.pointer none, .pointer none, .pointer none, .string ⟨#[]⟩], .st [(0, 1, false), (1, 1, false), (2, 1, false), (3, 1, false)]⟩),
  (153, ⟨4, 40, [.pointer none, .pointer none, .pointer none, .string ⟨#[]⟩], .st [(0, 1, false), (1, 1, false), (2, 1, false), (3, 1, false)]⟩),
  (154, ⟨0, 0, [], .arr 0 16⟩),
  (155, ⟨0, 0, [], .st [(0, 0, true)]⟩),
  (156, ⟨0, 0, [], .st [(0, 0, true)]⟩),
  (157, ⟨1, 1, [.int .u8 0], .int .u8⟩),
  (158, ⟨1, 1, [.int .u8 0], .int .u8⟩),
  (159, ⟨1, 8, [.nilFunc], .other⟩),
  (160, ⟨1, 4, [.int .i32 0], .int .i32⟩),
  (161, ⟨1, 4, [.int .i32 0], .int .i32⟩),
  (162, ⟨11, 48, [.int .u64 0, .int .u64 0, .int .u32 0, .int .u8 0, .int .u8 0, .int .u8 0, .int .u8 0, .nilFunc, .pointer none, .int .i32 0, .int .i32 0], .st [(0, 1, false), (1, 1, false), (2, 1, false), (3, 1, false), (4, 1, false), (5, 1, false), (6, 1, false), (7, 1, false), (8, 1, false), (9, 1, false), (10, 1, false)]⟩),
  (163, ⟨11, 48, [.int .u64 0, .int .u64 0, .int .u32 0, .int .u8 0, .int .u8 0, .int .u8 0, .int .u8 0, .nilFunc, .pointer none, .int .i32 0, .int .i32 0], .st [(0, 1, false), (1, 1, false), (2, 1, false), (3, 1, false), (4, 1, false), (5, 1, false), (6, 1, false), (7, 1, false), (8, 1, false), (9, 1, false), (10, 1, false)]⟩)]
set_option maxRecDepth 100000 in
theorem lay_all : lay.map (fun p => layOf Tryd.prog p.1) = lay.map (fun p => some p.2) := by kernel_rfl
def layF (t : Nat) : Option Lay := findL lay t
theorem layF_ok : LOk Tryd.prog layF := fun t l h => by
  have := List.map_inj_left.1 lay_all (t, l) (findL_mem h)
  exact this
theorem mixed : Tryd.prog.follows .mixedOrders = true := by kernel_rfl
end Go.Proofs.YtkeehnhamkdogaaDoor

namespace Go.Proofs.YtkeehnhamkdogaaDoor
set_option linter.unusedVariables false
set_option linter.unusedSimpArgs false
open Go.RowKit

abbrev di (n : Int) : D := .v (.int .i64 n)
abbrev du (n : Int) : D := .v (.int .u64 n)
abbrev db (b : Bool) : D := .v (.bool b)
abbrev ds (s : ByteArray) : D := .v (.string s)
abbrev dnil : D := .v (.slice none 0 0)
abbrev Ti (n : Int) : TV := .o (.c (.d (.v (.int .i64 n))))
abbrev Tu (n : Int) : TV := .o (.c (.d (.v (.int .u64 n))))
abbrev Tb (b : Bool) : TV := .o (.c (.d (.v (.bool b))))
abbrev c1 (x : D) : T1 := .c (.d x)
abbrev gD (l : List D) : T1 := .g (l.map .d)
/-- Nothing is known of the program's variables. -/
def Γ0 : Glob := ⟨fun _ _ => True, fun _ _ _ => trivial, [], fun _ => none, fun _ h => by cases h⟩

section
variable {p q : Prop} {K : Bool → Prop}
theorem ex_dec [Decidable p] (ht : p → K true) (hf : ¬ p → K false) : ∃ b, decide p = b ∧ K b := by
  by_cases h : p
  · exact ⟨true, decide_eq_true h, ht h⟩
  · exact ⟨false, decide_eq_false h, hf h⟩
theorem ex_true [Decidable p] (h : p) (hk : K true) : ∃ b, decide p = b ∧ K b := ⟨true, decide_eq_true h, hk⟩
theorem ex_false [Decidable p] (h : ¬ p) (hk : K false) : ∃ b, decide p = b ∧ K b := ⟨false, decide_eq_false h, hk⟩
theorem ex_eq {α : Type} {e : α} {K : α → Prop} (h : K e) : ∃ z, e = z ∧ K z := ⟨e, rfl, h⟩
theorem ex_is {α : Type} {e : α} (z : α) {K : α → Prop} (he : e = z) (h : K z) : ∃ z, e = z ∧ K z := ⟨z, he, h⟩
end
theorem wrap_i64' {n : Int} (h1 : -9223372036854775808 ≤ n) (h2 : n ≤ 9223372036854775807) : IntKind.i64.wrap n = n := by rw [IntKind.wrap_i64]; omega
theorem wrap_un {k : IntKind} (hk : k.signed = false) {n : Int} (h1 : 0 ≤ n) (h2 : n < 2 ^ k.bits) : k.wrap n = n := by
  unfold IntKind.wrap
  simp only [hk, Bool.false_and, Bool.false_eq_true, if_false]
  exact Int.emod_eq_of_lt h1 h2
theorem ex_i64 {e : Int} (z : Int) {K : Int → Prop} (he : e = z) (h1 : -9223372036854775808 ≤ z) (h2 : z ≤ 9223372036854775807) (h : K z) : ∃ z, IntKind.i64.wrap e = z ∧ K z := ⟨z, by rw [he]; exact wrap_i64' h1 h2, h⟩
theorem ex_u64 {e : Int} (z : Int) {K : Int → Prop} (he : e = z) (h1 : 0 ≤ z) (h2 : z < 18446744073709551616) (h : K z) : ∃ z, IntKind.u64.wrap e = z ∧ K z := ⟨z, by rw [he]; exact wrap_un (by rfl) h1 h2, h⟩
theorem ex_u8 {e : Int} (z : Int) {K : Int → Prop} (he : e = z) (h1 : 0 ≤ z) (h2 : z < 256) (h : K z) : ∃ z, IntKind.u8.wrap e = z ∧ K z := ⟨z, by rw [he]; exact wrap_un (by rfl) h1 h2, h⟩
/-- An index into rows that are images of a list. -/
theorem ex_row {α : Type} {f : α → List D} {l : List α} {n : Int} (i : Nat) (x : α) (hn : n = i) (hx : l[i]? = some x) {K : List D → Prop} (h : K (f x)) : ∃ r, 0 ≤ n ∧ (l.map f)[n.toNat]? = some r ∧ K r := by
  subst hn
  exact ⟨f x, by omega, by simp [hx], h⟩
/-- An append. -/
theorem ex_app {α : Type} {r1 r2 : List α} {b : Nat} (n m c : Nat) (h1 : r1.length = n) (h2 : r2.length = m) (hc : Nat.ble b c = true) (hb : (n + m) * c ≤ 140737488355328) {K : Prop} (h : K) : (r1.length + r2.length) * b ≤ 140737488355328 ∧ K := ⟨by
  rw [h1, h2]
  exact Nat.le_trans (Nat.mul_le_mul_left _ (Nat.le_of_ble_eq_true hc)) hb, h⟩
theorem ex_at {α : Type} {f : α → List D} {l : List α} (i : Nat) (x : α) (hx : l[i]? = some x) {K : List D → Prop} {a : Nat} (h : K (f x)) : a = a ∧ ∃ r, (l.map f)[i]? = some r ∧ K r := ⟨rfl, f x, by simp [hx], h⟩
theorem ex_chr {s : ByteArray} {n : Int} (i : Nat) (b : UInt8) (hn : n = i) (hb : s.data.toList[i]? = some b) {K : UInt8 → Prop} (h : K b) : ∃ b, 0 ≤ n ∧ s.data.toList[n.toNat]? = some b ∧ K b := by
  subst hn
  exact ⟨b, by omega, by simpa using hb, h⟩
theorem at_some {α : Type} {l : List α} {i : Nat} (h : i < l.length) : l[i]? = some l[i] := List.getElem?_eq_getElem h
section
variable {P : Program} {Γ : Glob}
/-- A call of a function of data. -/
theorem ex_call {f : FuncId} {xs : List T1} {r : TV} (h : CallsA P Γ f xs r) {K : TV → Prop} (hk : K r) : ∃ r, CallsA P Γ f xs r ∧ K r := ⟨r, h, hk⟩
theorem ex_callM {f : FuncId} {m : List (Nat × Blk)} {nx : Nat} {xs : List T1} {r : TV} {upd : List (Nat × Blk)} {new : List Blk} (h : CallsM P Γ f m nx xs r upd new) {K : TV → List (Nat × Blk) → List Blk → Prop} (hk : K r upd new) : ∃ r upd new, CallsM P Γ f m nx xs r upd new ∧ K r upd new := ⟨r, upd, new, h, hk⟩
end
/-- A loop. -/
theorem ex_loop {X : Type} (f : X → St) (μ : X → Nat) (p : X → Prop) (x0 : X) {nx0 : Nat} {st : St} {V : (I : LoopI) → I.X → Prop} (h0 : p x0) (h1 : SLe nx0 (f x0) st) (h2 : ∀ x, p x → V ⟨X, f, μ, p⟩ x) :
    ∃ (I : LoopI) (x0 : I.X), I.p x0 ∧ SLe nx0 (I.f x0) st ∧ ∀ x, I.p x → V I x := ⟨⟨X, f, μ, p⟩, x0, h0, h1, h2⟩
/-- Where ways come together. -/
theorem ex_join {X : Type} (f : X → St) (p : X → Prop) {A : JoinI → Prop} {B : (I : JoinI) → I.X → Prop} (h1 : A ⟨X, f, p⟩) (h2 : ∀ x, p x → B ⟨X, f, p⟩ x) : ∃ I : JoinI, A I ∧ ∀ x, I.p x → B I x := ⟨⟨X, f, p⟩, h1, h2⟩
theorem ex_meet {X : Type} {f : X → St} {p : X → Prop} {nx0 : Nat} {st : St} (x : X) (h0 : p x) (h2 : SLe nx0 (f x) st) : ∃ x, p x ∧ SLe nx0 (f x) st := ⟨x, h0, h2⟩
theorem ex_round {X : Type} {f : X → St} {μ : X → Nat} {p : X → Prop} {nx0 : Nat} {st : St} {x : X} (x' : X) (h0 : p x') (h1 : μ x' < μ x) (h2 : SLe nx0 (f x') st) : ∃ x', p x' ∧ μ x' < μ x ∧ SLe nx0 (f x') st := ⟨x', h0, h1, h2⟩
theorem le_nil {α : Type} {m : List (Nat × α)} : leL [] m := trivial
theorem le_cons {α : Type} {k : Nat} {v : α} {l m : List (Nat × α)} (h : findL m k = some v) (t : leL l m) : leL ((k, v) :: l) m := ⟨h, t⟩
theorem le_val {α : Type} {k : Nat} {v v' : α} {l m : List (Nat × α)} (h : findL m k = some v') (e : v' = v) (t : leL l m) : leL ((k, v) :: l) m := ⟨e ▸ h, t⟩
/-- A nil slice reads as a slice without rows. -/
theorem CLe_nil {ι : Nat → Value} {S : Nat → Prop} {w : World} {s : Nat} {v : Value} (h : VC ι S w (.d (.v (.slice none 0 0))) v) : VC ι S w (.d (.sl s [])) v := by
  have h' : Imm S w _ v := h
  cases h'
  exact Imm.nil
theorem TLe.nil {s : Nat} : TLe (.o (.c (.d (.v (.slice none 0 0))))) (.o (.c (.d (.sl s [])))) := fun ι _ _ _ h => CLe_nil (ι := ι) h
/-- A contract met with a flat result. -/
theorem flat_end {S : Nat → Prop} {w w' : World} {r : TV} {v : Value} (hs : ∀ b, S b → b < w.heap.size) (hb : Below w.heap.size w w') (hv : V ι0 S w' r v) : ∃ x S', Ending.returned v = .returned x ∧ Below w.heap.size w w' ∧ (∀ b, S b → S' b) ∧ (∀ b, S' b → S b ∨ w.heap.size ≤ b) ∧ (∀ b, S' b → b < w'.heap.size) ∧ V ι0 S' w' r x :=
  ⟨v, S, rfl, hb, fun _ h => h, fun _ h => .inl h, fun b h => Nat.lt_of_lt_of_le (hs b h) hb.size, hv⟩
/-- A contract over a greater memory. -/
theorem CallsM.more {P : Program} {Γ : Glob} {f : FuncId} {m m' : List (Nat × Blk)} {nx : Nat} {xs : List T1} {r : TV} {upd : List (Nat × Blk)} {new : List Blk} (h : CallsM P Γ f m nx xs r upd new) (hm : ∀ p ∈ m, p ∈ m') : CallsM P Γ f m' nx xs r upd new :=
  ⟨h.1, fun ι S w vs hs hG hb hd hv => (h.2 ι S w vs hs hG (fun p hp => hb p (hm p hp)) (fun p hp q hq => hd p (hm p hp) q (hm q hq)) hv).mono fun e w' hX => by
    have conv : ∀ (tv : TV) (x : Value) (ι' : Nat → Value) (S' : Nat → Prop) (w' : World), After ι S w nx ⟨tv, m.map (·.1), upd, new⟩ x ι' S' w' → After ι S w nx ⟨tv, m'.map (·.1), upd, new⟩ x ι' S' w' := fun tv x ι' S' w' A =>
      ⟨A.val, A.keep, A.smono, A.sgrow, A.slt, A.os, A.tape, A.output, A.size, A.heap, A.updok, A.newok, A.newblk, A.newdst⟩
    rcases hX with ⟨x, ι', S', he, A⟩ | ⟨v, ι', S', hr, he, A⟩
    · exact .inl ⟨x, ι', S', he, conv _ _ _ _ _ A⟩
    · exact .inr ⟨v, ι', S', hr, he, conv _ _ _ _ _ A⟩⟩
/-- What a function of nothing known gives, whatever is known. -/
theorem CallsA.of0 {P : Program} {Γ : Glob} {f : FuncId} {xs : List T1} {r : TV} (h : CallsA P Γ0 f xs r) : CallsA P Γ f xs r := ⟨h.1, fun S w vs hS _ hv => h.2 S w vs hS trivial hv⟩
theorem CallsM.of0 {P : Program} {Γ : Glob} {f : FuncId} {m : List (Nat × Blk)} {nx : Nat} {xs : List T1} {r : TV} {upd : List (Nat × Blk)} {new : List Blk} (h : CallsM P Γ0 f m nx xs r upd new) : CallsM P Γ f m nx xs r upd new := ⟨h.1, fun ι S w vs hs _ hb hd hv => h.2 ι S w vs hs trivial hb hd hv⟩
end Go.Proofs.YtkeehnhamkdogaaDoor

namespace Go.Proofs.YtkeehnhamkdogaaDoor
set_option linter.unusedVariables false
set_option linter.unusedSimpArgs false
open Go.RowKit Go.Sort Go.Lib
set_option maxRecDepth 100000

set_option maxHeartbeats 6400000 in
theorem ifmt (n : Nat) (h1 : n < 18446744073709551616) (w : World) (htab : Lib.TabIs Tryd.prog w "internal/strconv.uint64pow10" .u64 Lib.pow10Tab) :
    Calls Tryd.prog 69 #[.int .u64 n, .int .i64 10] w fun e w' => e = .returned (.string ⟨(Lib.decDigits n).toArray⟩) ∧ Below w.heap.size w w' := by
  by_cases hs : n < 100
  · have hw : IntKind.i64.wrap (n : Int) = n := by rw [IntKind.wrap_i64]; omega
    go_enter Tryd.func69, Tryd.ntmps69
    go_wp2_with (go_at_call 81; refine (Tryd.internal_strconv_small n hs _).mono ?_; rintro e w' ⟨rfl, rfl⟩)
    go_ret
    exact ⟨rfl, Below.refl _ _⟩
  · have hu1 : 1 ≤ n := by omega
    have hnd20 : Lib.nDigits n ≤ 20 := by have := Lib.numDigits_eq n hu1 h1; split at this <;> omega
    have hb3 : Lib.nDigits n ≤ 24 := by omega
    have hal : Tryd.prog.arrayLen 120 = 24 := by kernel_rfl
    have hsl1 : ∀ W, (Instr.sliceAt 120 (.pointer (some ⟨w.heap.size, 0, none⟩)) none (some (.int .i64 (Lib.nDigits n : Int))) none).run Tryd.prog W = .ok (.slice (some ⟨w.heap.size, 0, none⟩) (Lib.nDigits n) 24) W := fun W => by
      rw [run_sliceAt_array_h W 120 ⟨w.heap.size, 0, none⟩ (by kernel_rfl) .i64 (Lib.nDigits n : Int) (by omega) (by rw [hal]; omega)]
      go_simp
    have hH0 : Holds (fun (b : UInt8) => Value.int .u8 (b.toNat : Int)) (w.alloc (.cells Lib.zeros24 120)) w.heap.size 0 (Array.replicate (Lib.nDigits n) 0) := fun j hj => by
      have hj' : j < Lib.nDigits n := by simpa using hj
      refine ⟨?_, World.frozen?_alloc_new _ _ _ _⟩
      rw [World.cell?_alloc_new, Lib.zeros24_at _ (by omega), getElem!_pos _ j hj]
      simp
    have hfmt := Tryd.internal_strconv_formatBase10 w.heap.size 0 24 n (Array.replicate (Lib.nDigits n) 0) (w.alloc (.cells Lib.zeros24 120)) hH0 (by rw [Array.size_replicate]; exact Lib.lt_pow_nDigits n) h1 (by rw [Array.size_replicate]; omega)
    rw [Array.size_replicate] at hfmt
    have HH0 := Lib.hid hH0
    clear hH0 hal
    go_enter Tryd.func69, Tryd.ntmps69
    go_wp2_with (first
      | (go_at_call 82; refine (Tryd.internal_strconv_numDigits n hu1 h1 _ (Lib.tabIs_alloc htab _)).mono ?_; rintro e w' ⟨rfl, rfl⟩))
    go_at_call 83
    refine hfmt.mono ?_
    rintro e w' ⟨rfl, k, v', dk, rfl, hF⟩
    have hcv : (convert 63 9 (.slice (some ⟨w.heap.size, 0, none⟩) (Lib.nDigits n) 24)).run Tryd.prog ((putRow (fun (b : UInt8) => Value.int .u8 (b.toNat : Int)) (w.alloc (.cells Lib.zeros24 120)) w.heap.size 0 dk).drewN k) = .ok (.string ⟨(Lib.decDigits n).toArray⟩) ((putRow (fun (b : UInt8) => Value.int .u8 (b.toNat : Int)) (w.alloc (.cells Lib.zeros24 120)) w.heap.size 0 dk).drewN k) := by
      have h := run_convert_bytes_back (P := Tryd.prog) ((putRow (fun (b : UInt8) => Value.int .u8 (b.toNat : Int)) (w.alloc (.cells Lib.zeros24 120)) w.heap.size 0 dk).drewN k) 63 9 5 ⟨w.heap.size, 0, none⟩ 24 (Lib.decDigits n) (by kernel_rfl) (by kernel_rfl) (by kernel_rfl) (fun j hj => by
        rw [Lib.row_is_numeral hF j hj, Lib.add_plain, World.cell?_drewN]
        exact cell?_putRow (fun (b : UInt8) => Value.int .u8 (b.toNat : Int)) _ w.heap.size 0 _ dk HH0.out (by rw [hF.size, Array.size_replicate]) j (by rw [hF.size]; rw [Lib.decDigits_length] at hj; exact hj))
      rw [Lib.decDigits_length] at h
      exact h
    go_wp2
    go_ret
    obtain ⟨os, eo⟩ := Lib.fin_at w (.cells Lib.zeros24 120) dk k 0
    rw [eo]
    exact ⟨rfl, Lib.below_grow _ _ (Nat.le_refl _) _ _⟩
theorem fmt (n : Nat) (h1 : n < 18446744073709551616) (w : World) (htab : Lib.TabIs Tryd.prog w "internal/strconv.uint64pow10" .u64 Lib.pow10Tab) :
    Calls Tryd.prog 49 #[.int .u64 n, .int .i64 10] w fun e w' => e = .returned (.string ⟨(Lib.decDigits n).toArray⟩) ∧ Below w.heap.size w w' := by
  go_enter Tryd.func49, Tryd.ntmps49
  go_wp2_with (go_at_call 69; refine (ifmt n h1 _ htab).mono ?_; rintro e w' ⟨rfl, hb⟩)
  go_ret
  exact ⟨rfl, hb⟩
/-- What is known of the program's variables: the powers of ten, and the errors of strconv. -/
def ErrAt (w : World) (b : Nat) : Prop := ∃ ev, w.cell? ⟨b, 0, none⟩ = some ev ∧ (ev = .nilIface ∨ ∃ te pe, ev = .iface te pe)
def ΓS : Glob := ⟨fun S w => (Lib.TabIs Tryd.prog w "internal/strconv.uint64pow10" .u64 Lib.pow10Tab ∧ ∀ g, Tryd.prog.globalNamed "internal/strconv.uint64pow10" = some g → S g) ∧ (ErrAt w 4 ∧ S 4) ∧ ErrAt w 5 ∧ S 5,
  fun {S S' w w'} hw hS ⟨⟨h1, h2⟩, ⟨h3, h4⟩, h5, h6⟩ => ⟨⟨by
    unfold Lib.TabIs World.var? at h1 ⊢
    cases hg : Tryd.prog.globalNamed "internal/strconv.uint64pow10" with
    | none => rw [hg] at h1; cases h1
    | some g =>
      rw [hg] at h1
      simp only [Option.bind_some] at h1 ⊢
      rw [hw g (h2 g hg)]
      exact h1, fun g hg => hS g (h2 g hg)⟩, ⟨by
    obtain ⟨ev, he, hk⟩ := h3
    exact ⟨ev, by rw [cell_same (hw _ h4)]; exact he, hk⟩, hS _ h4⟩, by
    obtain ⟨ev, he, hk⟩ := h5
    exact ⟨ev, by rw [cell_same (hw _ h6)]; exact he, hk⟩, hS _ h6⟩, [], fun _ => none, fun _ h => by cases h⟩
theorem one_arg {S : Nat → Prop} {w : World} {a : T1} {vs : List Value} (h : All2 (V1 ι0 S w) [a] vs) : ∃ u, vs = [u] ∧ V1 ι0 S w a u := by
  obtain ⟨u, rfl, e⟩ := h.one_left
  exact ⟨u, rfl, e⟩
theorem two_args {S : Nat → Prop} {w : World} {a b : T1} {vs : List Value} (h : All2 (V1 ι0 S w) [a, b] vs) : ∃ u v, vs = [u, v] ∧ V1 ι0 S w a u ∧ V1 ι0 S w b v := by
  obtain ⟨u, vs, rfl, e0, h⟩ := h.cons_left
  obtain ⟨v, rfl, e1⟩ := h.one_left
  exact ⟨u, v, rfl, e0, e1⟩
theorem open_v {S : Nat → Prop} {w : World} {v u : Value} (h : V1 ι0 S w (c1 (.v v)) u) : u = v := by
  have h' : Imm S w _ u := h
  cases h'; rfl
theorem fmt_c (n : Nat) (h1 : n < 18446744073709551616) : CallsA Tryd.prog ΓS 49 [c1 (du n), c1 (di 10)] (.o (c1 (ds ⟨(Lib.decDigits n).toArray⟩))) :=
  ⟨⟨_, Tryd.func49, by kernel_rfl, rfl⟩, fun S w vs hS hG hvs => by
    obtain ⟨u, v, rfl, e1, e2⟩ := two_args hvs
    obtain rfl := open_v e1
    obtain rfl := open_v e2
    exact (fmt n h1 w hG.1.1).mono fun e w' ⟨he, hb⟩ => by subst he; exact flat_end hS hb (Imm.v rfl)⟩
theorem index_c (Γ : Glob) (s : ByteArray) (c : Int) : CallsA Tryd.prog Γ 52 [c1 (ds s), c1 (.v (.int .u8 c))] (Ti (Lib.indexByte s.data.toList c.toNat.toUInt8)) :=
  ⟨⟨_, Tryd.func52, by kernel_rfl, rfl⟩, fun S w vs hS hG hvs => by
    obtain ⟨u, v, rfl, e1, e2⟩ := two_args hvs
    obtain rfl := open_v e1
    obtain rfl := open_v e2
    exact (Tryd.strings_IndexByte s c w).mono fun e w' ⟨he, hb⟩ => by subst he; subst hb; exact flat_end hS (Below.refl _ _) (Imm.v rfl)⟩
/-- What ParseUint answers, at base 10: the number, and is there an error? -/
def puT (s : ByteArray) : TV := match Lib.parseUintB 64 s.data.toList with
  | .ok u => .tup [c1 (du u), c1 (.v .nilIface)]
  | .range => .tup [c1 (du 18446744073709551615), c1 .err]
  | _ => .tup [c1 (du 0), c1 .err]
theorem three_args {S : Nat → Prop} {w : World} {a b c : T1} {vs : List Value} (h : All2 (V1 ι0 S w) [a, b, c] vs) : ∃ u v x, vs = [u, v, x] ∧ V1 ι0 S w a u ∧ V1 ι0 S w b v ∧ V1 ι0 S w c x := by
  obtain ⟨u, vs, rfl, e0, h⟩ := h.cons_left
  obtain ⟨v, x, rfl, e1, e2⟩ := two_args h
  exact ⟨u, v, x, rfl, e0, e1, e2⟩
theorem pu_c (s : ByteArray) (hs : s.size ≤ 281474976710656) : CallsA Tryd.prog ΓS 71 [c1 (ds s), c1 (di 10), c1 (di 64)] (puT s) :=
  ⟨⟨_, Tryd.func71, by kernel_rfl, rfl⟩, fun S w vs hS hG hvs => by
    obtain ⟨u, v, x, rfl, e1, e2, e3⟩ := three_args hvs
    obtain rfl := open_v e1
    obtain rfl := open_v e2
    obtain rfl := open_v e3
    unfold puT
    obtain ⟨-, ⟨⟨ev, h1, h2⟩, -⟩, ⟨er, h3, h4⟩, -⟩ := hG
    cases hp : Lib.parseUintB 64 s.data.toList with
    | ok u =>
      refine (Tryd.strconv_ParseUint_10_at64_ok s (by omega) u hp w).mono fun e w' ⟨he, hb⟩ => ?_
      subst he
      exact flat_end hS (by rcases hb with rfl | rfl; exact Below.refl _ _; exact Lib.bytesWorld_below _ _ _) ⟨[_, _], rfl, .cons (Imm.v rfl) (.cons (Imm.v rfl) .nil)⟩
    | range =>
      refine (Tryd.strconv_ParseUint_10_at64_range s hs hp er w h3 h4).mono fun e w' ⟨N, he, _, _, hb⟩ => ?_
      subst he
      exact flat_end hS hb ⟨[_, _], rfl, .cons (Imm.v rfl) (.cons Imm.err .nil)⟩
    | _ =>
      refine (Any.strconv_ParseUint_10_at64_syntax Tryd.laysPu14 s hs hp ev w h1 h2).mono fun e w' ⟨N, he, _, _, hb⟩ => ?_
      subst he
      exact flat_end hS hb ⟨[_, _], rfl, .cons (Imm.v rfl) (.cons Imm.err .nil)⟩⟩
end Go.Proofs.YtkeehnhamkdogaaDoor

namespace Go.Proofs.YtkeehnhamkdogaaDoor
set_option linter.unusedVariables false
set_option linter.unusedSimpArgs false
open Go.RowKit

theorem ret_bool {a b : Bool} (h : a = b) : Ending.returned (.bool a) = .returned (.bool b) := by rw [h]
theorem ret_int {k : IntKind} {a b : Int} (h : a = b) : Ending.returned (.int k a) = .returned (.int k b) := by rw [h]

/-- A world that extends W: of what was there nothing has turned. -/
structure Ext (W : World) where
  w : World
  b : Below W.heap.size W w

instance {W : World} : Nonempty (Ext W) := ⟨⟨W, Below.refl _ _⟩⟩
instance {W : World} : Inhabited (Ext W) := ⟨⟨W, Below.refl _ _⟩⟩

/-! ### What the walk asks of blocks' numbers, found by instances: however long the chain of worlds is -/
class ExtC (W : outParam World) (w : World) : Prop where
  b : Below W.heap.size W w
class LtC (n m : Nat) : Prop where
  h : n < m
class LeC (n m : Nat) : Prop where
  h : n ≤ m
instance (priority := 2000) (n : Nat) : LeC n n := ⟨Nat.le_refl _⟩
instance (priority := 1900) (n m : Nat) [LeC n m] : LeC n (m + 1) := ⟨Nat.le_succ_of_le LeC.h⟩
instance (priority := 1800) (n m : Nat) [LeC n m] : LeC (n + 1) (m + 1) := ⟨Nat.succ_le_succ LeC.h⟩
instance (n : Nat) (w : World) (o : Obj) [LeC n (w.heap.size + 1)] : LeC n (w.alloc o).heap.size := ⟨by rw [World.size_alloc]; exact LeC.h⟩
instance (n : Nat) (w : World) (a : Addr) (v : Value) [LeC n w.heap.size] : LeC n (w.setCell a v).heap.size := ⟨by simp only [World.setCell, Array.size_modify]; exact LeC.h⟩
instance (n : Nat) (w : World) [LeC n w.heap.size] : LeC n w.drew.heap.size := ⟨(LeC.h : n ≤ w.heap.size)⟩
instance (n : Nat) (W w : World) [h : ExtC W w] [LeC n W.heap.size] : LeC n w.heap.size := ⟨Nat.le_trans LeC.h h.b.size⟩
instance (priority := 2000) (n : Nat) : LtC n (n + 1) := ⟨Nat.lt_succ_self _⟩
instance (priority := 1900) (n m : Nat) [LtC n m] : LtC n (m + 1) := ⟨Nat.lt_succ_of_lt LtC.h⟩
instance (priority := 1800) (n m : Nat) [LtC n m] : LtC (n + 1) (m + 1) := ⟨Nat.succ_lt_succ LtC.h⟩
instance (n : Nat) (w : World) (o : Obj) [LtC n (w.heap.size + 1)] : LtC n (w.alloc o).heap.size := ⟨by rw [World.size_alloc]; exact LtC.h⟩
instance (n : Nat) (w : World) (a : Addr) (v : Value) [LtC n w.heap.size] : LtC n (w.setCell a v).heap.size := ⟨by simp only [World.setCell, Array.size_modify]; exact LtC.h⟩
instance (n : Nat) (w : World) [LtC n w.heap.size] : LtC n w.drew.heap.size := ⟨(LtC.h : n < w.heap.size)⟩
instance (n : Nat) (W w : World) [h : ExtC W w] [LtC n W.heap.size] : LtC n w.heap.size := ⟨Nat.lt_of_lt_of_le LtC.h h.b.size⟩
instance {W : World} (x : Ext W) : ExtC W x.w := ⟨x.b⟩

/-- Block b reads in w as in W. -/
class AtC (w : World) (b : Nat) (W : outParam World) : Prop where
  h : w.heap[b]? = W.heap[b]?
instance {W w : World} (b : Nat) [h : ExtC W w] [LtC b W.heap.size] : AtC w b W := ⟨h.b.block b LtC.h⟩
/-- (Named so that simp doesn't take 'cellI' for a mere renaming.) -/
def cellOf (W : World) (b o : Nat) : Option Value := W.cell? ⟨b, o, none⟩
def frozenOf (W : World) (b o : Nat) : Bool := W.frozen? ⟨b, o, none⟩
theorem cellOf_is (W : World) (b o : Nat) : cellOf W b o = W.cell? ⟨b, o, none⟩ := rfl
theorem frozenOf_is (W : World) (b o : Nat) : frozenOf W b o = W.frozen? ⟨b, o, none⟩ := rfl
theorem cellI {W w : World} (b o : Nat) [h : AtC w b W] : w.cell? ⟨b, o, none⟩ = cellOf W b o := World.cell?_of_block (w := W) (a := ⟨b, o, none⟩) h.h
theorem frozenI {W w : World} (b o : Nat) [h : AtC w b W] : w.frozen? ⟨b, o, none⟩ = frozenOf W b o := World.frozen?_of_block (w := W) (a := ⟨b, o, none⟩) h.h
theorem cellA {w : World} (O : Obj) (b o : Nat) [LtC b w.heap.size] : (w.alloc O).cell? ⟨b, o, none⟩ = w.cell? ⟨b, o, none⟩ := World.cell?_alloc_past O b o LtC.h
theorem frozenA {w : World} (O : Obj) (b o : Nat) [LtC b w.heap.size] : (w.alloc O).frozen? ⟨b, o, none⟩ = w.frozen? ⟨b, o, none⟩ := World.frozen?_alloc_past O b o LtC.h
theorem setCellA {w : World} (O : Obj) (b o : Nat) (v : Value) [LtC b w.heap.size] : (w.alloc O).setCell ⟨b, o, none⟩ v = (w.setCell ⟨b, o, none⟩ v).alloc O := World.setCell_alloc_past O b o v LtC.h

theorem below_step {B : Nat} {w W w1 : World} (h : Below B w W) (hb : Below W.heap.size W w1) (hB : B ≤ W.heap.size) : Below B w w1 := h.trans (hb.mono hB)
theorem leC {n m : Nat} [h : LeC n m] : n ≤ m := h.h

theorem below_draw (W : World) : Below W.heap.size W { W with drawn := W.drawn + 1 } := ⟨rfl, rfl, rfl, Nat.le_refl _, fun _ _ => rfl⟩

/-- A region that draws its order, every operation a read or a call that only makes memory: one walk in the text's order. -/
theorem steady_region {P : Program} {id : Nat} {Q : Exit → Act → World → Prop} {a : Act} {W : World} {l : List Oper} (hm : P.follows .mixedOrders = true) (hB : Region.lexB .any l.toArray = true)
    (h : wpQuiet P l.toArray (fun w' => ∃ x : Ext W, w' = x.w) (fun a' => ∀ w', (∃ x : Ext W, w' = x.w) → Q .normal a' w') l a) : (Code.region id l.toArray true).wp P Q a W :=
  wp_region_quiet (C := fun w' => ∃ x : Ext W, w' = x.w) hm hB ⟨⟨_, below_draw W⟩, rfl⟩ (by simpa using h)

/-- The same, the class that of an earlier world which the present one extends. -/
theorem steady_from {P : Program} {id : Nat} {Q : Exit → Act → World → Prop} {a : Act} {W w : World} {l : List Oper} (hbw : Below W.heap.size W w) (hm : P.follows .mixedOrders = true) (hB : Region.lexB .any l.toArray = true)
    (h : wpQuiet P l.toArray (fun w' => ∃ x : Ext W, w' = x.w) (fun a' => ∀ w', (∃ x : Ext W, w' = x.w) → Q .normal a' w') l a) : (Code.region id l.toArray true).wp P Q a w :=
  wp_region_quiet (C := fun w' => ∃ x : Ext W, w' = x.w) hm hB ⟨⟨_, hbw.trans ((below_draw w).mono hbw.size)⟩, rfl⟩ (by simpa using h)

/-- A callee's contract, met in a world of the class. -/
theorem Calls.steady {P : Program} {f : FuncId} {args : Array Value} {W : World} {x : Ext W} {v : Value}
    (h : Calls P f args x.w fun e w' => e = .returned v ∧ Below x.w.heap.size x.w w') : Calls P f args x.w fun e w'' => e = .returned v ∧ ∃ y : Ext W, w'' = y.w :=
  h.mono fun _ w' ⟨he, hb⟩ => ⟨he, ⟨w', x.b.trans (hb.mono x.b.size)⟩, rfl⟩


section
variable {P : Program} {ops : Array Oper} {md : Region.Mode} {C : World → Prop}

/-- Every edge that binds leads back. -/
def backB (md : Region.Mode) (ops : Array Oper) : Bool :=
  (List.range ops.size).all fun i => match ops[i]? with
    | some o => o.after.all fun e => !Region.binds md e || decide (e.on < i)
    | none => true
/-- From number n on each operation waits for all of the first n. -/
def tailB (md : Region.Mode) (ops : Array Oper) (n : Nat) : Bool :=
  (List.range ops.size).all fun t => decide (t < n) || (List.range n).all fun i => Region.waitsFor md ops t i
/-- The guards of the first n operations lie among them. -/
def guardB (ops : Array Oper) (n : Nat) : Bool :=
  (List.range n).all fun i => match ops[i]? with
    | some o => match o.guard with
      | some (j, _) => decide (j < n)
      | none => true
    | none => true

theorem backB_spec (h : backB md ops = true) {i : Nat} {o : Oper} (ho : ops[i]? = some o) {e : Edge} (he : e ∈ o.after) (hb : Region.binds md e = true) : e.on < i := by
  have h1 := List.all_eq_true.1 h i (List.mem_range.2 (Array.getElem?_eq_some_iff.1 ho).1)
  simp only [ho] at h1
  have h2 := Array.all_eq_true_iff_forall_mem.1 h1 e he
  simpa [hb] using h2

theorem tailB_spec {n : Nat} (h : tailB md ops n = true) {t i : Nat} (ht : n ≤ t) (hts : t < ops.size) (hi : i < n) : ∃ o, ops[t]? = some o ∧ ∃ e ∈ o.after, Region.binds md e = true ∧ e.on = i := by
  have h1 := List.all_eq_true.1 h t (List.mem_range.2 hts)
  simp only [Bool.or_eq_true, decide_eq_true_eq] at h1
  rcases h1 with h1 | h1
  · omega
  · exact Region.waitsFor_spec (List.all_eq_true.1 h1 i (List.mem_range.2 hi))

/-- More fuel does no harm. -/
theorem wpAny_more {Q : Exit → Act → World → Prop} : ∀ (f : Nat) (listed : Array Bool) (a : Act) (w : World), wpAny P md ops Q f listed a w → wpAny P md ops Q (f + 1) listed a w
  | 0, _, _, _, h => ⟨fun _ => h.2, fun i hi => by rw [h.1] at hi; cases hi⟩
  | f + 1, _, _, _, h => ⟨h.1, fun i hi => wpOp_mono (fun a' w' => wpAny_more f _ a' w') (h.2 i hi)⟩
theorem wpAny_moreN {Q : Exit → Act → World → Prop} (f : Nat) {listed : Array Bool} {a : Act} {w : World} (h : wpAny P md ops Q f listed a w) : ∀ k, wpAny P md ops Q (f + k) listed a w
  | 0 => h
  | k + 1 => wpAny_more _ _ _ _ (wpAny_moreN f h k)

theorem take_get {l : List Oper} {n i : Nat} (h : i < n) : (l.take n).toArray[i]? = l.toArray[i]? := by simp [h]
theorem take_none {l : List Oper} {n i : Nat} (h : n ≤ i) : (l.take n).toArray[i]? = none := by
  simp only [List.getElem?_toArray, List.getElem?_take]
  rw [if_neg (by omega)]

theorem wanted_take {l : List Oper} {n i : Nat} {o : Oper} (hg : guardB l.toArray n = true) (hi : i < n) (ho : l.toArray[i]? = some o) (tmps : Array Value) :
    Region.wanted o (yielded (l.take n).toArray tmps) = Region.wanted o (yielded l.toArray tmps) := by
  have h1 := List.all_eq_true.1 hg i (List.mem_range.2 hi)
  simp only [ho] at h1
  unfold Region.wanted
  cases hgd : o.guard with
  | none => rfl
  | some p =>
    obtain ⟨j, want⟩ := p
    simp only [hgd, decide_eq_true_eq] at h1
    simp only [yielded, take_get h1]

/-- While one of the first n has not come up, what may come up is what may come up among them. -/
theorem ready_take {l : List Oper} {n : Nat} {listed : Array Bool} (ht : tailB md l.toArray n = true) {i : Nat} (hi : i < n) (hun : listed.getD i true = false) {j : Nat}
    (hj : j ∈ Region.ready md l.toArray listed) : j < n ∧ j ∈ Region.ready md (l.take n).toArray listed := by
  have hil : listed.getD i false = false := getD_both hun
  obtain ⟨h0, o, ho, hall⟩ := mem_ready.1 hj
  have hjn : j < n := by
    rcases Nat.lt_or_ge j n with h | h
    · exact h
    · obtain ⟨o', ho', e, he, hb, hon⟩ := tailB_spec ht h (Array.getElem?_eq_some_iff.1 ho).1 hi
      have : o = o' := Option.some.inj (ho.symm.trans ho')
      subst this
      have := hall e he hb
      rw [hon, hil] at this
      cases this
  exact ⟨hjn, mem_ready.2 ⟨h0, o, by rw [take_get hjn]; exact ho, hall⟩⟩

/-- If nothing may come up among the first n, all of them have come up. -/
theorem all_listed {l : List Oper} {n : Nat} {listed : Array Bool} (hb : backB md l.toArray = true) (hs : listed.size = l.toArray.size) (hn : n ≤ l.length)
    (h : Region.ready md (l.take n).toArray listed = []) : ∀ i, i < n → listed.getD i true = true := by
  intro i
  induction i using Nat.strongRecOn with
  | _ i ih =>
    intro hi
    cases hl : listed.getD i true with
    | true => rfl
    | false =>
      have hil : i < l.toArray.size := by simp; omega
      have ho : l.toArray[i]? = some l.toArray[i] := by simp
      have : i ∈ Region.ready md (l.take n).toArray listed := mem_ready.2 ⟨hl, _, by rw [take_get hi]; exact ho, fun e he hbd => by
        have hlt := backB_spec hb ho he hbd
        have h1 := ih e.on hlt (by omega)
        have hes : e.on < listed.size := by omega
        simp only [Array.getD, hes, dite_true] at h1 ⊢
        exact h1⟩
      rw [h] at this
      cases this

def fullTo (n m : Nat) : Array Bool := ((List.range m).map fun i => decide (i < n)).toArray

/-- The first n operations in any order, then the rest one behind the other. -/
theorem wpAny_of_head_tail {l : List Oper} {n : Nat} {Q : Act → Prop} {Q' : Exit → Act → World → Prop} (hn : n ≤ l.length) (hb : backB md l.toArray = true) (ht : tailB md l.toArray n = true) (hg : guardB l.toArray n = true)
    (hseq : Region.seqB md l.toArray (l.length - n) n (fullTo n l.length) = true)
    (hQ : ∀ a w, C w → Q a → wpList P l.toArray Q' (l.drop n) a w) :
    ∀ (f : Nat) (listed : Array Bool) (a : Act) (w : World), listed.size = l.toArray.size → (∀ t, n ≤ t → t < l.length → listed.getD t true = false) → C w →
      wpAnyQ P md (l.take n).toArray C Q f listed a → wpAny P md l.toArray Q' ((l.length - n) + f) listed a w := by
  have fin : ∀ (listed : Array Bool) (a : Act) (w : World), listed.size = l.toArray.size → (∀ t, n ≤ t → t < l.length → listed.getD t true = false) → C w → Q a →
      Region.ready md (l.take n).toArray listed = [] → wpAny P md l.toArray Q' (l.length - n) listed a w := fun listed a w hs hu hw hq hr => by
    have hall := all_listed hb hs hn hr
    have hfull : listed = fullTo n l.length := by
      apply Array.ext
      · simp [fullTo, hs]
      · intro i h1 h2
        have h3 : i < l.length := by simpa [hs] using h1
        simp only [fullTo, List.getElem_toArray, List.getElem_map, List.getElem_range]
        rcases Nat.lt_or_ge i n with h | h
        · have := hall i h
          simp only [Array.getD, h1, dite_true] at this
          simpa [h] using this
        · have := hu i h h3
          simp only [Array.getD, h1, dite_true] at this
          have hni : ¬ i < n := by omega
          simpa [hni] using this
    subst hfull
    have := wpAny_of_seq (P := P) (md := md) (Q' := Q') (l.drop n) n (fullTo n l.length) a w (fun j => by simp [List.getElem?_drop]) (by rw [List.length_drop]; exact hseq) (hQ a w hw hq)
    rwa [List.length_drop] at this
  intro f
  induction f with
  | zero => exact fun listed a w hs hu hw h => fin listed a w hs hu hw h.2 h.1
  | succ f ih =>
    intro listed a w hs hu hw h
    by_cases hr : Region.ready md (l.take n).toArray listed = []
    · exact wpAny_moreN _ (fin listed a w hs hu hw (h.1 hr) hr) _
    · obtain ⟨i, hi⟩ : ∃ i, i ∈ Region.ready md (l.take n).toArray listed := by
        cases hl : Region.ready md (l.take n).toArray listed with
        | nil => exact absurd hl hr
        | cons x xs => exact ⟨x, by simp⟩
      have hin : i < n := by
        rcases Nat.lt_or_ge i n with h' | h'
        · exact h'
        · obtain ⟨_, o, ho, _⟩ := mem_ready.1 hi
          rw [take_none h'] at ho
          cases ho
      have hun := (mem_ready.1 hi).1
      have hrr : Region.ready md l.toArray listed ≠ [] := fun h0 => by
        obtain ⟨h1, o, ho, hall⟩ := mem_ready.1 hi
        have : i ∈ Region.ready md l.toArray listed := mem_ready.2 ⟨h1, o, by rw [← take_get hin]; exact ho, hall⟩
        rw [h0] at this
        cases this
      refine ⟨fun h0 => absurd h0 hrr, fun j hj => ?_⟩
      obtain ⟨hjn, hj'⟩ := ready_take ht hin hun hj
      have hq := h.2 j hj'
      have hq2 : qOp P l.toArray C j (wpAnyQ P md (l.take n).toArray C Q f (listed.setIfInBounds j true)) a := by
        unfold qOp at hq ⊢
        rw [take_get hjn] at hq
        cases ho : l.toArray[j]? with
        | none => simp only [ho] at hq ⊢; exact hq
        | some o =>
          simp only [ho] at hq ⊢
          rw [wanted_take hg hjn ho] at hq
          exact hq
      refine wpOp_of_qOp hw (fun a' w' hw' hk => ih _ a' w' (by simp [hs]) (fun t ht' htl => ?_) hw' hk) hq2
      rw [getD_set_ne true (by omega)]
      exact hu t ht' htl

/-- A region that draws its order: the first n operations read or call, in any order; the rest (stores, mostly) waits for all of them. -/
theorem wp_region_tail {id : Nat} {Q : Exit → Act → World → Prop} {a : Act} {w : World} {l : List Oper} (n : Nat) (hm : P.follows .mixedOrders = true)
    (hB : (decide (n ≤ l.length) && (Region.noSelect (l.take n).toArray && Region.lexFrom .any (l.take n).toArray n 0 (Array.replicate l.toArray.size false)) && backB .any l.toArray && tailB .any l.toArray n && guardB l.toArray n && Region.seqB .any l.toArray (l.length - n) n (fullTo n l.length)) = true)
    (hC : C { w with drawn := w.drawn + 1 })
    (h : wpQuiet P (l.take n).toArray C (fun a' => ∀ w', C w' → wpList P l.toArray Q (l.drop n) a' w') (l.take n) a) : (Code.region id l.toArray true).wp P Q a w := by
  simp only [Bool.and_eq_true, decide_eq_true_eq] at hB
  obtain ⟨⟨⟨⟨⟨hn, hlex⟩, hb⟩, ht⟩, hg⟩, hseq⟩ := hB
  refine wp_region_any hm ?_
  have hlen : (l.take n).length = n := by simp; omega
  have H := wpAnyQ_lex (C := C) (md := .any) hlex.1 (l.take n) 0 (Array.replicate l.toArray.size false) a (by simp) (by rw [hlen]; exact hlex.2) h
  rw [hlen] at H
  have := wpAny_of_head_tail (Q' := Q) hn hb ht hg hseq (fun a w hw hq => hq w hw) n _ a _ (by simp) (fun t _ htl => getD_in (by simpa using htl) (getD_replicate_false _ _)) hC H
  rw [show l.length - n + n = l.toArray.size by simp; omega] at this
  exact this
end

theorem steady_tail {P : Program} {id : Nat} {Q : Exit → Act → World → Prop} {a : Act} {W : World} {l : List Oper} (n : Nat) (hm : P.follows .mixedOrders = true)
    (hB : (decide (n ≤ l.length) && (Region.noSelect (l.take n).toArray && Region.lexFrom .any (l.take n).toArray n 0 (Array.replicate l.toArray.size false)) && backB .any l.toArray && tailB .any l.toArray n && guardB l.toArray n && Region.seqB .any l.toArray (l.length - n) n (fullTo n l.length)) = true)
    (h : wpQuiet P (l.take n).toArray (fun w' => ∃ x : Ext W, w' = x.w) (fun a' => ∀ w', (∃ x : Ext W, w' = x.w) → wpList P l.toArray Q (l.drop n) a' w') (l.take n) a) : (Code.region id l.toArray true).wp P Q a W :=
  wp_region_tail (C := fun w' => ∃ x : Ext W, w' = x.w) n hm hB ⟨⟨_, below_draw W⟩, rfl⟩ h

theorem steady_tail_from {P : Program} {id : Nat} {Q : Exit → Act → World → Prop} {a : Act} {W w : World} {l : List Oper} (hbw : Below W.heap.size W w) (n : Nat) (hm : P.follows .mixedOrders = true)
    (hB : (decide (n ≤ l.length) && (Region.noSelect (l.take n).toArray && Region.lexFrom .any (l.take n).toArray n 0 (Array.replicate l.toArray.size false)) && backB .any l.toArray && tailB .any l.toArray n && guardB l.toArray n && Region.seqB .any l.toArray (l.length - n) n (fullTo n l.length)) = true)
    (h : wpQuiet P (l.take n).toArray (fun w' => ∃ x : Ext W, w' = x.w) (fun a' => ∀ w', (∃ x : Ext W, w' = x.w) → wpList P l.toArray Q (l.drop n) a' w') (l.take n) a) : (Code.region id l.toArray true).wp P Q a w :=
  wp_region_tail (C := fun w' => ∃ x : Ext W, w' = x.w) n hm hB ⟨⟨_, hbw.trans ((below_draw w).mono hbw.size)⟩, rfl⟩ h

theorem bcell {W w1 : World} (hb : Below W.heap.size W w1) : (∀ b o, b < W.heap.size → w1.cell? ⟨b, o, none⟩ = W.cell? ⟨b, o, none⟩) ∧ (∀ b o, b < W.heap.size → w1.frozen? ⟨b, o, none⟩ = W.frozen? ⟨b, o, none⟩) :=
  ⟨fun b o h => hb.cell (p := ⟨b, o, none⟩) h, fun b o h => hb.frozen (p := ⟨b, o, none⟩) h⟩

/-! ### A slice of the call's own that grows -/

/-- 'out = append(out, x)', x laid into a block of its own by the operation ahead. -/
theorem wpList_append1 {P : Program} {ops : Array Oper} {rest : List Oper} {o : Oper} {a : Act} {Q : Exit → Act → World → Prop} {w : World} (hgd : o.guard = none) (s x : Operand) (t : TypeId)
    (ho : o.op = .call { callee := .builtin .append, args := #[s, x], argTypes := #[t, t] })
    (base : Nat) (e : TypeId) (i : TypeInfo) (z : Value) (size bytes : Nat) (ht : P.underlying t = some (.slice e)) (hi : P.info? e = some i) (hz : i.zero = some z)
    (hsize : i.size = size) (hby : i.bytes = bytes) (hzs : z.cells.size = size) (hsz : 0 < size)
    (v : Value) (n : Nat) (xs : List Value) (hs : a.eval s = v) (hown : w.ownsRow base e size v n xs) (cs : List Value)
    (hx : a.eval x = .slice (some ⟨w.heap.size, 0, none⟩) 1 1) (hl : cs.length = size) (h1 : ∀ u ∈ cs, u.oneCell' = true)
    (h63 : n + 1 ≤ maxLen) (hbytes : (n + 1) * bytes ≤ 140737488355328) (hbase : base ≤ w.heap.size)
    (h : ∀ v' w', w'.ownsRow base e size v' (n + 1) (xs ++ cs) → w.grownBy w' v.ownBlock → Below base w w' → wpList P ops Q rest (a.put o.dst v') w') :
    wpList P ops Q (o :: rest) a (w.alloc (.cells cs.toArray e)) := by
  refine wpList_append_own (w := w.alloc (.cells cs.toArray e)) hgd s x t ho base e i z size bytes ht hi hz hsize hby hzs hsz v n xs hs (hown.alloc _) ⟨w.heap.size, 0, none⟩ 1 1 cs hx (by simpa using hl) ?_ h1 h63 hbytes (by simp; omega) ?_
  · intro j u hj
    have hc : (w.alloc (.cells cs.toArray e)).cell? ⟨w.heap.size, j, none⟩ = cs[j]? := by
      rw [cell_of_row _ _ _ _ _ _ (heap_alloc_new w _)]
      simp
    simp only [Addr.add_lit, Nat.zero_add]
    rw [hc]; exact hj
  · intro v' w' h2 h3 _
    have hlt := hown.lt
    refine h v' w' h2 ⟨h3.os, h3.tape, h3.output, Nat.le_trans (by simp) h3.size, fun k hk hne => ?_⟩ ⟨h3.os, h3.tape, h3.output, Nat.le_trans (by simp) h3.size, fun k hk => ?_⟩
    · rw [h3.block k (by simp; omega) hne]
      exact Below.heap_alloc _ _ _ hk
    · rw [h3.block k (by simp; omega) (fun e => by have := hlt k e.symm; omega)]
      exact Below.heap_alloc _ _ _ (by omega)

/-- The cells of bytes. -/
def bcells (l : List UInt8) : List Value := l.map fun b => .int .u8 (b.toNat : Int)

theorem push_foldl (l : List UInt8) : ∀ s : ByteArray, (l.map fun b : UInt8 => (b.toNat : Int)).foldl (fun r n => r.push (UInt8.ofNat n.toNat)) s = ⟨s.data ++ l.toArray⟩ := by
  induction l with
  | nil => intro s; simp
  | cons b l ih =>
    intro s
    simp only [List.map_cons, List.foldl_cons]
    rw [ih]
    simp [ByteArray.push]

/-- 'string(b)', b a slice of bytes of the call's own. -/
theorem run_string_own {P : Program} {w : World} {base : Nat} {src dst e : TypeId} {v : Value} {n : Nat} {l : List UInt8} (hown : w.ownsRow base e 1 v n (bcells l))
    (hs : P.underlying src = some (.slice e)) (he : P.underlying e = some (.int .u8)) (hd : P.underlying dst = some .string) : (convert src dst v).run P w = .ok (.string ⟨l.toArray⟩) w := by
  have hlen : (bcells l).length = n := by simpa using hown.1
  have hln : l.length = n := by simpa [bcells] using hlen
  rcases hown.2 with ⟨rfl, hn⟩ | ⟨g, cap, cur, rfl, _, hg, _, _, _, _⟩
  · have : l = [] := List.eq_nil_of_length_eq_zero (by omega)
    subst this
    rw [run_convert_bytes_string w src dst e _ _ _ hs he hd]
    simp only [Conv.bytesToString, Sem.run_pure]
    rfl
  · rw [run_convert_bytes_string w src dst e _ _ _ hs he hd]
    have hb : bcells l = (l.map fun b : UInt8 => (b.toNat : Int)).map (Value.int .u8) := by simp [bcells]
    have := run_bytesToString (P := P) w ⟨g, 0, none⟩ n cap (l.map fun b : UInt8 => (b.toNat : Int)) (by
      rw [← hb]
      rw [← hlen]
      refine run_loadCells_list (w := w) _ (bcells l) fun j u hj => ?_
      exact hown.cells rfl j u hj)
    rw [this, push_foldl]
    simp

theorem below_bytes (w : World) (e : TypeId) (s : ByteArray) : Below w.heap.size w (Lib.bytesWorld w e s) :=
  ⟨rfl, rfl, rfl, by rw [Lib.bytesWorld_size]; omega, fun k hk => Lib.bytesWorld_at_old w e s k hk⟩

theorem bsize {W w1 : World} (hb : Below W.heap.size W w1) : ∀ b, b < W.heap.size → b < w1.heap.size := fun _ h => Nat.lt_of_lt_of_le h hb.size

end Go.Proofs.YtkeehnhamkdogaaDoor

namespace Go.Proofs.YtkeehnhamkdogaaDoor
set_option linter.unusedVariables false
set_option linter.unusedSimpArgs false
open Go.RowKit
set_option maxRecDepth 100000

abbrev Tbld : TypeId := 65
theorem under_pb : Tryd.prog.underlying 62 = some (.pointer Tbld) := by kernel_rfl
theorem under_up : Tryd.prog.underlying 115 = some .unsafePointer := by kernel_rfl
theorem size_bld : (Tryd.prog.info? Tbld).map (·.size) = some 2 := by kernel_rfl
theorem lies_bld : liesAt Tryd.prog Tryd.prog.depth Tbld (2 / Tryd.prog.cellsOf Tbld) 0 Tbld 1 = true := by kernel_rfl
theorem cc_used (b : Nat) (w : World) (h0 : w.cell? ⟨b, 0, none⟩ = some (.pointer (some ⟨b, 0, none⟩))) :
    Calls Tryd.prog 61 #[.pointer (some ⟨b, 0, none⟩)] w fun e w' => e = .returned (.tuple #[]) ∧ w' = w := by
  obtain ⟨j, hj, _⟩ := Option.map_eq_some_iff.1 size_bld
  go_enter Tryd.func61, Tryd.ntmps61
  go_wp2
  rw [Lib.run_neq_ptr_same w _ under_pb hj]
  go_wp2
  go_end0
  exact ⟨rfl, rfl⟩
theorem cc_fresh (b : Nat) (w : World) (h0 : w.cell? ⟨b, 0, none⟩ = some (.pointer none)) (hsh : w.shape? b = some (Tbld, 2)) (hfz : w.frozen? ⟨b, 0, none⟩ = false) :
    Calls Tryd.prog 61 #[.pointer (some ⟨b, 0, none⟩)] w fun e w' => e = .returned (.tuple #[]) ∧ w' = w.setCell ⟨b, 0, none⟩ (.pointer (some ⟨b, 0, none⟩)) := by
  obtain ⟨j, hj, hjs⟩ := Option.map_eq_some_iff.1 size_bld
  go_enter Tryd.func61, Tryd.ntmps61
  go_wp2
  rw [Lib.run_to_unsafe w ⟨b, 0, none⟩ under_pb under_up hj (by rw [hjs]; decide) hsh (Nat.zero_lt_succ 1)]
  simp only [Result.andThen]
  rw [Oper.upon_value]
  go_wp2
  rw [run_callFunc_extern Tryd.func75 (by kernel_rfl) (by kernel_rfl) (by kernel_rfl) (e := Extern.AbiNoEscape.same) (by kernel_rfl)]
  rw [Lib.run_noEscape]
  simp only [Result.andThen]
  rw [Oper.upon_value]
  go_wp2
  rw [Lib.run_from_unsafe w ⟨b, 0, none⟩ under_up under_pb hj hsh lies_bld]
  simp only [Result.andThen]
  rw [Oper.upon_value]
  go_wp2
  go_end0
  exact ⟨rfl, rfl⟩
theorem open_bld {ι : Nat → Value} {S : Nat → Prop} {w : World} {a x : CV} (h : BlkOk ι S w 0 (.obj [a, x] Tbld)) : ∃ b u0 u1, ι 0 = .pointer (some ⟨b, 0, none⟩) ∧ w.heap[b]? = some (.cells #[u0, u1] Tbld (0, 0)) ∧ VC ι S w a u0 ∧ VC ι S w x u1 ∧ ¬ S b := by
  obtain ⟨b, arr, ty, h1, h2, h3, h4⟩ := h
  obtain ⟨u0, l, e0, e1, h3⟩ := h3.cons_left
  obtain ⟨u1, rfl, e2⟩ := h3.one_left
  have hty : ty.1 = Tbld := by
    rcases ty.2 with h | h
    · exact absurd h (by decide)
    · exact h
  rw [hty] at h2
  refine ⟨b, u0, u1, h1, ?_, e1, e2, h4⟩
  rw [h2]
  congr 2
  apply Array.ext'
  rw [e0]
theorem bld_arg {ι : Nat → Value} {S : Nat → Prop} {w : World} {b : Nat} {vs : List Value} (h1 : ι 0 = .pointer (some ⟨b, 0, none⟩)) (h : All2 (V1 ι S w) [.c (.ptr 0 0)] vs) : vs = [.pointer (some ⟨b, 0, none⟩)] := by
  obtain ⟨v, rfl, b', e1, e2⟩ := h.one_left
  rw [h1] at e1
  cases e1
  rw [e2]
theorem copyCheck_used (x : CV) (nx : Nat) : CallsM Tryd.prog Γ0 61 [(0, .obj [.ptr 0 0, x] Tbld)] nx [.c (.ptr 0 0)] (.tup []) [(0, .obj [.ptr 0 0, x] Tbld)] [] := by
  refine ⟨⟨_, Tryd.func61, by kernel_rfl, rfl⟩, fun ι S w vs hs _ hblk hdst hvs => ?_⟩
  have hb := hblk _ (List.mem_singleton.2 rfl)
  obtain ⟨b, u0, u1, h1, h2, h3, h4, h5⟩ := open_bld hb
  obtain rfl := bld_arg h1 hvs
  obtain ⟨b', e1, rfl⟩ := h3
  rw [h1] at e1
  cases e1
  refine (cc_used b w (by simp [World.cell?, h2])).mono fun e w' ⟨he, hw⟩ => ?_
  subst he; subst hw
  refine .inl ⟨_, ι, S, rfl, ⟨[], rfl, .nil⟩, fun _ _ => rfl, fun _ h => h, fun _ h => .inl h, hs, rfl, rfl, rfl, Nat.le_refl _, fun _ _ _ => rfl, fun k b hk => ?_, (fun _ _ h => by simp at h), (fun _ _ h => by simp at h), (fun _ _ _ _ _ h => by simp at h)⟩
  simp only [List.mem_singleton, Prod.mk.injEq] at hk
  obtain ⟨rfl, rfl⟩ := hk
  exact hb
theorem copyCheck_fresh (x : CV) (nx : Nat) : CallsM Tryd.prog Γ0 61 [(0, .obj [.d (.v (.pointer none)), x] Tbld)] nx [.c (.ptr 0 0)] (.tup []) [(0, .obj [.ptr 0 0, x] Tbld)] [] := by
  refine ⟨⟨_, Tryd.func61, by kernel_rfl, rfl⟩, fun ι S w vs hs _ hblk hdst hvs => ?_⟩
  obtain ⟨b, u0, u1, h1, h2, h3, h4, h5⟩ := open_bld (hblk _ (List.mem_singleton.2 rfl))
  obtain rfl := bld_arg h1 hvs
  obtain rfl : u0 = .pointer none := by have h' : Imm S w _ u0 := h3; cases h'; rfl
  refine (cc_fresh b w (by simp [World.cell?, h2]) (by simp [World.shape?, h2]) (by simp [World.frozen?, h2])).mono fun e w' ⟨he, hw⟩ => ?_
  subst he; subst hw
  have hother : ∀ b', b' ≠ b → (w.setCell ⟨b, 0, none⟩ (.pointer (some ⟨b, 0, none⟩))).heap[b']? = w.heap[b']? := fun b' hb' => Go.heap_setCell_other w _ _ _ hb'
  have hown := Go.heap_setCell_same w b 0 _ _ (.pointer (some ⟨b, 0, none⟩)) h2
  refine .inl ⟨_, ι, S, rfl, ⟨[], rfl, .nil⟩, fun _ _ => rfl, fun _ h => h, fun _ h => .inl h, (fun b' hb' => by have := hs b' hb'; simpa using this), rfl, rfl, rfl, by simp, fun b' _ hne => hother b' (fun e => ?_), fun k b' hk => ?_, (fun _ _ h => by simp at h), (fun _ _ h => by simp at h), (fun _ _ _ _ _ h => by simp at h)⟩
  · subst e
    exact hne 0 (by simp) (by rw [h1]; rfl)
  · simp only [List.mem_singleton, Prod.mk.injEq] at hk
    obtain ⟨rfl, rfl⟩ := hk
    exact ⟨b, _, ⟨Tbld, .inr rfl⟩, h1, hown, .cons ⟨b, h1, rfl⟩ (.cons (VC.mono (fun b' hb' => hother b' (fun e => by subst e; exact h5 hb')) (fun _ h => h) (fun _ _ => rfl) h4) .nil), h5⟩
abbrev Tu8 : TypeId := 5
theorem u8_info : InfoU8 Tryd.prog Tu8 := by
  have h : ∃ i, Tryd.prog.info? Tu8 = some i ∧ i.zero = some (.int .u8 0) ∧ i.size = 1 ∧ i.bytes = 1 := info_parts (by kernel_rfl)
  exact h
abbrev Brow (l : List UInt8) : Blk := .row 1 Tu8 (byteRows l)
theorem byteRows_app (l m : List UInt8) : byteRows l ++ byteRows m = byteRows (l ++ m) := by simp [byteRows]
theorem byteRows_len (l : List UInt8) : (byteRows l).length = l.length := by simp [byteRows]
theorem cc_row (a : CV) (ha : a = .d (.v (.pointer none)) ∨ a = .ptr 0 0) (l : List UInt8) : CallsM Tryd.prog Γ0 61 [(0, .obj [a, .row 1] Tbld), (1, Brow l)] 2 [.c (.ptr 0 0)] (.tup []) [(0, .obj [.ptr 0 0, .row 1] Tbld)] [] := by
  rcases ha with rfl | rfl
  · exact CallsM.more (copyCheck_fresh (.row 1) 2) (by simp)
  · exact CallsM.more (copyCheck_used (.row 1) 2) (by simp)
theorem WriteString_c (a : CV) (ha : a = .d (.v (.pointer none)) ∨ a = .ptr 0 0) (l : List UInt8) (s : ByteArray) (h : l.length + s.size ≤ 140737488355328) :
    CallsM Tryd.prog Γ0 43 [(0, .obj [a, .row 1] Tbld), (1, Brow l)] 2 [.c (.ptr 0 0), c1 (ds s)] (.tup [c1 (di s.size), c1 (.v .nilIface)]) [(0, .obj [.ptr 0 0, .row 2] Tbld), (1, .dead)] [Brow (l ++ s.data.toList)] := by
  have hcc := cc_row a ha l
  have e := byteRows_app l s.data.toList
  have hl : (byteRows l).length + s.size ≤ 140737488355328 := by rw [byteRows_len]; exact h
  rcases ha with rfl | rfl
  all_goals
    refine fn_ruleM (C := ⟨Tryd.prog, layF, Tryd.f43.ntmps, Γ0, 2, [], []⟩) layF_ok mixed Tryd.func43 rfl (by kernel_rfl) rfl rfl rfl ?_
    refine ex_callM hcc ?_
    refine ⟨u8_info, hl, ?_⟩
    refine ex_is _ e ?_
    exact ⟨rfl, TLe.rfl, rfl, rfl⟩
end Go.Proofs.YtkeehnhamkdogaaDoor

namespace Go.Proofs.YtkeehnhamkdogaaDoor
set_option linter.unusedVariables false
set_option linter.unusedSimpArgs false
open Go.RowKit
set_option maxRecDepth 100000

theorem WriteByte_c (a : CV) (ha : a = .d (.v (.pointer none)) ∨ a = .ptr 0 0) (l : List UInt8) (c : UInt8) (h : l.length + 1 ≤ 70368744177664) :
    CallsM Tryd.prog Γ0 50 [(0, .obj [a, .row 1] Tbld), (1, Brow l)] 2 [.c (.ptr 0 0), c1 (.v (.int .u8 c.toNat))] (.o (c1 (.v .nilIface))) [(0, .obj [.ptr 0 0, .row 2] Tbld), (1, .dead)] [Brow (l ++ [c])] := by
  have hcc := cc_row a ha l
  have e : byteRows l ++ [[D.v (.int .u8 c.toNat)]] = byteRows (l ++ [c]) := byteRows_app l [c]
  have hl : (byteRows l).length = l.length := byteRows_len l
  rcases ha with rfl | rfl
  all_goals
    refine fn_ruleM (C := ⟨Tryd.prog, layF, Tryd.f50.ntmps, Γ0, 2, [], []⟩) layF_ok mixed Tryd.func50 rfl (by kernel_rfl) rfl rfl rfl ?_
    refine ex_callM hcc ?_
    refine ex_app l.length 1 2 hl rfl rfl (by omega) ?_
    refine ex_is _ e ?_
    exact ⟨rfl, TLe.rfl, rfl, rfl⟩
theorem byteRows_ne {l : List UInt8} (h : l ≠ []) : 0 < (byteRows l).length := by rw [byteRows_len]; exact List.length_pos_iff.2 h
theorem String_c (l : List UInt8) (hn : l ≠ []) :
    CallsM Tryd.prog Γ0 32 [(0, .obj [.ptr 0 0, .row 1] Tbld), (1, Brow l)] 2 [.c (.ptr 0 0)] (.o (c1 (ds ⟨l.toArray⟩))) [(0, .obj [.ptr 0 0, .row 1] Tbld), (1, .dead)] [] := by
  have h0 := byteRows_ne hn
  have hl : (byteRows l).length = l.length := byteRows_len l
  refine fn_ruleM (C := ⟨Tryd.prog, layF, Tryd.f32.ntmps, Γ0, 2, [], []⟩) layF_ok mixed Tryd.func32 rfl (by kernel_rfl) rfl rfl rfl ?_
  refine ⟨h0, ?_⟩
  refine ex_is l.length hl ?_
  refine ⟨⟨by kernel_rfl, by kernel_rfl⟩, rfl, rfl, rfl, rfl, l, rfl, hn, rfl, ?_⟩
  refine ⟨by kernel_rfl, ?_⟩
  exact ⟨rfl, TLe.rfl, rfl, rfl⟩
end Go.Proofs.YtkeehnhamkdogaaDoor

namespace Go.Proofs.YtkeehnhamkdogaaDoor
set_option linter.unusedVariables false
set_option linter.unusedSimpArgs false
open Go.RowKit
set_option maxRecDepth 100000

/-- A value as plain data. -/
inductive PV where
  | mk (k : Int) (n : Nat) (b : ByteArray) (l : List PV)
def PV.k : PV → Int | .mk k _ _ _ => k
def PV.n : PV → Nat | .mk _ n _ _ => n
def PV.b : PV → ByteArray | .mk _ _ b _ => b
def PV.l : PV → List PV | .mk _ _ _ l => l
instance : Inhabited PV := ⟨.mk 0 0 ⟨#[]⟩ []⟩
mutual
def dl : PV → D
  | .mk _ _ _ l => .sl 4 (dls l)
def dls : List PV → List (List D)
  | [] => []
  | t :: ts => [di t.k, du t.n, ds t.b, dl t] :: dls ts
end
def drow (t : PV) : List D := [di t.k, du t.n, ds t.b, dl t]
theorem dls_map : ∀ l : List PV, dls l = l.map drow
  | [] => rfl
  | t :: ts => by simp only [dls, List.map_cons, dls_map ts]; rfl
theorem dl_mk (k : Int) (n : Nat) (b : ByteArray) (l : List PV) : dl (.mk k n b l) = .sl 4 (l.map drow) := by rw [dl, dls_map]
theorem drow_mk (k : Int) (n : Nat) (b : ByteArray) (l : List PV) : drow (.mk k n b l) = [di k, du n, ds b, .sl 4 (l.map drow)] := by rw [drow, dl_mk]; rfl
/-- A struct whose last cell is a nil slice reads as one without elements. -/
theorem TLe.nil4 {a b c : D} {s : Nat} : TLe (.o (gD [a, b, c, dnil])) (.o (gD [a, b, c, .sl s []])) := fun ι S w v ⟨us, hu, h⟩ => by
  have h : All2 (VC ι S w) [.d a, .d b, .d c, .d dnil] us := h
  obtain ⟨u1, us, rfl, e1, h⟩ := h.cons_left
  obtain ⟨u2, us, rfl, e2, h⟩ := h.cons_left
  obtain ⟨u3, us, rfl, e3, h⟩ := h.cons_left
  obtain ⟨u4, rfl, e4⟩ := h.one_left
  exact ⟨_, hu, .cons e1 (.cons e2 (.cons e3 (.cons (CLe_nil e4) .nil)))⟩
theorem I_c (n : Nat) : CallsA Tryd.prog Γ0 28 [c1 (du n)] (.o (gD (drow (.mk 1 n ⟨#[]⟩ [])))) := by
  rw [drow_mk]
  refine fn_rule (C := ⟨Tryd.prog, layF, Tryd.f28.ntmps, Γ0, 0, [], []⟩) layF_ok mixed Tryd.func28 rfl (by kernel_rfl) rfl rfl rfl ?_
  exact TLe.nil4
theorem B_c (s : ByteArray) : CallsA Tryd.prog Γ0 29 [c1 (ds s)] (.o (gD (drow (.mk 2 0 s [])))) := by
  rw [drow_mk]
  refine fn_rule (C := ⟨Tryd.prog, layF, Tryd.f29.ntmps, Γ0, 0, [], []⟩) layF_ok mixed Tryd.func29 rfl (by kernel_rfl) rfl rfl rfl ?_
  exact TLe.nil4
theorem L_c (l : List PV) : CallsA Tryd.prog Γ0 21 [c1 (.sl 4 (l.map drow))] (.o (gD (drow (.mk 3 0 ⟨#[]⟩ l)))) := by
  rw [drow_mk]
  refine fn_rule (C := ⟨Tryd.prog, layF, Tryd.f21.ntmps, Γ0, 0, [], []⟩) layF_ok mixed Tryd.func21 rfl (by kernel_rfl) rfl rfl rfl ?_
  exact TLe.rfl
theorem R_c (l : List PV) : CallsA Tryd.prog Γ0 22 [c1 (.sl 4 (l.map drow))] (.o (gD (drow (.mk 4 0 ⟨#[]⟩ l)))) := by
  rw [drow_mk]
  refine fn_rule (C := ⟨Tryd.prog, layF, Tryd.f22.ntmps, Γ0, 0, [], []⟩) layF_ok mixed Tryd.func22 rfl (by kernel_rfl) rfl rfl rfl ?_
  exact TLe.rfl
end Go.Proofs.YtkeehnhamkdogaaDoor

namespace Go.Proofs.YtkeehnhamkdogaaDoor
set_option linter.unusedVariables false
set_option linter.unusedSimpArgs false
open Go.RowKit
set_option maxRecDepth 100000

mutual
/-- Of how many values it is made. -/
def PV.num : PV → Nat
  | .mk _ _ _ l => 1 + numL l
def numL : List PV → Nat
  | [] => 0
  | t :: ts => t.num + numL ts
end
theorem num_pos : ∀ t : PV, 1 ≤ t.num
  | .mk _ _ _ l => by rw [PV.num]; omega
theorem numL_len : ∀ l : List PV, l.length ≤ numL l
  | [] => by simp [numL]
  | t :: ts => by
    have := num_pos t
    have := numL_len ts
    rw [numL, List.length_cons]; omega
theorem numL_at : ∀ {l : List PV} {i : Nat} (h : i < l.length), l[i].num ≤ numL l
  | t :: ts, 0, _ => by rw [numL, List.getElem_cons_zero]; omega
  | t :: ts, i + 1, h => by
    have := numL_at (l := ts) (i := i) (by simpa using h)
    rw [numL, List.getElem_cons_succ]; omega
mutual
def sameP : PV → PV → Bool
  | .mk k n b l, .mk k' n' b' l' => decide (k = k') && decide (n = n') && decide (b = b') && sameL l l'
def sameL : List PV → List PV → Bool
  | [], [] => true
  | x :: xs, y :: ys => sameP x y && sameL xs ys
  | _, _ => false
end
theorem sameL_len : ∀ {l l' : List PV}, l.length ≠ l'.length → sameL l l' = false
  | [], [], h => absurd rfl h
  | [], _ :: _, _ => by simp [sameL]
  | _ :: _, [], _ => by simp [sameL]
  | x :: xs, y :: ys, h => by
    simp only [sameL]
    rw [sameL_len (by simpa using h), Bool.and_false]
mutual
theorem sameP_rfl : ∀ t : PV, sameP t t = true
  | .mk k n b l => by simp [sameP, sameL_rfl l]
theorem sameL_rfl : ∀ l : List PV, sameL l l = true
  | [] => by simp [sameL]
  | t :: ts => by simp [sameL, sameP_rfl t, sameL_rfl ts]
end
theorem vsame_c : ∀ (a b : PV), a.num ≤ 4611686018427387904 → CallsA Tryd.prog Γ0 41 [gD (drow a), gD (drow b)] (.o (c1 (db (sameP a b))))
  | .mk k n b l, .mk k' n' b' l', ha => by
    rw [PV.num] at ha
    have hll := numL_len l
    obtain ⟨R, hR⟩ : ∃ R, sameL l l' = R := ⟨_, rfl⟩
    have hs : sameP (.mk k n b l) (.mk k' n' b' l') = (decide (k = k') && decide (n = n') && decide (b = b') && R) := by rw [sameP, hR]
    have ih : ∀ i (h : i < l.length) (h' : i < l'.length), CallsA Tryd.prog Γ0 41 [gD (drow l[i]), gD (drow l'[i])] (.o (c1 (db (sameP l[i] l'[i])))) := fun i h h' => vsame_c l[i] l'[i] (by have := numL_at h; omega)
    obtain ⟨T, hT⟩ : ∃ T, sameP (.mk k n b l) (.mk k' n' b' l') = T := ⟨_, rfl⟩
    rw [hT, drow_mk, drow_mk]
    rw [hs] at hT
    refine fn_rule (C := ⟨Tryd.prog, layF, Tryd.f41.ntmps, Γ0, 0, [], []⟩) layF_ok mixed Tryd.func41 rfl (by kernel_rfl) rfl rfl rfl ?_
    refine ex_dec (fun h1 => ?_) (fun h1 => ?_)
    · exact TLe.eq (by rw [← hT, decide_eq_false h1]; rfl)
    obtain rfl : k = k' := by simpa using h1
    refine ex_dec (fun h2 => ?_) (fun h2 => ?_)
    · exact TLe.eq (by rw [← hT, decide_eq_false (show ¬ n = n' by omega), Bool.and_false]; rfl)
    obtain rfl : n = n' := by omega
    refine ex_dec (fun h3 => ?_) (fun h3 => ?_)
    · exact TLe.eq (by rw [← hT, decide_eq_false h3, Bool.and_false]; rfl)
    obtain rfl : b = b' := by simpa using h3
    refine ex_is (l.length) (by simp) ?_
    refine ex_is (l'.length) (by simp) ?_
    refine ex_dec (fun h4 => ?_) (fun h4 => ?_)
    · rw [sameL_len (by omega)] at hR
      exact TLe.eq (by rw [← hT, ← hR, Bool.and_false]; rfl)
    have hl : l.length = l'.length := by omega
    simp only [decide_true, Bool.true_and] at hT
    subst hT
    refine ex_is (l.length) (by simp) ?_
    refine ex_loop (X := Nat) (fun q => ⟨[(2, .o (.c (.ptr 0 0))), (3, .o (.c (.ptr 1 0))), (36, Ti l.length), (37, Ti q)], [(0, .obj [.d (di k), .d (du n), .d (ds b), .d (.sl 4 (l.map drow))]), (1, .obj [.d (di k), .d (du n), .d (ds b), .d (.sl 4 (l'.map drow))])], 2⟩) (fun q => l.length - q)
      (fun q => q ≤ l.length ∧ sameL (l.drop q) (l'.drop q) = R) 0 ⟨by omega, by simpa using hR⟩ (SLe.of ⟨⟨rfl, rfl, rfl, rfl, trivial⟩, ⟨rfl, rfl, trivial⟩⟩) ?_
    rintro q ⟨hq, hg⟩
    refine ex_dec (fun h5 => ?_) (fun h5 => ?_)
    · have hql : q < l.length := by omega
      have hql' : q < l'.length := by omega
      rw [List.drop_eq_getElem_cons hql, List.drop_eq_getElem_cons hql', sameL] at hg
      refine ex_row (q) _ (by first | rfl | omega | simp) (at_some (hql)) ?_
      refine ex_row (q) _ (by first | rfl | omega | simp) (at_some (hql')) ?_
      refine ex_call (ih q hql hql') ?_
      cases hsm : sameP l[q] l'[q]
      ·
        refine ⟨by kernel_rfl, ?_⟩
        rw [hsm] at hg
        exact TLe.eq (by rw [← hg]; rfl)
      ·
        refine ⟨by kernel_rfl, ?_⟩
        rw [hsm, Bool.true_and] at hg
        refine ex_i64 (((q + 1 : Nat) : Int)) (by first | rfl | omega | simp) (by omega) (by omega) ?_
        exact ex_round (q + 1) ⟨by omega, hg⟩ (by show _ - _ < _ - _; omega) (SLe.of ⟨⟨rfl, rfl, rfl, rfl, trivial⟩, ⟨rfl, rfl, trivial⟩⟩)
    · obtain rfl : q = l.length := by omega
      rw [List.drop_length, hl, List.drop_length, sameL] at hg
      exact TLe.eq (by rw [← hg]; rfl)
termination_by a => SizeOf.sizeOf a
decreasing_by
  have := List.sizeOf_lt_of_mem (List.getElem_mem h)
  simp only [PV.mk.sizeOf_spec]
  omega
def leanB (k : Int) (n : Nat) (b : ByteArray) (len : Nat) : Bool := decide (0 ≤ k ∧ k < 5) && (decide (k = 1) || decide (n = 0)) && (decide (k = 2) || decide (b = ⟨#[]⟩)) && (decide (3 ≤ k) || decide (len = 0))
theorem lean_c (k : Int) (n : Nat) (b : ByteArray) (l : List PV) : CallsA Tryd.prog Γ0 48 [gD (drow (.mk k n b l))] (.o (c1 (db (leanB k n b l.length)))) := by
  rw [drow_mk]
  obtain ⟨R, hR⟩ : ∃ R, leanB k n b l.length = R := ⟨_, rfl⟩
  rw [hR]
  have fin : ∀ b', leanB k n b l.length = b' → TLe (retT [c1 (db b')]) (.o (c1 (db R))) := fun b' h => TLe.eq (by rw [← hR, h]; rfl)
  have key : leanB k n b l.length = decide ((0 ≤ k ∧ k < 5) ∧ (k = 1 ∨ n = 0) ∧ (k = 2 ∨ b = ⟨#[]⟩) ∧ (3 ≤ k ∨ l.length = 0)) := by simp only [leanB, Bool.decide_and, Bool.decide_or, Bool.and_assoc]
  refine fn_rule (C := ⟨Tryd.prog, layF, Tryd.f48.ntmps, Γ0, 0, [], []⟩) layF_ok mixed Tryd.func48 rfl (by kernel_rfl) rfl rfl rfl ?_
  repeat' first
    | refine ex_is l.length (by simp) ?_
    | refine ex_dec (fun _ => ?_) (fun _ => ?_)
  all_goals first
    | exact fin _ (by rw [key]; exact decide_eq_true ⟨by omega, by omega, (by first | exact .inl (by omega) | exact .inr (by assumption)), by omega⟩)
    | exact fin _ (by rw [key]; exact decide_eq_false (by rintro ⟨h1, h2, h3 | h3, h4⟩ <;> first | omega | contradiction))
mutual
/-- Of how many values a good one is made; 0: it isn't good, with so many in one another. -/
def countP : PV → Nat → Nat
  | .mk k n b l, m => if leanB k n b l.length = false ∨ m = 0 then 0 else countL l (m - 1) 1
def countL : List PV → Nat → Nat → Nat
  | [], _, acc => acc
  | x :: xs, m, acc => if countP x m = 0 then 0 else countL xs m (acc + countP x m)
end
mutual
theorem countP_le : ∀ (t : PV) (m : Nat), countP t m ≤ t.num
  | .mk k n b l, m => by
    rw [countP, PV.num]
    split
    · omega
    · exact countL_le l (m - 1) 1
theorem countL_le : ∀ (l : List PV) (m acc : Nat), countL l m acc ≤ acc + numL l
  | [], m, acc => by rw [countL, numL]; omega
  | x :: xs, m, acc => by
    have h1 := countP_le x m
    have h2 := countL_le xs m (acc + countP x m)
    rw [countL, numL]
    split <;> omega
end
theorem count_c : ∀ (t : PV) (m : Nat), t.num ≤ 4611686018427387904 → m ≤ 100000 → CallsA Tryd.prog Γ0 30 [gD (drow t), c1 (di m)] (.o (c1 (di (countP t m))))
  | .mk k n b l, m, ht, hm => by
    rw [PV.num] at ht
    have hll := numL_len l
    have ih : ∀ i (h : i < l.length), CallsA Tryd.prog Γ0 30 [gD (drow l[i]), c1 (di (m - 1 : Nat))] (.o (c1 (di (countP l[i] (m - 1))))) := fun i h => count_c l[i] (m - 1) (by have := numL_at h; omega) (by omega)
    rw [countP]
    by_cases h0 : leanB k n b l.length = false ∨ m = 0
    · rw [if_pos h0]
      refine fn_rule (C := ⟨Tryd.prog, layF, Tryd.f30.ntmps, Γ0, 0, [], []⟩) layF_ok mixed Tryd.func30 rfl (by kernel_rfl) rfl rfl rfl ?_
      refine ex_call (lean_c k n b l) ?_
      cases hb : leanB k n b l.length
      · exact TLe.eq rfl
      ·
        refine ex_true (by rcases h0 with h0 | h0; rw [hb] at h0; cases h0; omega) ?_
        exact TLe.eq rfl
    · rw [if_neg h0]
      have hb : leanB k n b l.length = true := by cases h : leanB k n b l.length with | true => rfl | false => exact absurd (.inl h) h0
      have hm0 : m ≠ 0 := fun h => h0 (.inr h)
      obtain ⟨R, hR⟩ : ∃ R, countL l (m - 1) 1 = R := ⟨_, rfl⟩
      have hlean := lean_c k n b l
      rw [hR]
      rw [hb] at hlean
      rw [drow_mk] at hlean ⊢
      refine fn_rule (C := ⟨Tryd.prog, layF, Tryd.f30.ntmps, Γ0, 0, [], []⟩) layF_ok mixed Tryd.func30 rfl (by kernel_rfl) rfl rfl rfl ?_
      refine ex_call (hlean) ?_
      refine ex_false (by omega) ?_
      refine ex_is (l.length) (by simp) ?_
      refine ex_loop (X := Nat × Nat) (fun ⟨q, acc⟩ => ⟨[(1, Ti m), (2, .o (.c (.ptr 0 0))), (5, Ti acc), (17, .o (c1 (.sl 4 (l.map drow)))), (18, Ti l.length), (19, Ti q)], [(0, .obj [.d (di k), .d (du n), .d (ds b), .d (.sl 4 (l.map drow))])], 1⟩) (fun q => l.length - q.1)
        (fun ⟨q, acc⟩ => q ≤ l.length ∧ acc + numL (l.drop q) ≤ 4611686018427387904 ∧ countL (l.drop q) (m - 1) acc = R) (0, 1) ⟨by omega, by simpa using ht, by simpa using hR⟩ (SLe.of ⟨⟨rfl, rfl, rfl, rfl, rfl, rfl, trivial⟩, ⟨rfl, trivial⟩⟩) ?_
      rintro ⟨q, acc⟩ ⟨hq, ha, hg⟩
      refine ex_dec (fun h5 => ?_) (fun h5 => ?_)
      · have hql : q < l.length := by omega
        rw [List.drop_eq_getElem_cons hql] at ha hg
        rw [countL] at hg
        rw [numL] at ha
        have hle := countP_le l[q] (m - 1)
        refine ex_row (q) _ (by first | rfl | omega | simp) (at_some (hql)) ?_
        refine ex_i64 (((m - 1 : Nat) : Int)) (by first | rfl | omega | simp) (by omega) (by omega) ?_
        refine ex_call (ih q hql) ?_
        generalize countP l[q] (m - 1) = c at *
        refine ex_dec (fun h6 => ?_) (fun h6 => ?_)
        · rw [if_pos (by omega)] at hg
          exact TLe.eq (by rw [← hg]; rfl)
        · rw [if_neg (by omega)] at hg
          refine ex_i64 (((acc + c : Nat) : Int)) (by first | rfl | omega | simp) (by omega) (by omega) ?_
          refine ex_i64 (((q + 1 : Nat) : Int)) (by first | rfl | omega | simp) (by omega) (by omega) ?_
          exact ex_round (q + 1, acc + c) ⟨by omega, by omega, hg⟩ (by show _ - _ < _ - _; simp only; omega) (SLe.of ⟨⟨rfl, rfl, rfl, rfl, rfl, rfl, trivial⟩, ⟨rfl, trivial⟩⟩)
      · obtain rfl : q = l.length := by omega
        rw [List.drop_length, countL] at hg
        exact TLe.eq (by rw [← hg]; rfl)
termination_by t => SizeOf.sizeOf t
decreasing_by
  have := List.sizeOf_lt_of_mem (List.getElem_mem h)
  simp only [PV.mk.sizeOf_spec]
  omega
def goodP (t : PV) : Bool := decide (0 < countP t 1200)
theorem Count_c (t : PV) (ht : t.num ≤ 4611686018427387904) : CallsA Tryd.prog Γ0 13 [gD (drow t)] (.o (c1 (di (countP t 1200)))) := by
  refine fn_rule (C := ⟨Tryd.prog, layF, Tryd.f13.ntmps, Γ0, 0, [], []⟩) layF_ok mixed Tryd.func13 rfl (by kernel_rfl) rfl rfl rfl ?_
  refine ex_call (count_c t 1200 ht (by omega)) ?_
  exact TLe.rfl
theorem Good_c (t : PV) (ht : t.num ≤ 4611686018427387904) : CallsA Tryd.prog Γ0 12 [gD (drow t)] (.o (c1 (db (goodP t)))) := by
  refine fn_rule (C := ⟨Tryd.prog, layF, Tryd.f12.ntmps, Γ0, 0, [], []⟩) layF_ok mixed Tryd.func12 rfl (by kernel_rfl) rfl rfl rfl ?_
  refine ex_call (Count_c t ht) ?_
  refine ex_eq ?_
  exact TLe.eq (by simp [retT, goodP])
theorem Equal_c (a b : PV) (ha : a.num ≤ 4611686018427387904) (hb : b.num ≤ 4611686018427387904) : CallsA Tryd.prog Γ0 20 [gD (drow a), gD (drow b)] (.o (c1 (db (goodP a && goodP b && sameP a b)))) := by
  refine fn_rule (C := ⟨Tryd.prog, layF, Tryd.f20.ntmps, Γ0, 0, [], []⟩) layF_ok mixed Tryd.func20 rfl (by kernel_rfl) rfl rfl rfl ?_
  refine ex_call (Good_c a ha) ?_
  cases h1 : goodP a
  · exact TLe.eq rfl
  refine ex_call (Good_c b hb) ?_
  cases h2 : goodP b
  · exact TLe.eq rfl
  refine ex_call (vsame_c a b ha) ?_
  exact TLe.eq rfl
end Go.Proofs.YtkeehnhamkdogaaDoor

namespace Go.Proofs.YtkeehnhamkdogaaDoor
set_option linter.unusedVariables false
set_option linter.unusedSimpArgs false
open Go.RowKit
set_option maxRecDepth 100000

def hexL : List UInt8 := [48, 49, 50, 51, 52, 53, 54, 55, 56, 57, 97, 98, 99, 100, 101, 102]
def hx (c : UInt8) : List UInt8 := [hexL.getD (c.toNat / 16) 0, hexL.getD (c.toNat % 16) 0]
mutual
/-- A value's signs. -/
def txP : PV → List UInt8
  | .mk k n b l => if k = 0 then [45] else if k = 1 then Lib.decDigits n else if k = 2 then [120, 34] ++ b.data.toList.flatMap hx ++ [34] else
    if k = 3 then [91] ++ txL true l ++ [93] else [123] ++ txL true l ++ [125]
def txL : Bool → List PV → List UInt8
  | _, [] => []
  | f, t :: ts => (if f then [] else [44, 32]) ++ txP t ++ txL false ts
end
theorem brackets_c (k : Int) : CallsA Tryd.prog Γ0 51 [c1 (di k)] (.o (c1 (ds ⟨if k = 3 then #[91, 93] else #[123, 125]⟩))) := by
  refine fn_rule (C := ⟨Tryd.prog, layF, Tryd.f51.ntmps, Γ0, 0, [], []⟩) layF_ok mixed Tryd.func51 rfl (by kernel_rfl) rfl rfl rfl ?_
  refine ex_dec (fun h => ?_) (fun h => ?_)
  · rw [if_pos h]
    exact TLe.rfl
  · rw [if_neg h]
    exact TLe.rfl
/-- What FormatUint gives of a number. -/
def FmtOk (n : Nat) : Prop := CallsA Tryd.prog ΓS 49 [c1 (du n), c1 (di 10)] (.o (c1 (ds ⟨(Lib.decDigits n).toArray⟩)))
mutual
def AllN (p : Nat → Prop) : PV → Prop
  | .mk k n _ l => (k = 1 → p n) ∧ AllNL p l
def AllNL (p : Nat → Prop) : List PV → Prop
  | [] => True
  | t :: ts => AllN p t ∧ AllNL p ts
end
def WrC (t : PV) : Prop := ∀ (a : CV) (_ : a = .d (.v (.pointer none)) ∨ a = .ptr 0 0) (l : List UInt8), l.length + (txP t).length ≤ 70368744177600 →
  CallsM Tryd.prog ΓS 31 [(0, .obj [a, .row 1] Tbld), (1, Brow l)] 2 [gD (drow t), .c (.ptr 0 0)] (.tup []) [(0, .obj [.ptr 0 0, .row 2] Tbld), (1, .dead)] [Brow (l ++ txP t)]
theorem WrC0 (n : Nat) (b : ByteArray) (kids : List PV) : WrC (.mk 0 n b kids) := by
  intro a ha l hl
  have e : txP (.mk 0 n b kids) = [45] := by rw [txP, if_pos rfl]
  rw [e, drow_mk]
  rw [e] at hl
  have hw := WriteString_c a ha l ⟨#[45]⟩ (by simp at hl; simp only [ByteArray.size]; simp; omega)
  rcases ha with rfl | rfl
  all_goals
    refine fn_ruleM (C := ⟨Tryd.prog, layF, Tryd.f31.ntmps, ΓS, 2, [], []⟩) layF_ok mixed Tryd.func31 rfl (by kernel_rfl) rfl rfl rfl ?_
    refine ex_true rfl ?_
    refine ex_callM (CallsM.ren (hw.of0) [0, 1] 3 rfl rfl rfl rfl) ?_
    exact ⟨rfl, TLe.rfl, rfl, rfl⟩
theorem ex_byte {bs : List UInt8} {n : Int} (i : Nat) (x : UInt8) (hn : n = i) (hx : bs[i]? = some x) {K : List D → Prop} (h : K [.v (.int .u8 x.toNat)]) : ∃ r, 0 ≤ n ∧ (byteRows bs)[n.toNat]? = some r ∧ K r := by
  subst hn
  exact ⟨_, by omega, by simp [byteRows, hx], h⟩
theorem hx_len (bs : List UInt8) : (bs.flatMap hx).length = 2 * bs.length := by
  induction bs with
  | nil => rfl
  | cons b l ih => simp only [List.flatMap_cons, List.length_append, ih, List.length_cons]; simp [hx]; omega
theorem WrC1 (n : Nat) (b : ByteArray) (kids : List PV) (hF : FmtOk n) : WrC (.mk 1 n b kids) := by
  intro a ha l hl
  have e : txP (.mk 1 n b kids) = Lib.decDigits n := by rw [txP, if_neg (by decide), if_pos rfl]
  rw [e, drow_mk]
  rw [e] at hl
  have hw := WriteString_c a ha l ⟨(Lib.decDigits n).toArray⟩ (by simp only [ByteArray.size, List.size_toArray]; omega)
  rcases ha with rfl | rfl
  all_goals
    refine fn_ruleM (C := ⟨Tryd.prog, layF, Tryd.f31.ntmps, ΓS, 2, [], []⟩) layF_ok mixed Tryd.func31 rfl (by kernel_rfl) rfl rfl rfl ?_
    refine ex_false (by decide) ?_
    refine ex_true rfl ?_
    refine ex_call (hF) ?_
    refine ex_callM (CallsM.ren (hw.of0) [0, 1] 3 rfl rfl rfl rfl) ?_
    exact ⟨rfl, TLe.rfl, rfl, rfl⟩
theorem hi4 (c : UInt8) : ((c.toNat : Nat) : Int).fdiv (2 ^ min (Int.toNat 4) IntKind.u8.bits) = ((c.toNat / 16 : Nat) : Int) := by
  have : min (Int.toNat 4) IntKind.u8.bits = 4 := by rfl
  rw [this, Int.fdiv_eq_ediv_of_nonneg _ (by decide)]
  rfl
theorem lo4 (c : UInt8) : IntKind.u8.wrap ((BitVec.ofInt IntKind.u8.bits (c.toNat : Nat) &&& BitVec.ofInt IntKind.u8.bits 15).toNat : Nat) = ((c.toNat % 16 : Nat) : Int) := by
  have h : ∀ k : Fin 256, IntKind.u8.wrap ((BitVec.ofInt IntKind.u8.bits (k.val : Nat) &&& BitVec.ofInt IntKind.u8.bits 15).toNat : Nat) = ((k.val % 16 : Nat) : Int) := by decide +kernel
  exact h ⟨c.toNat, c.toNat_lt⟩
theorem hex_at (k : Nat) (h : k < 16) : hexL[k]? = some (hexL.getD k 0) := by
  simp only [List.getD]
  rw [List.getElem?_eq_getElem (by simpa [hexL] using h)]
  rfl
theorem WrC2 (n : Nat) (b : ByteArray) (kids : List PV) : WrC (.mk 2 n b kids) := by
  intro a ha l hl
  obtain ⟨bs, hbs⟩ : ∃ bs, b.data.toList = bs := ⟨_, rfl⟩
  have e : txP (.mk 2 n b kids) = [120, 34] ++ bs.flatMap hx ++ [34] := by rw [txP, if_neg (by decide), if_neg (by decide), if_pos rfl, hbs]
  rw [e, drow_mk]
  rw [e] at hl
  have hlen : l.length + (2 * bs.length + 3) ≤ 70368744177600 := by simp only [List.length_append, hx_len, List.length_cons, List.length_nil] at hl; omega
  have hw := WriteString_c a ha l ⟨#[120, 34]⟩ (by simp only [ByteArray.size]; simp; omega)
  rcases ha with rfl | rfl
  all_goals
    refine fn_ruleM (C := ⟨Tryd.prog, layF, Tryd.f31.ntmps, ΓS, 2, [], []⟩) layF_ok mixed Tryd.func31 rfl (by kernel_rfl) rfl rfl rfl ?_
    refine ex_false (by decide) ?_
    refine ex_false (by decide) ?_
    refine ex_true rfl ?_
    refine ex_callM (CallsM.ren (hw.of0) [0, 1] 3 rfl rfl rfl rfl) ?_
    refine ex_is bs.length (by simp [byteRows, hbs]) ?_
    refine ex_loop (X := Nat × List UInt8) (fun ⟨q, m⟩ => ⟨[(1, .o (.c (.ptr 0 0))), (55, .o (c1 (.sl 1 (byteRows b.data.toList)))), (56, Ti bs.length), (57, Ti q)], [(0, .obj [.ptr 0 0, .row 3] Tbld), (1, .dead), (3, Brow m)], 4⟩) (fun x => bs.length - x.1)
      (fun ⟨q, m⟩ => q ≤ bs.length ∧ m = l ++ [120, 34] ++ (bs.take q).flatMap hx) (0, l ++ [120, 34]) ⟨by omega, by simp⟩ (SLe.of ⟨⟨rfl, rfl, rfl, rfl, trivial⟩, ⟨rfl, rfl, rfl, trivial⟩⟩) ?_
    rintro ⟨q, m⟩ ⟨hq, hm⟩
    refine ex_dec (fun h5 => ?_) (fun h5 => ?_)
    · have hql : q < bs.length := by omega
      refine ex_byte q bs[q] rfl (by rw [hbs]; exact at_some hql) ?_
      have hbl : m.length = l.length + 2 + 2 * q := by
        have := hx_len (bs.take q)
        rw [List.length_take] at this
        rw [hm]
        simp only [List.length_append, List.length_cons, List.length_nil, this]
        omega
      have hc : bs[q]? = some bs[q] := at_some hql
      generalize bs[q] = c at *
      refine ⟨by decide, ?_⟩
      refine ex_is ((c.toNat / 16 : Nat) : Int) (hi4 c) ?_
      refine ex_chr (c.toNat / 16) (hexL.getD (c.toNat / 16) 0) rfl (hex_at _ (by have := c.toNat_lt; omega)) ?_
      refine ex_callM (CallsM.ren (((WriteByte_c (.ptr 0 0) (.inr rfl) m (hexL.getD (c.toNat / 16) 0) (by omega)).of0)) [0, 3] 4 rfl rfl rfl rfl) ?_
      refine ex_is ((c.toNat % 16 : Nat) : Int) (lo4 c) ?_
      refine ex_chr (c.toNat % 16) (hexL.getD (c.toNat % 16) 0) rfl (hex_at _ (by omega)) ?_
      refine ex_callM (CallsM.ren (((WriteByte_c (.ptr 0 0) (.inr rfl) (m ++ [hexL.getD (c.toNat / 16) 0]) (hexL.getD (c.toNat % 16) 0) (by rw [List.length_append]; simp; omega)).of0)) [0, 4] 5 rfl rfl rfl rfl) ?_
      refine ex_i64 (((q + 1 : Nat) : Int)) (by first | rfl | omega | simp) (by omega) (by omega) ?_
      refine ex_round (q + 1, m ++ [hexL.getD (c.toNat / 16) 0] ++ [hexL.getD (c.toNat % 16) 0]) ⟨hql, ?_⟩ (by show _ - _ < _ - _; omega) (SLe.ren [(0, 0), (1, 1), (5, 3)] ⟨⟨rfl, rfl⟩, ⟨rfl, rfl⟩, ⟨rfl, rfl⟩, ⟨rfl, rfl⟩, trivial⟩ ⟨⟨rfl, rfl⟩, ⟨rfl, rfl⟩, ⟨rfl, rfl⟩, trivial⟩ rfl)
      rw [List.take_add_one, hc, List.flatMap_append, hm]
      simp [hx]
    · obtain rfl : q = bs.length := by omega
      rw [List.take_length] at hm
      have hbl : m.length = l.length + 2 + 2 * bs.length := by
        rw [hm]
        simp only [List.length_append, List.length_cons, List.length_nil, hx_len]
      refine ex_callM (CallsM.ren (((WriteString_c (.ptr 0 0) (.inr rfl) m ⟨#[34]⟩ (by simp only [ByteArray.size]; simp; omega)).of0)) [0, 3] 4 rfl rfl rfl rfl) ?_
      exact ⟨rfl, TLe.rfl, rfl, by rw [hm]; simp only [List.append_assoc]; rfl⟩
theorem dec_pos (n : Nat) : 1 ≤ (Lib.decDigits n).length := by
  rw [Lib.decDigits]
  split <;> simp
mutual
theorem txP_pos : ∀ t : PV, 1 ≤ (txP t).length
  | .mk k n b l => by
    rw [txP]
    have := dec_pos n
    repeat' split
    all_goals first | exact this | (simp; done) | (simp only [List.length_append, List.length_cons]; omega)
end
theorem txL_len : ∀ (f : Bool) (l : List PV), l.length ≤ (txL f l).length
  | _, [] => by simp
  | f, t :: ts => by
    have := txP_pos t
    have := txL_len false ts
    rw [txL]
    simp only [List.length_append, List.length_cons]
    omega
def opn (k : Int) : UInt8 := if k = 3 then 91 else 123
def cls (k : Int) : UInt8 := if k = 3 then 93 else 125
theorem txP_list (k : Int) (n : Nat) (b : ByteArray) (l : List PV) (h0 : k ≠ 0) (h1 : k ≠ 1) (h2 : k ≠ 2) : txP (.mk k n b l) = [opn k] ++ txL true l ++ [cls k] := by
  rw [txP, if_neg h0, if_neg h1, if_neg h2, opn, cls]
  split <;> rfl
theorem brk_at (k : Int) : (⟨if k = 3 then #[91, 93] else #[123, 125]⟩ : ByteArray).data.toList = [opn k, cls k] := by
  unfold opn cls
  split <;> rfl
theorem WrCL (k : Int) (n : Nat) (b : ByteArray) (kids : List PV) (h0 : k ≠ 0) (h1 : k ≠ 1) (h2 : k ≠ 2) (ih : ∀ t ∈ kids, WrC t) : WrC (.mk k n b kids) := by
  intro a ha l hl
  have e : txP (.mk k n b kids) = [opn k] ++ txL true kids ++ [cls k] := txP_list k n b kids h0 h1 h2
  rw [e, drow_mk]
  rw [e] at hl
  obtain ⟨T, hT⟩ : ∃ T, l ++ [opn k] ++ txL true kids = T := ⟨_, rfl⟩
  have hTl : T.length + 1 ≤ 70368744177600 := by rw [← hT]; simp only [List.length_append, List.length_cons, List.length_nil] at hl ⊢; omega
  have hkl : kids.length ≤ 70368744177600 := by have := txL_len true kids; rw [← hT] at hTl; simp only [List.length_append] at hTl; omega
  have hend : l ++ ([opn k] ++ txL true kids ++ [cls k]) = T ++ [cls k] := by rw [← hT]; simp only [List.append_assoc]
  rw [hend]
  have hll : l.length + 1 ≤ 70368744177600 := by rw [← hT] at hTl; simp only [List.length_append, List.length_cons, List.length_nil] at hTl; omega
  clear hl hend e
  have hw0 := WriteByte_c a ha l (opn k) (by omega)
  rcases ha with rfl | rfl
  all_goals
    refine fn_ruleM (C := ⟨Tryd.prog, layF, Tryd.f31.ntmps, ΓS, 2, [], []⟩) layF_ok mixed Tryd.func31 rfl (by kernel_rfl) rfl rfl rfl ?_
    refine ex_false h0 ?_
    refine ex_false h1 ?_
    refine ex_false h2 ?_
    refine ex_call ((brackets_c k).of0) ?_
    refine ex_chr 0 (opn k) rfl (by rw [brk_at]; rfl) ?_
    refine ex_callM (CallsM.ren (hw0.of0) [0, 1] 3 rfl rfl rfl rfl) ?_
    refine ex_is (kids.length) (by simp) ?_
    refine ex_loop (X := Nat × List UInt8) (fun ⟨q, m⟩ => ⟨[(1, .o (.c (.ptr 0 0))), (2, .o (.c (.ptr 2 0))), (17, .o (c1 (.sl 4 (kids.map drow)))), (18, Ti kids.length), (19, Ti q)], [(0, .obj [.ptr 0 0, .row 3] Tbld), (1, .dead), (2, .obj [.d (di k), .d (du n), .d (ds b), .d (.sl 4 (kids.map drow))]), (3, Brow m)], 4⟩) (fun x => kids.length - x.1)
      (fun ⟨q, m⟩ => q ≤ kids.length ∧ m ++ txL (decide (q = 0)) (kids.drop q) = T) (0, l ++ [opn k]) ⟨by omega, by simpa using hT⟩ (SLe.of ⟨⟨rfl, rfl, rfl, rfl, rfl, trivial⟩, ⟨rfl, rfl, rfl, rfl, trivial⟩⟩) ?_
    rintro ⟨q, m⟩ ⟨hq, hm⟩
    refine ex_dec (fun h5 => ?_) (fun h5 => ?_)
    · have hql : q < kids.length := by omega
      rw [List.drop_eq_getElem_cons hql, txL] at hm
      have hw := ih kids[q] (List.getElem_mem hql)
      refine ex_row (q) _ (by first | rfl | omega | simp) (at_some (hql)) ?_
      generalize kids[q] = x at *
      have hml := congrArg List.length hm
      simp only [List.length_append] at hml
      refine ex_dec (fun h6 => ?_) (fun h6 => ?_)
      · have hq0 : decide (q = 0) = false := by simp; omega
        rw [if_neg (by simp; omega)] at hm
        refine ex_callM (CallsM.ren (((WriteString_c (.ptr 0 0) (.inr rfl) m ⟨#[44, 32]⟩ (by simp only [ByteArray.size]; simp; omega)).of0)) [0, 3] 5 rfl rfl rfl rfl) ?_
        refine ex_callM (CallsM.ren ((hw (.ptr 0 0) (.inr rfl) (m ++ [44, 32]) (by simp only [List.length_append, List.length_cons, List.length_nil]; simp only [hq0] at hml; simp at hml; omega))) [0, 5] 6 rfl rfl rfl rfl) ?_
        refine ex_i64 (((q + 1 : Nat) : Int)) (by first | rfl | omega | simp) (by omega) (by omega) ?_
        refine ex_round (q + 1, m ++ [44, 32] ++ txP x) ⟨hql, ?_⟩ (by show _ - _ < _ - _; omega) (SLe.ren [(0, 0), (1, 1), (2, 2), (6, 3)] ⟨⟨rfl, rfl⟩, ⟨rfl, rfl⟩, ⟨rfl, rfl⟩, ⟨rfl, rfl⟩, ⟨rfl, rfl⟩, trivial⟩ ⟨⟨rfl, rfl⟩, ⟨rfl, rfl⟩, ⟨rfl, rfl⟩, ⟨rfl, rfl⟩, trivial⟩ rfl)
        rw [← hm]
        simp
      · rw [if_pos (by simp; omega)] at hm
        refine ex_callM (CallsM.ren ((hw (.ptr 0 0) (.inr rfl) m (by omega))) [0, 3] 5 rfl rfl rfl rfl) ?_
        refine ex_i64 (((q + 1 : Nat) : Int)) (by first | rfl | omega | simp) (by omega) (by omega) ?_
        refine ex_round (q + 1, m ++ txP x) ⟨hql, ?_⟩ (by show _ - _ < _ - _; omega) (SLe.ren [(0, 0), (1, 1), (2, 2), (5, 3)] ⟨⟨rfl, rfl⟩, ⟨rfl, rfl⟩, ⟨rfl, rfl⟩, ⟨rfl, rfl⟩, ⟨rfl, rfl⟩, trivial⟩ ⟨⟨rfl, rfl⟩, ⟨rfl, rfl⟩, ⟨rfl, rfl⟩, ⟨rfl, rfl⟩, trivial⟩ rfl)
        rw [← hm]
        simp
    · obtain rfl : q = kids.length := by omega
      rw [List.drop_length, txL, List.append_nil] at hm
      subst hm
      refine ex_call ((brackets_c k).of0) ?_
      refine ex_chr 1 (cls k) rfl (by rw [brk_at]; rfl) ?_
      refine ex_callM (CallsM.ren (((WriteByte_c (.ptr 0 0) (.inr rfl) m (cls k) (by omega)).of0)) [0, 3] 4 rfl rfl rfl rfl) ?_
      exact ⟨rfl, TLe.rfl, rfl, rfl⟩
mutual
theorem WrC_all : ∀ t : PV, AllN FmtOk t → WrC t
  | .mk k n b l, h => by
    rw [AllN] at h
    by_cases h0 : k = 0
    · subst h0; exact WrC0 n b l
    by_cases h1 : k = 1
    · subst h1; exact WrC1 n b l (h.1 rfl)
    by_cases h2 : k = 2
    · subst h2; exact WrC2 n b l
    exact WrCL k n b l h0 h1 h2 (WrC_allL l h.2)
theorem WrC_allL : ∀ l : List PV, AllNL FmtOk l → ∀ t ∈ l, WrC t
  | [], _ => by simp
  | x :: xs, h => by
    rw [AllNL] at h
    intro t ht
    rcases List.mem_cons.1 ht with e | ht
    · rw [e]; exact WrC_all x h.1
    · exact WrC_allL xs h.2 t ht
end
/-- A value's signs; none, if it isn't good. -/
def txV (t : PV) : List UInt8 := if goodP t then txP t else []
theorem Text_c (t : PV) (ht : t.num ≤ 4611686018427387904) (hF : AllN FmtOk t) (hs : (txP t).length ≤ 70368744177600) :
    CallsA Tryd.prog ΓS 14 [gD (drow t)] (.o (c1 (ds ⟨(txV t).toArray⟩))) := by
  have hg := Good_c t ht
  have hw := WrC_all t hF (.d (.v (.pointer none))) (.inl rfl) [] (by simpa using hs)
  have hne : txP t ≠ [] := by have := txP_pos t; intro e; rw [e] at this; simp at this
  unfold txV
  cases hgd : goodP t
  · rw [hgd] at hg
    rw [if_neg (by simp)]
    refine fn_rule (C := ⟨Tryd.prog, layF, Tryd.f14.ntmps, ΓS, 0, [], []⟩) layF_ok mixed Tryd.func14 rfl (by kernel_rfl) rfl rfl rfl ?_
    refine ex_call (hg.of0) ?_
    exact TLe.rfl
  · rw [hgd] at hg
    rw [if_pos rfl]
    refine fn_rule (C := ⟨Tryd.prog, layF, Tryd.f14.ntmps, ΓS, 0, [3], []⟩) layF_ok mixed Tryd.func14 rfl (by kernel_rfl) rfl rfl rfl ?_
    refine ex_call (hg.of0) ?_
    refine ex_join (X := Unit) (fun _ => ⟨[(1, .o (.c (.ptr 0 0))), (3, .o (.c (.ptr 1 0)))], [(1, .obj [.d (.v (.pointer none)), .row 2] Tbld), (2, Brow []), (0, .obj ((drow t).map .d))], 3⟩) (fun _ => True) ?_ ?_
    · exact ex_meet () trivial (SLe.trans (SLe.of ⟨⟨rfl, rfl, trivial⟩, ⟨rfl, rfl, rfl, trivial⟩⟩) (SLe.ownCell 1 1 2 1 Tu8 rfl rfl rfl rfl rfl rfl))
    · intro _ _
      refine ex_callM (CallsM.ren (hw) [1, 2] 3 rfl rfl rfl rfl) ?_
      refine ex_callM (CallsM.ren (((String_c (txP t) hne).of0)) [1, 3] 4 rfl rfl rfl rfl) ?_
      exact TLe.rfl
end Go.Proofs.YtkeehnhamkdogaaDoor

namespace Go.Proofs.YtkeehnhamkdogaaDoor
set_option linter.unusedVariables false
set_option linter.unusedSimpArgs false
open Go.RowKit
set_option maxRecDepth 100000

/-- The parser's object. -/
abbrev Par (s : ByteArray) (a : Nat) : Blk := .obj [.d (ds s), .d (di a)]
/-- What a parser fails with. -/
abbrev flt (a : Nat) (e : Int) : Value := .iface 72 (.agg #[.int .i64 a, .int .i64 e])
theorem fail_c (s : ByteArray) (a : Nat) (e : Int) :
    CallsM Tryd.prog ΓS 37 [(0, Par s a)] 1 [.c (.ptr 0 0), c1 (di e)] (.pan (flt a e)) [(0, Par s a)] [] := by
  refine fn_ruleM (C := ⟨Tryd.prog, layF, Tryd.f37.ntmps, ΓS, 1, [], []⟩) layF_ok mixed Tryd.func37 rfl (by kernel_rfl) rfl rfl rfl ?_
  exact ⟨⟨_, rfl, rfl⟩, rfl, rfl, rfl⟩
theorem s_at {s : ByteArray} {a : Nat} (h : a < s.size) : s.data.toList[a]? = some (s.data.toList[a]'(by simpa using h)) := List.getElem?_eq_getElem _
theorem s_none {s : ByteArray} {a : Nat} (h : s.size ≤ a) : s.data.toList[a]? = none := List.getElem?_eq_none (by simpa using h)
def nextV (s : ByteArray) (a : Nat) : UInt8 := (s.data.toList[a]?).getD 0
theorem next_c (s : ByteArray) (a : Nat) (ha : a ≤ s.size) (hs : s.size ≤ 1073741824) :
    CallsM Tryd.prog ΓS 53 [(0, Par s a)] 1 [.c (.ptr 0 0)] (.o (c1 (.v (.int .u8 (nextV s a).toNat)))) [(0, Par s a)] [] := by
  refine fn_ruleM (C := ⟨Tryd.prog, layF, Tryd.f53.ntmps, ΓS, 1, [], []⟩) layF_ok mixed Tryd.func53 rfl (by kernel_rfl) rfl rfl rfl ?_
  refine ex_dec (fun h => ?_) (fun h => ?_)
  ·
    refine ⟨by kernel_rfl, ?_⟩
    rw [show nextV s a = 0 by unfold nextV; rw [s_none (by omega)]; rfl]
    exact ⟨rfl, TLe.rfl, rfl, rfl⟩
  ·
    refine ⟨by kernel_rfl, ?_⟩
    refine ex_chr a _ rfl (s_at (by omega)) ?_
    refine ⟨by kernel_rfl, ?_⟩
    rw [show nextV s a = s.data.toList[a]'(by simp; omega) by unfold nextV; rw [s_at (by omega)]; rfl]
    exact ⟨rfl, TLe.rfl, rfl, rfl⟩
/-- Is the sign one of some? -/
def anyV (s : ByteArray) (a : Nat) (of : List UInt8) : Bool := match s.data.toList[a]? with
  | some c => of.contains c
  | none => false
theorem any_c (s : ByteArray) (a : Nat) (of : ByteArray) (ha : a ≤ s.size) (hs : s.size ≤ 1073741824) :
    CallsM Tryd.prog ΓS 54 [(0, Par s a)] 1 [.c (.ptr 0 0), c1 (ds of)] (Tb (anyV s a of.data.toList)) [(0, Par s a)] [] := by
  refine fn_ruleM (C := ⟨Tryd.prog, layF, Tryd.f54.ntmps, ΓS, 1, [], []⟩) layF_ok mixed Tryd.func54 rfl (by kernel_rfl) rfl rfl rfl ?_
  refine ex_dec (fun h => ?_) (fun h => ?_)
  · refine ex_chr a _ rfl (s_at (by omega)) ?_
    refine ex_call (index_c _ _ _) ?_
    refine ex_is (anyV s a of.data.toList) (by unfold anyV; rw [s_at (by omega)]; show _ = List.contains _ _; rw [Lib.contains_iff_indexByte]; simp) ?_
    refine ⟨by kernel_rfl, ?_⟩
    exact ⟨rfl, TLe.rfl, rfl, rfl⟩
  ·
    refine ⟨by kernel_rfl, ?_⟩
    rw [show anyV s a of.data.toList = false by unfold anyV; rw [s_none (by omega)]]
    exact ⟨rfl, TLe.rfl, rfl, rfl⟩
def skipB : List UInt8 → Nat
  | [] => 0
  | c :: l => if c = 32 then skipB l + 1 else 0
theorem skipB_le : ∀ l : List UInt8, skipB l ≤ l.length
  | [] => Nat.le_refl _
  | c :: l => by
    have := skipB_le l
    rw [skipB, List.length_cons]
    split <;> omega
/-- The place behind blanks. -/
def passV (s : ByteArray) (a : Nat) : Nat := a + skipB (s.data.toList.drop a)
theorem passV_le (s : ByteArray) {a : Nat} (h : a ≤ s.size) : passV s a ≤ s.size := by
  have := skipB_le (s.data.toList.drop a)
  rw [List.length_drop, show s.data.toList.length = s.size by simp] at this
  unfold passV; omega
theorem passV_ge (s : ByteArray) (a : Nat) : a ≤ passV s a := Nat.le_add_right _ _
theorem passV_blank {s : ByteArray} {a : Nat} (h : s.data.toList[a]? = some 32) : passV s (a + 1) = passV s a := by
  obtain ⟨hl, hc⟩ := List.getElem?_eq_some_iff.1 h
  unfold passV
  rw [List.drop_eq_getElem_cons hl, hc, skipB, if_pos rfl]; omega
theorem passV_stop {s : ByteArray} {a : Nat} (h : s.data.toList[a]? ≠ some 32) : passV s a = a := by
  unfold passV
  by_cases hl : a < s.data.toList.length
  · rw [List.drop_eq_getElem_cons hl, skipB, if_neg (fun hc => h (by rw [List.getElem?_eq_getElem hl, hc])), Nat.add_zero]
  · rw [List.drop_eq_nil_of_le (by omega)]; rfl
theorem passV_at {s : ByteArray} {a : Nat} : s.data.toList[passV s a]? ≠ some 32 := by
  unfold passV
  have key : ∀ l : List UInt8, l[skipB l]? ≠ some 32 := by
    intro l
    induction l with
    | nil => simp
    | cons c l ih =>
      rw [skipB]
      split
      · simpa using ih
      · rename_i h; simpa using h
  have := key (s.data.toList.drop a)
  rwa [List.getElem?_drop] at this
theorem passV_pass (s : ByteArray) (a : Nat) : passV s (passV s a) = passV s a := passV_stop passV_at
theorem u8_eq {a b : UInt8} : ((a.toNat : Nat) : Int) = ((b.toNat : Nat) : Int) ↔ a = b := by
  rw [Int.ofNat_inj]
  exact ⟨fun h => UInt8.toNat_inj.1 h, fun h => h ▸ rfl⟩
theorem pass_c (s : ByteArray) (a : Nat) (ha : a ≤ s.size) (hs : s.size ≤ 1073741824) :
    CallsM Tryd.prog ΓS 36 [(0, Par s a)] 1 [.c (.ptr 0 0)] (.tup []) [(0, Par s (passV s a))] [] := by
  obtain ⟨R, hR⟩ : ∃ R, passV s a = R := ⟨_, rfl⟩
  rw [hR]
  refine fn_ruleM (C := ⟨Tryd.prog, layF, Tryd.f36.ntmps, ΓS, 1, [], []⟩) layF_ok mixed Tryd.func36 rfl (by kernel_rfl) rfl rfl rfl ?_
  refine ex_loop (X := Nat) (fun q => ⟨[(0, .o (.c (.ptr 0 0)))], [(0, Par s q)], 1⟩) (fun q => s.size - q) (fun q => q ≤ s.size ∧ passV s q = R) a ⟨ha, hR⟩ (SLe.of ⟨⟨rfl, trivial⟩, ⟨rfl, trivial⟩⟩) ?_
  rintro q ⟨hq, hg⟩
  refine ex_dec (fun h => ?_) (fun h => ?_)
  · refine ex_chr q _ rfl (s_at (by omega)) ?_
    refine ex_chr 0 32 rfl rfl ?_
    refine ex_dec (fun h2 => ?_) (fun h2 => ?_)
    · have hc : s.data.toList[q]? = some 32 := by rw [s_at (by omega)]; exact congrArg some (u8_eq.1 h2)
      refine ⟨by kernel_rfl, ?_⟩
      refine ex_i64 (((q + 1 : Nat) : Int)) (by first | rfl | omega | simp) (by omega) (by omega) ?_
      exact ex_round (q + 1) ⟨by omega, by rw [passV_blank hc, hg]⟩ (by show _ - _ < _ - _; omega) (SLe.of ⟨⟨rfl, trivial⟩, ⟨rfl, trivial⟩⟩)
    · have hc : s.data.toList[q]? ≠ some 32 := by rw [s_at (by omega)]; exact fun hc => h2 (u8_eq.2 (Option.some.inj hc))
      rw [passV_stop hc] at hg
      subst hg
      refine ⟨by kernel_rfl, ?_⟩
      exact ⟨rfl, TLe.rfl, rfl, rfl⟩
  · rw [passV_stop (by rw [s_none (by omega)]; simp)] at hg
    subst hg
    refine ⟨by kernel_rfl, ?_⟩
    exact ⟨rfl, TLe.rfl, rfl, rfl⟩
/-- What a step of the parser gives. -/
inductive R (α : Type)
  | ok (x : α) (a : Nat)
  | err (a : Nat) (e : Int)
def R.at {α : Type} : R α → Nat
  | .ok _ a => a
  | .err a _ => a
def R.tv {α : Type} (f : α → TV) : R α → TV
  | .ok x _ => f x
  | .err a e => .pan (flt a e)
def mustV (s : ByteArray) (a : Nat) (c : UInt8) : R Unit := if s.data.toList[a]? = some c then .ok () (a + 1) else .err a 4
theorem must_c (s : ByteArray) (a : Nat) (c : UInt8) (ha : a ≤ s.size) (hs : s.size ≤ 1073741824) :
    CallsM Tryd.prog ΓS 57 [(0, Par s a)] 1 [.c (.ptr 0 0), c1 (.v (.int .u8 c.toNat))] ((mustV s a c).tv fun _ => .tup []) [(0, Par s (mustV s a c).at)] [] := by
  refine fn_ruleM (C := ⟨Tryd.prog, layF, Tryd.f57.ntmps, ΓS, 1, [], []⟩) layF_ok mixed Tryd.func57 rfl (by kernel_rfl) rfl rfl rfl ?_
  refine ex_dec (fun h => ?_) (fun h => ?_)
  · rw [show mustV s a c = .err a 4 from if_neg (by rw [s_none (by omega)]; simp)]
    refine ⟨by kernel_rfl, ?_⟩
    refine ex_callM (fail_c s a 4) ?_
    exact ⟨⟨_, rfl, rfl⟩, rfl, rfl, rfl⟩
  · refine ex_chr a _ rfl (s_at (by omega)) ?_
    refine ex_dec (fun h2 => ?_) (fun h2 => ?_)
    · rw [show mustV s a c = .err a 4 from if_neg (by rw [s_at (by omega)]; exact fun hc => h2 (u8_eq.2 (Option.some.inj hc)))]
      refine ⟨by kernel_rfl, ?_⟩
      refine ex_callM (fail_c s a 4) ?_
      exact ⟨⟨_, rfl, rfl⟩, rfl, rfl, rfl⟩
    · rw [show mustV s a c = .ok () (a + 1) from if_pos (by rw [s_at (by omega)]; exact congrArg some (u8_eq.1 (by simpa using h2)))]
      refine ⟨by kernel_rfl, ?_⟩
      refine ex_i64 (((a + 1 : Nat) : Int)) (by first | rfl | omega | simp) (by omega) (by omega) ?_
      exact ⟨rfl, TLe.rfl, rfl, rfl⟩
end Go.Proofs.YtkeehnhamkdogaaDoor

namespace Go.Proofs.YtkeehnhamkdogaaDoor
set_option linter.unusedVariables false
set_option linter.unusedSimpArgs false
open Go.RowKit
set_option maxRecDepth 100000

def hexI (c : UInt8) : Nat := (Lib.indexByte hexL c).toNat
def digV (s : ByteArray) (a : Nat) : R Nat := match s.data.toList[a]? with
  | some c => if hexL.contains c then .ok (hexI c) (a + 1) else .err a 4
  | none => .err a 4
theorem hex_lt (c : UInt8) : hexI c < 16 := by
  have h : ∀ n : Fin 256, hexI (UInt8.ofNat n.val) < 16 := by decide +kernel
  have := h ⟨c.toNat, c.toNat_lt⟩
  rwa [show UInt8.ofNat (⟨c.toNat, c.toNat_lt⟩ : Fin 256).val = c by simp] at this
theorem hexI_ix (c : UInt8) (h : hexL.contains c = true) : Lib.indexByte hexL c = (hexI c : Nat) := by
  rw [Lib.contains_iff_indexByte] at h
  unfold hexI
  have := of_decide_eq_true h
  omega
theorem digit_c (s : ByteArray) (a : Nat) (ha : a ≤ s.size) (hs : s.size ≤ 1073741824) :
    CallsM Tryd.prog ΓS 72 [(0, Par s a)] 1 [.c (.ptr 0 0)] ((digV s a).tv fun n => .o (c1 (.v (.int .u8 (n : Nat))))) [(0, Par s (digV s a).at)] [] := by
  have hany := any_c s a ⟨hexL.toArray⟩ ha hs
  have hlist : (⟨hexL.toArray⟩ : ByteArray).data.toList = hexL := rfl
  rw [hlist] at hany
  cases hd : anyV s a hexL with
  | false =>
    rw [hd] at hany
    have hv : digV s a = .err a 4 := by
      unfold digV; unfold anyV at hd
      split
      · rename_i c hc
        rw [hc] at hd
        rw [if_neg (by simpa using hd)]
      · rfl
    rw [hv]
    refine fn_ruleM (C := ⟨Tryd.prog, layF, Tryd.f72.ntmps, ΓS, 1, [], []⟩) layF_ok mixed Tryd.func72 rfl (by kernel_rfl) rfl rfl rfl ?_
    refine ex_callM hany ?_
    refine ex_callM (fail_c s a 4) ?_
    exact ⟨⟨_, rfl, rfl⟩, rfl, rfl, rfl⟩
  | true =>
    rw [hd] at hany
    obtain ⟨c, hc, hcc⟩ : ∃ c, s.data.toList[a]? = some c ∧ hexL.contains c = true := by
      unfold anyV at hd
      split at hd
      · rename_i c hc; exact ⟨c, hc, hd⟩
      · cases hd
    have hal : a < s.size := by
      have := (List.getElem?_eq_some_iff.1 hc).1
      simpa using this
    have hv : digV s a = .ok (hexI c) (a + 1) := by unfold digV; rw [hc]; exact if_pos hcc
    rw [hv]
    have hix := hexI_ix c hcc
    have hlt := hex_lt c
    refine fn_ruleM (C := ⟨Tryd.prog, layF, Tryd.f72.ntmps, ΓS, 1, [], []⟩) layF_ok mixed Tryd.func72 rfl (by kernel_rfl) rfl rfl rfl ?_
    refine ex_callM hany ?_
    refine ex_i64 (((a + 1 : Nat) : Int)) (by first | rfl | omega | simp) (by omega) (by omega) ?_
    refine ex_i64 (((a : Nat) : Int)) (by first | rfl | omega | simp) (by omega) (by omega) ?_
    refine ex_chr a c rfl hc ?_
    refine ex_call (index_c _ _ _) ?_
    refine ex_is ((hexI c : Nat) : Int) (by
      have e : (c.toNat : Int).toNat.toUInt8 = c := by simp
      rw [e, show (⟨#[48, 49, 50, 51, 52, 53, 54, 55, 56, 57, 97, 98, 99, 100, 101, 102]⟩ : ByteArray).data.toList = hexL from rfl, hix]
      exact wrap_un rfl (by omega) (by show _ < (256 : Int); omega)) ?_
    refine ⟨by kernel_rfl, ?_⟩
    exact ⟨rfl, TLe.rfl, rfl, rfl⟩
def hexV (s : ByteArray) : Nat → Nat → List UInt8 → R PV
  | 0, _, _ => .err 0 0
  | n + 1, a, acc => if nextV s a = 34 then .ok (.mk 2 0 ⟨acc.toArray⟩ []) (a + 1) else match digV s a with
    | .err b e => .err b e
    | .ok x b => match digV s b with
      | .err c e => .err c e
      | .ok y c => hexV s n c (acc ++ [UInt8.ofNat (16 * x + y)])
def bytV (s : ByteArray) (a : Nat) : R PV := match mustV s a 34 with
  | .err b e => .err b e
  | .ok _ b => hexV s (s.size + 1) b []
theorem digV_ok {s : ByteArray} {a x b : Nat} (h : digV s a = .ok x b) : b = a + 1 ∧ x < 16 ∧ a < s.size := by
  unfold digV at h
  split at h
  · rename_i c hc
    have := (List.getElem?_eq_some_iff.1 hc).1
    split at h
    · cases h
      exact ⟨rfl, hex_lt c, by simpa using this⟩
    · cases h
  · cases h
theorem or_hex {x y : Nat} (hx : x < 16) (hy : y < 16) : ((BitVec.ofInt 8 ((16 * x : Nat) : Int)) ||| BitVec.ofInt 8 ((y : Nat) : Int)).toNat = 16 * x + y := by
  have h : ∀ x y : Fin 16, ((BitVec.ofInt 8 ((16 * x.val : Nat) : Int)) ||| BitVec.ofInt 8 ((y.val : Nat) : Int)).toNat = 16 * x.val + y.val := by decide +kernel
  exact h ⟨x, hx⟩ ⟨y, hy⟩
theorem u8_nat {n : Nat} (h : n < 256) : (UInt8.ofNat n).toNat = n := by simp; omega
theorem bytes_c (s : ByteArray) (a : Nat) (ha : a ≤ s.size) (hs : s.size ≤ 1073741824) :
    CallsM Tryd.prog ΓS 58 [(0, Par s a)] 1 [.c (.ptr 0 0)] ((bytV s a).tv fun v => .o (gD (drow v))) [(0, Par s (bytV s a).at)] [] := by
  have hm := must_c s a 34 ha hs
  cases hmv : mustV s a 34 with
  | err b e =>
    rw [hmv] at hm
    rw [show bytV s a = .err b e by unfold bytV; rw [hmv]]
    refine fn_ruleM (C := ⟨Tryd.prog, layF, Tryd.f58.ntmps, ΓS, 1, [], []⟩) layF_ok mixed Tryd.func58 rfl (by kernel_rfl) rfl rfl rfl ?_
    refine ex_callM (CallsM.ren (hm) [0] 2 rfl rfl rfl rfl) ?_
    exact ⟨⟨_, rfl, rfl⟩, rfl, rfl, rfl⟩
  | ok u b =>
    have hbs : b ≤ s.size := by
      unfold mustV at hmv
      split at hmv
      · rename_i hc
        have := (List.getElem?_eq_some_iff.1 hc).1
        cases hmv
        have : a < s.size := by simpa using this
        omega
      · cases hmv
    rw [hmv] at hm
    obtain ⟨T, hT⟩ : ∃ T, hexV s (s.size + 1) b [] = T := ⟨_, rfl⟩
    rw [show bytV s a = T by unfold bytV; rw [hmv]; exact hT]
    refine fn_ruleM (C := ⟨Tryd.prog, layF, Tryd.f58.ntmps, ΓS, 1, [], []⟩) layF_ok mixed Tryd.func58 rfl (by kernel_rfl) rfl rfl rfl ?_
    refine ex_callM (CallsM.ren (hm) [0] 2 rfl rfl rfl rfl) ?_
    refine ex_loop (X := Nat × Nat × List UInt8) (fun x => ⟨[(0, .o (.c (.ptr 0 0))), (2, .o (.c (.ptr 1 0))), (3, .o (.c (.row 2)))], [(2, Brow x.2.2), (0, Par s x.2.1), (1, .obj [.d (di 0), .d (du 0), .d (ds ⟨#[]⟩), .d dnil])], 3⟩) (fun x => s.size - x.2.1)
      (fun x => x.2.1 ≤ s.size ∧ s.size < x.2.1 + x.1 ∧ x.2.2.length ≤ x.2.1 ∧ hexV s x.1 x.2.1 x.2.2 = T) (s.size + 1, b, []) ⟨hbs, by show _ < _ + _; omega, by show 0 ≤ _; omega, hT⟩ (SLe.trans (SLe.of ⟨⟨rfl, rfl, rfl, trivial⟩, ⟨rfl, rfl, rfl, trivial⟩⟩) (SLe.own 3 2 1 Tu8 rfl rfl rfl rfl rfl)) ?_
    rintro ⟨n, q, acc⟩ ⟨hq, hn, hac, hg⟩
    simp only at hq hn hac hg
    obtain ⟨n, rfl⟩ : ∃ n', n = n' + 1 := ⟨n - 1, by omega⟩
    rw [hexV] at hg
    refine ex_callM (CallsM.ren ((next_c s q hq hs)) [0] 3 rfl rfl rfl rfl) ?_
    refine ex_dec (fun h => ?_) (fun h => ?_)
    · rw [if_neg (fun hc => h (by rw [hc]; rfl))] at hg
      have h1 := digit_c s q hq hs
      cases hd : digV s q with
      | err b e =>
        rw [hd] at h1 hg
        simp only at hg
        subst hg
        refine ex_callM (CallsM.ren (h1) [0] 3 rfl rfl rfl rfl) ?_
        exact ⟨⟨_, rfl, rfl⟩, rfl, rfl, rfl⟩
      | ok x b =>
        rw [hd] at h1 hg
        simp only at hg
        obtain ⟨rfl, hx, hqs⟩ := digV_ok hd
        refine ex_callM (CallsM.ren (h1) [0] 3 rfl rfl rfl rfl) ?_
        have h2 := digit_c s (q + 1) (by omega) hs
        cases hd2 : digV s (q + 1) with
        | err c e =>
          rw [hd2] at h2 hg
          simp only at hg
          subst hg
          refine ⟨by decide, ?_⟩
          refine ex_u8 ((16 * x : Nat) : Int) (by show (x : Int) * 2 ^ 4 = _; omega) (by omega) (by omega) ?_
          refine ex_callM (CallsM.ren (h2) [0] 3 rfl rfl rfl rfl) ?_
          exact ⟨⟨_, rfl, rfl⟩, rfl, rfl, rfl⟩
        | ok y c =>
          rw [hd2] at h2 hg
          simp only at hg
          obtain ⟨rfl, hy, hqs2⟩ := digV_ok hd2
          refine ⟨by decide, ?_⟩
          refine ex_u8 ((16 * x : Nat) : Int) (by show (x : Int) * 2 ^ 4 = _; omega) (by omega) (by omega) ?_
          refine ex_callM (CallsM.ren (h2) [0] 3 rfl rfl rfl rfl) ?_
          refine ex_u8 ((16 * x + y : Nat) : Int) (by rw [show IntKind.u8.bits = 8 from rfl, or_hex hx hy]) (by omega) (by omega) ?_
          refine ex_app acc.length 1 1000 (byteRows_len acc) rfl rfl (by omega) ?_
          refine ex_is (byteRows (acc ++ [UInt8.ofNat (16 * x + y)])) (by rw [← byteRows_app]; simp only [byteRows, List.map_cons, List.map_nil]; rw [u8_nat (by omega)]; rfl) ?_
          refine ex_round (n, q + 1 + 1, acc ++ [UInt8.ofNat (16 * x + y)]) ⟨hqs2, by show s.size < q + 1 + 1 + n; omega, by show (acc ++ [_]).length ≤ q + 1 + 1; rw [List.length_append, List.length_cons, List.length_nil]; omega, hg⟩ (by show s.size - (q + 1 + 1) < s.size - q; omega) (SLe.ren [(4, 2), (0, 0), (1, 1)] ⟨⟨rfl, rfl⟩, ⟨rfl, rfl⟩, ⟨rfl, rfl⟩, trivial⟩ ⟨⟨rfl, rfl⟩, ⟨rfl, rfl⟩, ⟨rfl, rfl⟩, trivial⟩ rfl)
    · have h34 : nextV s q = 34 := u8_eq.1 (Decidable.not_not.1 h)
      rw [if_pos h34] at hg
      subst hg
      refine ex_i64 (((q + 1 : Nat) : Int)) (by first | rfl | omega | simp) (by omega) (by omega) ?_
      refine ⟨acc, rfl, ?_⟩
      refine ex_call ((B_c _).of0) ?_
      exact ⟨rfl, TLe.rfl, rfl, rfl⟩
def digL : List UInt8 := [48, 49, 50, 51, 52, 53, 54, 55, 56, 57]
/-- The digits from a place on. -/
def digsV (s : ByteArray) (a : Nat) : List UInt8 := (s.data.toList.drop a).takeWhile digL.contains
def numV (s : ByteArray) (a : Nat) : R PV :=
  if s.data.toList[a]? = some 48 ∧ 1 < (digsV s a).length then .err (a + 1) 4 else match Lib.parseUintB 64 (digsV s a) with
    | .ok u => .ok (.mk 1 u ⟨#[]⟩ []) (a + (digsV s a).length)
    | _ => .err a 5
theorem tw_at {p : UInt8 → Bool} : ∀ (l : List UInt8) (i : Nat), i ≤ (l.takeWhile p).length → ((match l[i]? with | some c => p c | none => false) = true ↔ i < (l.takeWhile p).length)
  | [], i, h => by simp at h; subst h; simp
  | c :: l, i, h => by
    rw [List.takeWhile_cons] at h ⊢
    by_cases hc : p c = true
    · rw [if_pos hc, List.length_cons] at h
      rw [if_pos hc]
      cases i with
      | zero => simp [hc]
      | succ i =>
        have := tw_at (p := p) l i (by omega)
        simp only [List.getElem?_cons_succ, List.length_cons, Nat.add_lt_add_iff_right]
        exact this
    · rw [if_neg hc] at h
      rw [if_neg hc]
      simp at h
      subst h
      simp [hc]
theorem any_dig (s : ByteArray) (a i : Nat) (h : i ≤ (digsV s a).length) : anyV s (a + i) digL = decide (i < (digsV s a).length) := by
  have := tw_at (p := digL.contains) (s.data.toList.drop a) i h
  rw [List.getElem?_drop] at this
  rw [Bool.eq_iff_iff, decide_eq_true_iff]
  exact this
theorem digs_le (s : ByteArray) {a : Nat} (ha : a ≤ s.size) : a + (digsV s a).length ≤ s.size := by
  have := (List.takeWhile_sublist digL.contains (l := s.data.toList.drop a)).length_le
  rw [List.length_drop, show s.data.toList.length = s.size by simp] at this
  unfold digsV; omega
theorem number_c (s : ByteArray) (a : Nat) (ha : a ≤ s.size) (hs : s.size ≤ 1073741824) (hd : anyV s a digL = true) :
    CallsM Tryd.prog ΓS 56 [(0, Par s a)] 1 [.c (.ptr 0 0)] ((numV s a).tv fun v => .o (gD (drow v))) [(0, Par s (numV s a).at)] [] := by
  have hm := digs_le s ha
  obtain ⟨m, hmv⟩ : ∃ m, (digsV s a).length = m := ⟨_, rfl⟩
  have hany : ∀ i, i ≤ m → anyV s (a + i) digL = decide (i < m) := fun i hi => by rw [any_dig s a i (by omega), hmv]
  have h0 := hany 0 (by omega)
  rw [Nat.add_zero, hd] at h0
  have h0 : 0 < m := of_decide_eq_true h0.symm
  rw [hmv] at hm
  obtain ⟨c, hc⟩ : ∃ c, s.data.toList[a]? = some c := ⟨_, s_at (by omega)⟩
  obtain ⟨T, hT⟩ : ∃ T, numV s a = T := ⟨_, rfl⟩
  rw [hT]
  refine fn_ruleM (C := ⟨Tryd.prog, layF, Tryd.f56.ntmps, ΓS, 1, [], []⟩) layF_ok mixed Tryd.func56 rfl (by kernel_rfl) rfl rfl rfl ?_
  refine ex_loop (X := Nat) (fun i => ⟨[(0, .o (.c (.ptr 0 0))), (2, .o (.c (.ptr 1 0))), (3, Ti a)], [(0, Par s (a + i)), (1, .obj [.d (di 0), .d (du 0), .d (ds ⟨#[]⟩), .d dnil])], 2⟩) (fun i => m - i)
      (fun i => i ≤ m ∧ (c = 48 → i ≤ 1)) 0 ⟨by omega, fun _ => by omega⟩ (SLe.of ⟨⟨rfl, rfl, rfl, trivial⟩, ⟨rfl, rfl, trivial⟩⟩) ?_
  rintro i ⟨hi, hz⟩
  have h1 := any_c s (a + i) ⟨digL.toArray⟩ (by omega) hs
  have hlist : (⟨digL.toArray⟩ : ByteArray).data.toList = digL := rfl
  rw [hlist, hany i hi] at h1
  by_cases him : i < m
  · rw [decide_eq_true him] at h1
    refine ex_callM (CallsM.ren (h1) [0] 2 rfl rfl rfl rfl) ?_
    refine ex_dec (fun h3 => ?_) (fun h3 => ?_)
    · have hi0 : i = 0 := by omega
      refine ex_i64 (((a + (i + 1) : Nat) : Int)) (by first | rfl | omega | simp) (by omega) (by omega) ?_
      exact ex_round (i + 1) ⟨by omega, fun _ => by omega⟩ (by show m - (i + 1) < m - i; omega) (SLe.of ⟨⟨rfl, rfl, rfl, trivial⟩, ⟨rfl, rfl, trivial⟩⟩)
    · refine ex_chr a c rfl hc ?_
      refine ex_dec (fun h4 => ?_) (fun h4 => ?_)
      ·
        refine ex_i64 (((a + (i + 1) : Nat) : Int)) (by first | rfl | omega | simp) (by omega) (by omega) ?_
        exact ex_round (i + 1) ⟨by omega, fun h => absurd (by rw [h]; rfl) h4⟩ (by show m - (i + 1) < m - i; omega) (SLe.of ⟨⟨rfl, rfl, rfl, trivial⟩, ⟨rfl, rfl, trivial⟩⟩)
      · have hc48 : c = 48 := u8_eq.1 (Decidable.not_not.1 h4)
        have hi1 : i = 1 := by have := hz hc48; omega
        subst hi1
        have hT' : T = .err (a + 1) 4 := by rw [← hT]; unfold numV; rw [if_pos ⟨by rw [hc, hc48], by omega⟩]
        subst hT'
        refine ex_callM (CallsM.ren (h1) [0] 2 rfl rfl rfl rfl) ?_
        refine ex_callM (CallsM.ren ((fail_c s (a + 1) 4)) [0] 2 rfl rfl rfl rfl) ?_
        exact ⟨⟨_, rfl, rfl⟩, rfl, rfl, rfl⟩
  · obtain rfl : i = m := by omega
    rw [decide_eq_false him] at h1
    have hnz : ¬ (s.data.toList[a]? = some 48 ∧ 1 < (digsV s a).length) := by
      rintro ⟨h5, h6⟩
      have := hz (by rw [hc] at h5; exact Option.some.inj h5)
      omega
    have hex : (s.extract a (a + i)).data.toList = digsV s a := by
      rw [show (s.extract a (a + i)).data.toList = (s.data.toList.drop a).take (a + i - a) by simp, Nat.add_sub_cancel_left, ← hmv]
      exact (List.prefix_iff_eq_take.1 (List.takeWhile_prefix _)).symm
    have hp := pu_c (s.extract a (a + i)) (by rw [ByteArray.size_extract]; omega)
    unfold puT at hp
    rw [hex] at hp
    unfold numV at hT
    rw [if_neg hnz, hmv] at hT
    refine ex_callM (CallsM.ren (h1) [0] 2 rfl rfl rfl rfl) ?_
    refine ex_callM (CallsM.ren (h1) [0] 2 rfl rfl rfl rfl) ?_
    refine ⟨by omega, by omega, by omega, ?_⟩
    cases hpu : Lib.parseUintB 64 (digsV s a) with
    | ok u =>
      rw [hpu] at hp hT
      simp only at hT
      subst hT
      refine ex_call hp ?_
      refine ⟨by kernel_rfl, ?_⟩
      refine ⟨⟨_, Tryd.underlying83⟩, ?_⟩
      refine ex_call ((I_c u).of0) ?_
      exact ⟨rfl, TLe.rfl, rfl, rfl⟩
    | range =>
      rw [hpu] at hp hT
      simp only at hT
      subst hT
      refine ex_call hp ?_
      refine ⟨by kernel_rfl, ?_⟩
      refine ⟨⟨_, Tryd.underlying83⟩, ?_⟩
      refine ex_callM (CallsM.ren ((fail_c s a 5)) [0] 2 rfl rfl rfl rfl) ?_
      exact ⟨⟨_, rfl, rfl⟩, rfl, rfl, rfl⟩
    | _ =>
      rw [hpu] at hp hT
      simp only at hT
      subst hT
      refine ex_call hp ?_
      refine ⟨by kernel_rfl, ?_⟩
      refine ⟨⟨_, Tryd.underlying83⟩, ?_⟩
      refine ex_callM (CallsM.ren ((fail_c s a 5)) [0] 2 rfl rfl rfl rfl) ?_
      exact ⟨⟨_, rfl, rfl⟩, rfl, rfl, rfl⟩
end Go.Proofs.YtkeehnhamkdogaaDoor

namespace Go.Proofs.YtkeehnhamkdogaaDoor
set_option linter.unusedVariables false
set_option linter.unusedSimpArgs false
open Go.RowKit
set_option maxRecDepth 100000

def loopV (s : ByteArray) (f : Nat → R PV) (e : UInt8) (k : Int) : Nat → Nat → List PV → R PV
  | 0, _, _ => .err 0 0
  | n + 1, a, acc => match f a with
    | .err b c => .err b c
    | .ok v b => if nextV s (passV s b) = e then .ok (.mk k 0 ⟨#[]⟩ (acc ++ [v])) (passV s b + 1) else match mustV s (passV s b) 44 with
      | .err c d => .err c d
      | .ok _ c => loopV s f e k n c (acc ++ [v])
def endV (k : Int) : UInt8 := if k = 3 then 93 else 125
def listV (s : ByteArray) (f : Nat → R PV) (k : Int) (a : Nat) : R PV :=
  if nextV s (passV s a) = endV k then .ok (.mk k 0 ⟨#[]⟩ []) (passV s a + 1) else loopV s f (endV k) k (s.size + 1) (passV s a) []
/-- A value at a place without a blank. -/
def atV (s : ByteArray) (a : Nat) (deep : Bool) (f : Nat → R PV) : R PV :=
  if s.data.toList[a]? = some 91 then (if deep then .err a 8 else listV s f 3 (a + 1)) else
  if s.data.toList[a]? = some 123 then (if deep then .err a 8 else listV s f 4 (a + 1)) else
  if anyV s a digL = true then (if deep then .err a 8 else numV s a) else
  if s.data.toList[a]? = some 45 then (if deep then .err a 8 else .ok (.mk 0 0 ⟨#[]⟩ []) (a + 1)) else
  if s.data.toList[a]? = some 120 then (if deep then .err a 8 else bytV s (a + 1)) else .err a 4
/-- A value, in which so many may stand in one another. -/
def valV (s : ByteArray) : Nat → Nat → R PV
  | 0, a => atV s (passV s a) true fun _ => .err 0 0
  | n + 1, a => atV s (passV s a) false (valV s n)

theorem next_lt {s : ByteArray} {a : Nat} {c : UInt8} (h : nextV s a = c) (hc : c ≠ 0) : a < s.size ∧ s.data.toList[a]? = some c := by
  unfold nextV at h
  cases ha : s.data.toList[a]? with
  | none => rw [ha] at h; exact absurd h.symm hc
  | some d =>
    rw [ha] at h
    have := (List.getElem?_eq_some_iff.1 ha).1
    exact ⟨by simpa using this, by rw [← h]; rfl⟩
theorem at_lt {s : ByteArray} {a : Nat} {c : UInt8} (h : s.data.toList[a]? = some c) : a < s.size := by
  have := (List.getElem?_eq_some_iff.1 h).1
  simpa using this
theorem must_ok {s : ByteArray} {a b : Nat} {c : UInt8} {u : Unit} (h : mustV s a c = .ok u b) : b = a + 1 ∧ s.data.toList[a]? = some c ∧ a < s.size := by
  unfold mustV at h
  split at h
  · rename_i hc; cases h; exact ⟨rfl, hc, at_lt hc⟩
  · cases h
theorem hexV_ok {s : ByteArray} {v : PV} : ∀ {n a b : Nat} {acc : List UInt8}, hexV s n a acc = .ok v b → a < b ∧ b ≤ s.size
  | 0, a, b, acc, h => by cases h
  | n + 1, a, b, acc, h => by
    rw [hexV] at h
    split at h
    · rename_i h34
      cases h
      have := (next_lt h34 (by decide)).1
      omega
    · split at h
      · cases h
      · rename_i x b' h1
        split at h
        · cases h
        · rename_i y c h2
          have := digV_ok h1
          have := digV_ok h2
          have := hexV_ok h
          omega
theorem bytV_ok {s : ByteArray} {v : PV} {a b : Nat} (h : bytV s a = .ok v b) : a < b ∧ b ≤ s.size := by
  unfold bytV at h
  split at h
  · cases h
  · rename_i u c h1
    have := must_ok h1
    have := hexV_ok h
    omega
theorem numV_ok {s : ByteArray} {v : PV} {a b : Nat} (ha : a ≤ s.size) (hd : anyV s a digL = true) (h : numV s a = .ok v b) : a < b ∧ b ≤ s.size := by
  have h1 := any_dig s a 0 (by omega)
  rw [Nat.add_zero, hd] at h1
  have h1 := of_decide_eq_true h1.symm
  have h2 := digs_le s ha
  unfold numV at h
  split at h
  · cases h
  · split at h
    · cases h; omega
    · cases h
def FOk (s : ByteArray) (f : Nat → R PV) : Prop := ∀ a v b, a ≤ s.size → f a = .ok v b → a < b ∧ b ≤ s.size
theorem loopV_ok {s : ByteArray} {f : Nat → R PV} {e : UInt8} {k : Int} (he : e ≠ 0) (hf : FOk s f) {v : PV} : ∀ {n a b : Nat} {acc : List PV}, a ≤ s.size → loopV s f e k n a acc = .ok v b → a < b ∧ b ≤ s.size
  | 0, a, b, acc, _, h => by cases h
  | n + 1, a, b, acc, ha, h => by
    rw [loopV] at h
    split at h
    · cases h
    · rename_i x b' h1
      have h1 := hf _ _ _ ha h1
      have h2 := passV_ge s b'
      split at h
      · rename_i hn
        cases h
        have := (next_lt hn he).1
        omega
      · split at h
        · cases h
        · rename_i u c h3
          have h3 := must_ok h3
          have := loopV_ok he hf (by omega) h
          omega
theorem endV_ne (k : Int) : endV k ≠ 0 := by unfold endV; split <;> decide
theorem listV_ok {s : ByteArray} {f : Nat → R PV} {k : Int} (hf : FOk s f) {v : PV} {a b : Nat} (ha : a ≤ s.size) (h : listV s f k a = .ok v b) : a < b ∧ b ≤ s.size := by
  unfold listV at h
  have h2 := passV_ge s a
  split at h
  · rename_i hn
    cases h
    have := (next_lt hn (endV_ne k)).1
    omega
  · have := loopV_ok (endV_ne k) hf (passV_le s ha) h
    omega
theorem atV_ok {s : ByteArray} {f : Nat → R PV} {d : Bool} (hf : FOk s f) {v : PV} {a b : Nat} (ha : a ≤ s.size) (h : atV s a d f = .ok v b) : a < b ∧ b ≤ s.size := by
  unfold atV at h
  split at h
  · rename_i hc
    have := at_lt hc
    split at h
    · cases h
    · have := listV_ok hf (by omega) h; omega
  · split at h
    · rename_i hc
      have := at_lt hc
      split at h
      · cases h
      · have := listV_ok hf (by omega) h; omega
    · split at h
      · rename_i hc
        split at h
        · cases h
        · exact numV_ok ha hc h
      · split at h
        · rename_i hc
          have := at_lt hc
          split at h
          · cases h
          · cases h; omega
        · split at h
          · split at h
            · cases h
            · have := bytV_ok h; omega
          · cases h
theorem valV_ok (s : ByteArray) : ∀ n, FOk s (valV s n)
  | 0 => fun a v b ha h => by
    rw [valV] at h
    have h1 := passV_ge s a
    have := atV_ok (fun _ _ _ _ h => by cases h) (passV_le s ha) h
    omega
  | n + 1 => fun a v b ha h => by
    rw [valV] at h
    have h1 := passV_ge s a
    have := atV_ok (valV_ok s n) (passV_le s ha) h
    omega
abbrev Vtv (r : R PV) : TV := r.tv fun v => .o (gD (drow v))
abbrev Tval : TypeId := 27
theorem list_c (s : ByteArray) (hs : s.size ≤ 1073741824) (n : Nat) (f : Nat → R PV) (hf : FOk s f) (k : Int) (hk : k = 3 ∨ k = 4)
    (ih : ∀ a, a ≤ s.size → CallsM Tryd.prog ΓS 35 [(0, Par s a)] 1 [.c (.ptr 0 0), c1 (di n)] (Vtv (f a)) [(0, Par s (f a).at)] []) (a : Nat) (ha : a ≤ s.size) :
    CallsM Tryd.prog ΓS 55 [(0, Par s a)] 1 [.c (.ptr 0 0), c1 (di k), c1 (di n)] (Vtv (listV s f k a)) [(0, Par s (listV s f k a).at)] [] := by
  have hp := pass_c s a ha hs
  have hpl := passV_le s ha
  have hn := next_c s (passV s a) hpl hs
  have hb : CallsA Tryd.prog ΓS 51 [c1 (di k)] (.o (c1 (ds ⟨if k = 3 then #[91, 93] else #[123, 125]⟩))) := (brackets_c k).of0
  have hbr : (⟨if k = 3 then #[91, 93] else #[123, 125]⟩ : ByteArray).data.toList[1]? = some (endV k) := by
    unfold endV
    split <;> rfl
  obtain ⟨T, hT⟩ : ∃ T, listV s f k a = T := ⟨_, rfl⟩
  rw [hT]
  unfold listV at hT
  refine fn_ruleM (C := ⟨Tryd.prog, layF, Tryd.f55.ntmps, ΓS, 1, [], []⟩) layF_ok mixed Tryd.func55 rfl (by kernel_rfl) rfl rfl rfl ?_
  refine ex_call (hb) ?_
  refine ex_chr 1 (endV k) rfl hbr ?_
  refine ex_callM (CallsM.ren (hp) [0] 3 rfl rfl rfl rfl) ?_
  refine ex_callM (CallsM.ren (hn) [0] 3 rfl rfl rfl rfl) ?_
  refine ex_dec (fun h1 => ?_) (fun h1 => ?_)
  · rw [if_pos (u8_eq.1 h1)] at hT
    subst hT
    refine ex_i64 (((passV s a + 1 : Nat) : Int)) (by first | rfl | omega | simp) (by omega) (by omega) ?_
    exact ⟨rfl, by show TLe _ (.o (gD (drow _))); rw [drow_mk]; exact TLe.nil4, rfl, rfl⟩
  · rw [if_neg (fun h => h1 (by rw [h]))] at hT
    refine ex_loop (X := Nat × Nat × List PV) (fun x => ⟨[(0, .o (.c (.ptr 0 0))), (2, Ti n), (6, .o (.c (.ptr 1 0))), (7, .o (.c (.ptr 2 0))), (8, .o (c1 (.v (.int .u8 (endV k).toNat))))],
        [(2, .obj [.d (di k), .d (du 0), .d (ds ⟨#[]⟩), .row 3]), (3, .row 4 Tval (x.2.2.map drow)), (0, Par s x.2.1), (1, .obj [.d (di 0), .d (du 0), .d (ds ⟨#[]⟩), .d dnil])], 4⟩) (fun x => s.size - x.2.1)
      (fun x => x.2.1 ≤ s.size ∧ s.size < x.2.1 + x.1 ∧ x.2.2.length ≤ x.2.1 ∧ loopV s f (endV k) k x.1 x.2.1 x.2.2 = T) (s.size + 1, passV s a, []) ⟨hpl, by show s.size < passV s a + (s.size + 1); omega, by show 0 ≤ _; omega, hT⟩ (SLe.trans (SLe.of ⟨⟨rfl, rfl, rfl, rfl, rfl, trivial⟩, ⟨rfl, rfl, rfl, rfl, trivial⟩⟩) (SLe.ownCell 2 3 3 4 Tval rfl rfl rfl rfl rfl rfl)) ?_
    rintro ⟨m, q, acc⟩ ⟨hq, hm, hac, hg⟩
    simp only at hq hm hac hg
    obtain ⟨m, rfl⟩ : ∃ m', m = m' + 1 := ⟨m - 1, by omega⟩
    rw [loopV] at hg
    have hv := ih q hq
    cases hfq : f q with
    | err b c =>
      rw [hfq] at hv hg
      simp only at hg
      subst hg
      refine ex_callM (CallsM.ren (hv) [0] 4 rfl rfl rfl rfl) ?_
      refine ⟨by kernel_rfl, ?_⟩
      exact ⟨⟨_, rfl, rfl⟩, rfl, rfl, rfl⟩
    | ok v b =>
      rw [hfq] at hv hg
      simp only at hg
      have hvb := hf _ _ _ hq hfq
      have hpb := passV_le s hvb.2
      have hpg := passV_ge s b
      have hp2 := pass_c s b hvb.2 hs
      have hn2 := next_c s (passV s b) hpb hs
      refine ex_callM (CallsM.ren (hv) [0] 4 rfl rfl rfl rfl) ?_
      refine ex_app acc.length 1 1000 (by simp) rfl rfl (by omega) ?_
      refine ex_is ((acc ++ [v]).map drow) (by rw [List.map_append]; rfl) ?_
      refine ⟨by kernel_rfl, ?_⟩
      refine ex_callM (CallsM.ren (hp2) [0] 6 rfl rfl rfl rfl) ?_
      refine ex_callM (CallsM.ren (hn2) [0] 6 rfl rfl rfl rfl) ?_
      refine ex_dec (fun h2 => ?_) (fun h2 => ?_)
      · rw [if_pos (u8_eq.1 h2)] at hg
        subst hg
        refine ex_i64 (((passV s b + 1 : Nat) : Int)) (by first | rfl | omega | simp) (by omega) (by omega) ?_
        exact ⟨rfl, by show TLe _ (.o (gD (drow _))); rw [drow_mk]; exact TLe.rfl, rfl, rfl⟩
      · rw [if_neg (fun h => h2 (by rw [h]))] at hg
        have hmu := must_c s (passV s b) 44 hpb hs
        cases hm4 : mustV s (passV s b) 44 with
        | err c d =>
          rw [hm4] at hmu hg
          simp only at hg
          subst hg
          refine ex_callM (CallsM.ren (hmu) [0] 6 rfl rfl rfl rfl) ?_
          exact ⟨⟨_, rfl, rfl⟩, rfl, rfl, rfl⟩
        | ok u c =>
          rw [hm4] at hmu hg
          simp only at hg
          have hmo := must_ok hm4
          refine ex_callM (CallsM.ren (hmu) [0] 6 rfl rfl rfl rfl) ?_
          obtain ⟨rfl, -, hcl⟩ := hmo
          refine ex_round (m, passV s b + 1, acc ++ [v]) ⟨hcl, by show s.size < passV s b + 1 + m; omega, by show (acc ++ [v]).length ≤ passV s b + 1; rw [List.length_append, List.length_cons, List.length_nil]; omega, hg⟩ (by show s.size - (passV s b + 1) < s.size - q; omega) (SLe.ren [(2, 2), (5, 3), (0, 0), (1, 1)] ⟨⟨rfl, rfl⟩, ⟨rfl, rfl⟩, ⟨rfl, rfl⟩, ⟨rfl, rfl⟩, ⟨rfl, rfl⟩, trivial⟩ ⟨⟨rfl, rfl⟩, ⟨rfl, rfl⟩, ⟨rfl, rfl⟩, ⟨rfl, rfl⟩, trivial⟩ rfl)
end Go.Proofs.YtkeehnhamkdogaaDoor

namespace Go.Proofs.YtkeehnhamkdogaaDoor
set_option linter.unusedVariables false
set_option linter.unusedSimpArgs false
open Go.RowKit
set_option maxRecDepth 100000

abbrev fullL : List UInt8 := [48, 49, 50, 51, 52, 53, 54, 55, 56, 57, 45, 120]
theorem idx_else {c : UInt8} (h1 : c ≠ 91) (h2 : c ≠ 123) : Lib.indexByte [91, 123] c = -1 := by
  have e1 : ((91 : UInt8) == c) = false := by simpa using fun h => h1 h.symm
  have e2 : ((123 : UInt8) == c) = false := by simpa using fun h => h2 h.symm
  simp [Lib.indexByte, e1, e2]
theorem value_step (s : ByteArray) (hs : s.size ≤ 1073741824) (n : Nat) (hn : n ≤ 1200) (a : Nat) (ha : a ≤ s.size) (T : R PV)
    (h0 : n = 0 → atV s (passV s a) true (fun _ => .err 0 0) = T)
    (h1 : ∀ m, n = m + 1 → atV s (passV s a) false (valV s m) = T ∧ ∀ b, b ≤ s.size → CallsM Tryd.prog ΓS 35 [(0, Par s b)] 1 [.c (.ptr 0 0), c1 (di m)] (Vtv (valV s m b)) [(0, Par s (valV s m b).at)] []) :
    CallsM Tryd.prog ΓS 35 [(0, Par s a)] 1 [.c (.ptr 0 0), c1 (di n)] (Vtv T) [(0, Par s T.at)] [] := by
  have hp := pass_c s a ha hs
  have hq := passV_le s ha
  generalize hqe : passV s a = q at *
  have hnx := next_c s q hq hs
  have hnv : s.data.toList[q]? = some (nextV s q) ∨ (s.size ≤ q ∧ nextV s q = 0 ∧ s.data.toList[q]? = none) := by
    by_cases h : q < s.size
    · exact .inl (by unfold nextV; rw [s_at h]; rfl)
    · exact .inr ⟨by omega, by unfold nextV; rw [s_none (by omega)]; rfl, s_none (by omega)⟩
  by_cases hk : ∃ k : Int, (k = 3 ∨ k = 4) ∧ s.data.toList[q]? = some (if k = 3 then 91 else 123)
  · obtain ⟨k, hk34, hkc⟩ := hk
    have hql := at_lt hkc
    have hn1 : nextV s q = if k = 3 then 91 else 123 := by unfold nextV; rw [hkc]; rfl
    have hix : CallsA Tryd.prog ΓS 52 [c1 (ds ⟨#[91, 123]⟩), c1 (.v (.int .u8 (nextV s q).toNat))] (Ti (k - 3)) := by
      have := index_c ΓS ⟨#[91, 123]⟩ (nextV s q).toNat
      rw [hn1] at this ⊢
      rcases hk34 with rfl | rfl <;> exact this
    cases n with
    | zero =>
      have hT : T = .err q 8 := by
        rw [← h0 rfl]
        unfold atV
        rcases hk34 with rfl | rfl
        · rw [if_pos (by rw [hkc]; rfl)]; rfl
        · rw [if_neg (by rw [hkc]; decide), if_pos (by rw [hkc]; rfl)]; rfl
      subst hT
      refine fn_ruleM (C := ⟨Tryd.prog, layF, Tryd.f35.ntmps, ΓS, 1, [], []⟩) layF_ok mixed Tryd.func35 rfl (by kernel_rfl) rfl rfl rfl ?_
      refine ex_callM (CallsM.ren (hp) [0] 2 rfl rfl rfl rfl) ?_
      refine ex_callM (CallsM.ren (hnx) [0] 2 rfl rfl rfl rfl) ?_
      refine ex_call (hix) ?_
      refine ex_true (by omega) ?_
      refine ex_true (by omega) ?_
      refine ex_true (by omega) ?_
      refine ⟨by kernel_rfl, ?_⟩
      refine ex_callM (CallsM.ren ((fail_c s q 8)) [0] 2 rfl rfl rfl rfl) ?_
      exact ⟨⟨_, rfl, rfl⟩, rfl, rfl, rfl⟩
    | succ m =>
      obtain ⟨hT, ih⟩ := h1 m rfl
      have hT : listV s (valV s m) k (q + 1) = T := by
        rw [← hT]
        unfold atV
        rcases hk34 with rfl | rfl
        · rw [if_pos (by rw [hkc]; rfl)]; rfl
        · rw [if_neg (by rw [hkc]; decide), if_pos (by rw [hkc]; rfl)]; rfl
      have hl := list_c s hs m (valV s m) (valV_ok s m) k hk34 ih (q + 1) (by omega)
      rw [hT] at hl
      refine fn_ruleM (C := ⟨Tryd.prog, layF, Tryd.f35.ntmps, ΓS, 1, [], []⟩) layF_ok mixed Tryd.func35 rfl (by kernel_rfl) rfl rfl rfl ?_
      refine ex_callM (CallsM.ren (hp) [0] 2 rfl rfl rfl rfl) ?_
      refine ex_callM (CallsM.ren (hnx) [0] 2 rfl rfl rfl rfl) ?_
      refine ex_call (hix) ?_
      refine ex_false (by omega) ?_
      refine ⟨by kernel_rfl, ?_⟩
      refine ex_true (by omega) ?_
      refine ex_true (by omega) ?_
      refine ⟨by kernel_rfl, ?_⟩
      refine ex_i64 (((q + 1 : Nat) : Int)) (by first | rfl | omega | simp) (by omega) (by omega) ?_
      refine ex_i64 (k) (by first | rfl | omega | simp) (by omega) (by omega) ?_
      refine ex_i64 (((m : Nat) : Int)) (by first | rfl | omega | simp) (by omega) (by omega) ?_
      cases T with
      | ok v b =>
        refine ex_callM (CallsM.ren (hl) [0] 2 rfl rfl rfl rfl) ?_
        exact ⟨rfl, TLe.rfl, rfl, rfl⟩
      | err b e =>
        refine ex_callM (CallsM.ren (hl) [0] 2 rfl rfl rfl rfl) ?_
        exact ⟨⟨_, rfl, rfl⟩, rfl, rfl, rfl⟩
  · have hk1 : s.data.toList[q]? ≠ some 91 := fun h => hk ⟨3, .inl rfl, by rw [h]; rfl⟩
    have hk2 : s.data.toList[q]? ≠ some 123 := fun h => hk ⟨4, .inr rfl, by rw [h]; rfl⟩
    have hix : CallsA Tryd.prog ΓS 52 [c1 (ds ⟨#[91, 123]⟩), c1 (.v (.int .u8 (nextV s q).toNat))] (Ti (-1)) := by
      have := index_c ΓS ⟨#[91, 123]⟩ (nextV s q).toNat
      have e : Lib.indexByte (⟨#[91, 123]⟩ : ByteArray).data.toList ((nextV s q).toNat : Int).toNat.toUInt8 = -1 := by
        have e1 : ((nextV s q).toNat : Int).toNat.toUInt8 = nextV s q := by simp
        rw [e1]
        rcases hnv with h | ⟨_, h, _⟩
        · exact idx_else (fun e => hk1 (by rw [h, e])) (fun e => hk2 (by rw [h, e]))
        · rw [h]; exact idx_else (by decide) (by decide)
      rw [e] at this
      exact this
    have had := any_c s q ⟨digL.toArray⟩ hq hs
    rw [show (⟨digL.toArray⟩ : ByteArray).data.toList = digL from rfl] at had
    have haf := any_c s q ⟨fullL.toArray⟩ hq hs
    rw [show (⟨fullL.toArray⟩ : ByteArray).data.toList = fullL from rfl] at haf
    have hm := must_c s q 120 hq hs
    have hfull : anyV s q fullL = true ↔ anyV s q digL = true ∨ s.data.toList[q]? = some 45 ∨ s.data.toList[q]? = some 120 := by
      unfold anyV
      cases s.data.toList[q]? with
      | none => simp
      | some c => simp [fullL, digL, or_assoc]
    have h45 : ((nextV s q).toNat : Int) = 45 ↔ s.data.toList[q]? = some 45 := by
      have e : ((nextV s q).toNat : Int) = 45 ↔ nextV s q = 45 := u8_eq (b := 45)
      rw [e]
      constructor
      · exact fun h => (next_lt h (by decide)).2
      · intro h; unfold nextV; rw [h]; rfl
    cases n with
    | zero =>
      have hT := h0 rfl
      unfold atV at hT
      rw [if_neg hk1, if_neg hk2] at hT
      cases hf : anyV s q fullL with
      | true =>
        have hT : T = .err q 8 := by
          rw [← hT]
          rcases hfull.1 hf with h | h | h
          · rw [if_pos h]; rfl
          · by_cases hd : anyV s q digL = true
            · rw [if_pos hd]; rfl
            · rw [if_neg hd, if_pos h]; rfl
          · by_cases hd : anyV s q digL = true
            · rw [if_pos hd]; rfl
            · rw [if_neg hd, if_neg (by rw [h]; decide), if_pos h]; rfl
        subst hT
        rw [hf] at haf
        refine fn_ruleM (C := ⟨Tryd.prog, layF, Tryd.f35.ntmps, ΓS, 1, [], []⟩) layF_ok mixed Tryd.func35 rfl (by kernel_rfl) rfl rfl rfl ?_
        refine ex_callM (CallsM.ren (hp) [0] 2 rfl rfl rfl rfl) ?_
        refine ex_callM (CallsM.ren (hnx) [0] 2 rfl rfl rfl rfl) ?_
        refine ex_call (hix) ?_
        refine ex_true (by omega) ?_
        refine ex_false (by omega) ?_
        refine ex_callM (CallsM.ren (haf) [0] 2 rfl rfl rfl rfl) ?_
        refine ⟨by kernel_rfl, ?_⟩
        refine ex_callM (CallsM.ren ((fail_c s q 8)) [0] 2 rfl rfl rfl rfl) ?_
        exact ⟨⟨_, rfl, rfl⟩, rfl, rfl, rfl⟩
      | false =>
        have hd : anyV s q digL = false := by
          cases hd : anyV s q digL with
          | false => rfl
          | true => rw [hfull.2 (.inl hd)] at hf; cases hf
        have h4 : s.data.toList[q]? ≠ some 45 := fun h => by rw [hfull.2 (.inr (.inl h))] at hf; cases hf
        have hx : s.data.toList[q]? ≠ some 120 := fun h => by rw [hfull.2 (.inr (.inr h))] at hf; cases hf
        rw [if_neg (by rw [hd]; decide), if_neg h4, if_neg hx] at hT
        subst hT
        rw [hf] at haf
        rw [hd] at had
        rw [show mustV s q 120 = .err q 4 from if_neg hx] at hm
        refine fn_ruleM (C := ⟨Tryd.prog, layF, Tryd.f35.ntmps, ΓS, 1, [], []⟩) layF_ok mixed Tryd.func35 rfl (by kernel_rfl) rfl rfl rfl ?_
        refine ex_callM (CallsM.ren (hp) [0] 2 rfl rfl rfl rfl) ?_
        refine ex_callM (CallsM.ren (hnx) [0] 2 rfl rfl rfl rfl) ?_
        refine ex_call (hix) ?_
        refine ex_true (by omega) ?_
        refine ex_false (by omega) ?_
        refine ex_callM (CallsM.ren (haf) [0] 2 rfl rfl rfl rfl) ?_
        refine ⟨by kernel_rfl, ?_⟩
        refine ex_false (by omega) ?_
        refine ⟨by kernel_rfl, ?_⟩
        refine ex_callM (CallsM.ren (had) [0] 2 rfl rfl rfl rfl) ?_
        refine ex_callM (CallsM.ren (hnx) [0] 2 rfl rfl rfl rfl) ?_
        refine ex_false (fun h => h4 (h45.1 h)) ?_
        refine ex_callM (CallsM.ren (hm) [0] 2 rfl rfl rfl rfl) ?_
        exact ⟨⟨_, rfl, rfl⟩, rfl, rfl, rfl⟩
    | succ m =>
      obtain ⟨hT, -⟩ := h1 m rfl
      unfold atV at hT
      rw [if_neg hk1, if_neg hk2] at hT
      cases hd : anyV s q digL with
      | true =>
        rw [if_pos hd] at hT
        have hT : numV s q = T := hT
        have hnu := number_c s q hq hs hd
        rw [hT] at hnu
        rw [hd] at had
        refine fn_ruleM (C := ⟨Tryd.prog, layF, Tryd.f35.ntmps, ΓS, 1, [], []⟩) layF_ok mixed Tryd.func35 rfl (by kernel_rfl) rfl rfl rfl ?_
        refine ex_callM (CallsM.ren (hp) [0] 2 rfl rfl rfl rfl) ?_
        refine ex_callM (CallsM.ren (hnx) [0] 2 rfl rfl rfl rfl) ?_
        refine ex_call (hix) ?_
        refine ex_false (by omega) ?_
        refine ⟨by kernel_rfl, ?_⟩
        refine ex_false (by omega) ?_
        refine ⟨by kernel_rfl, ?_⟩
        refine ex_callM (CallsM.ren (had) [0] 2 rfl rfl rfl rfl) ?_
        cases T with
        | ok v b =>
          refine ex_callM (CallsM.ren (hnu) [0] 2 rfl rfl rfl rfl) ?_
          exact ⟨rfl, TLe.rfl, rfl, rfl⟩
        | err b e =>
          refine ex_callM (CallsM.ren (hnu) [0] 2 rfl rfl rfl rfl) ?_
          exact ⟨⟨_, rfl, rfl⟩, rfl, rfl, rfl⟩
      | false =>
        rw [if_neg (by rw [hd]; decide)] at hT
        rw [hd] at had
        by_cases h4 : s.data.toList[q]? = some 45
        · have hql := at_lt h4
          rw [if_pos h4] at hT
          have hT : .ok (.mk 0 0 ⟨#[]⟩ []) (q + 1) = T := hT
          subst hT
          refine fn_ruleM (C := ⟨Tryd.prog, layF, Tryd.f35.ntmps, ΓS, 1, [], []⟩) layF_ok mixed Tryd.func35 rfl (by kernel_rfl) rfl rfl rfl ?_
          refine ex_callM (CallsM.ren (hp) [0] 2 rfl rfl rfl rfl) ?_
          refine ex_callM (CallsM.ren (hnx) [0] 2 rfl rfl rfl rfl) ?_
          refine ex_call (hix) ?_
          refine ex_false (by omega) ?_
          refine ⟨by kernel_rfl, ?_⟩
          refine ex_false (by omega) ?_
          refine ⟨by kernel_rfl, ?_⟩
          refine ex_callM (CallsM.ren (had) [0] 2 rfl rfl rfl rfl) ?_
          refine ex_callM (CallsM.ren (hnx) [0] 2 rfl rfl rfl rfl) ?_
          refine ex_true (h45.2 h4) ?_
          refine ex_i64 (((q + 1 : Nat) : Int)) (by first | rfl | omega | simp) (by omega) (by omega) ?_
          exact ⟨rfl, by show TLe _ (.o (gD (drow _))); rw [drow_mk]; exact TLe.nil4, rfl, rfl⟩
        · rw [if_neg h4] at hT
          by_cases hx : s.data.toList[q]? = some 120
          · have hql := at_lt hx
            rw [if_pos hx] at hT
            have hT : bytV s (q + 1) = T := hT
            have hby := bytes_c s (q + 1) (by omega) hs
            rw [hT] at hby
            rw [show mustV s q 120 = .ok () (q + 1) from if_pos hx] at hm
            refine fn_ruleM (C := ⟨Tryd.prog, layF, Tryd.f35.ntmps, ΓS, 1, [], []⟩) layF_ok mixed Tryd.func35 rfl (by kernel_rfl) rfl rfl rfl ?_
            refine ex_callM (CallsM.ren (hp) [0] 2 rfl rfl rfl rfl) ?_
            refine ex_callM (CallsM.ren (hnx) [0] 2 rfl rfl rfl rfl) ?_
            refine ex_call (hix) ?_
            refine ex_false (by omega) ?_
            refine ⟨by kernel_rfl, ?_⟩
            refine ex_false (by omega) ?_
            refine ⟨by kernel_rfl, ?_⟩
            refine ex_callM (CallsM.ren (had) [0] 2 rfl rfl rfl rfl) ?_
            refine ex_callM (CallsM.ren (hnx) [0] 2 rfl rfl rfl rfl) ?_
            refine ex_false (fun h => h4 (h45.1 h)) ?_
            refine ex_callM (CallsM.ren (hm) [0] 2 rfl rfl rfl rfl) ?_
            cases T with
            | ok v b =>
              refine ex_callM (CallsM.ren (hby) [0] 2 rfl rfl rfl rfl) ?_
              exact ⟨rfl, TLe.rfl, rfl, rfl⟩
            | err b e =>
              refine ex_callM (CallsM.ren (hby) [0] 2 rfl rfl rfl rfl) ?_
              exact ⟨⟨_, rfl, rfl⟩, rfl, rfl, rfl⟩
          · rw [if_neg hx] at hT
            subst hT
            rw [show mustV s q 120 = .err q 4 from if_neg hx] at hm
            refine fn_ruleM (C := ⟨Tryd.prog, layF, Tryd.f35.ntmps, ΓS, 1, [], []⟩) layF_ok mixed Tryd.func35 rfl (by kernel_rfl) rfl rfl rfl ?_
            refine ex_callM (CallsM.ren (hp) [0] 2 rfl rfl rfl rfl) ?_
            refine ex_callM (CallsM.ren (hnx) [0] 2 rfl rfl rfl rfl) ?_
            refine ex_call (hix) ?_
            refine ex_false (by omega) ?_
            refine ⟨by kernel_rfl, ?_⟩
            refine ex_false (by omega) ?_
            refine ⟨by kernel_rfl, ?_⟩
            refine ex_callM (CallsM.ren (had) [0] 2 rfl rfl rfl rfl) ?_
            refine ex_callM (CallsM.ren (hnx) [0] 2 rfl rfl rfl rfl) ?_
            refine ex_false (fun h => h4 (h45.1 h)) ?_
            refine ex_callM (CallsM.ren (hm) [0] 2 rfl rfl rfl rfl) ?_
            exact ⟨⟨_, rfl, rfl⟩, rfl, rfl, rfl⟩
theorem value_c (s : ByteArray) (hs : s.size ≤ 1073741824) : ∀ (n : Nat), n ≤ 1200 → ∀ a, a ≤ s.size →
    CallsM Tryd.prog ΓS 35 [(0, Par s a)] 1 [.c (.ptr 0 0), c1 (di n)] (Vtv (valV s n a)) [(0, Par s (valV s n a).at)] []
  | 0, hn, a, ha => value_step s hs 0 hn a ha _ (fun _ => rfl) (fun m hm => by cases hm)
  | n + 1, hn, a, ha => value_step s hs (n + 1) hn a ha _ (fun h => by cases h) (fun m hm => by
      obtain rfl : n = m := by omega
      exact ⟨rfl, value_c s hs n (by omega)⟩)
end Go.Proofs.YtkeehnhamkdogaaDoor

namespace Go.Proofs.YtkeehnhamkdogaaDoor
set_option linter.unusedVariables false
set_option linter.unusedSimpArgs false
open Go.RowKit
set_option maxRecDepth 100000

/-- A piece of code over some objects, entered with slots of which something is known. -/
theorem code_after {C : Ctx} {c : Code} (hL : LOk C.P C.L) (hm : C.P.follows .mixedOrders = true) {tm : List (Nat × TV)} {m : List (Nat × Blk)} (hml : (m.all fun p => Nat.blt p.1 C.nx0) = true) {upd : List (Nat × Blk)} {new : List Blk}
    (h : vc C c ⟨tm, m, C.nx0⟩ fun e st => match e with
      | .normal => retOkP (m.map (·.1)) C.nx0 upd new st
      | _ => False)
    {ι : Nat → Value} {S : Nat → Prop} {w : World} {a : Act} (hS : ∀ b, S b → b < w.heap.size) (hG : C.Γ.G S w) (hblk : ∀ p ∈ m, BlkOk ι S w p.1 p.2)
    (hdst : ∀ p ∈ m, ∀ q ∈ m, ∀ g, p.2.live = true → q.2.live = true → blkOf (ι p.1) = some g → blkOf (ι q.1) = some g → p.1 = q.1) (htm : ∀ t tv, findL tm t = some tv → V ι S w tv (a.tmps.getD t undef)) (hsz : a.tmps.size = C.n) (hdn : a.defers = []) :
    c.wp C.P (fun e a' w' => e = .normal ∧ a'.defers = [] ∧ ∃ ι' S', After ι S w C.nx0 ⟨.und, m.map (·.1), upd, new⟩ undef ι' S' w') a w := by
  have hmlt : ∀ p ∈ m, p.1 < C.nx0 := fun p hp => Nat.lt_of_succ_le (Nat.le_of_ble_eq_true (List.all_eq_true.1 hml p hp))
  have hR : RS ⟨w, fun g => ∃ p ∈ m, p.2.live = true ∧ blkOf (ι p.1) = some g, S, C.n, C.Γ, ι, C.nx0, []⟩ ⟨tm, m, C.nx0⟩ a w :=
    ⟨ι, S, rfl, rfl, rfl, Nat.le_refl _, fun _ _ _ => rfl, hS, fun _ h => h, fun _ h => .inl h, htm, fun k b hk => hblk _ (findL_mem hk), fun k b hk hl g hg => .inl ⟨(k, b), findL_mem hk, hl, hg⟩, fun k k' b b' g hk hk' hl hl' hg hg' => hdst _ (findL_mem hk) _ (findL_mem hk') g hl hl' hg hg', hdn, hsz, hG, fun _ _ => rfl⟩
  refine Code.wp_mono (fun e a' w' hq => ?_) (vc_ok hL ⟨rfl, rfl, rfl⟩ hm c _ _ _ w h hR)
  obtain ⟨st, ⟨ι1, S1, I⟩, hq⟩ := hq
  cases e with
  | normal =>
    have hq : retOkP (m.map (·.1)) C.nx0 upd new st := hq
    unfold retOkP at hq
    split at hq
    · rename_i u n src hex
      obtain ⟨hchk, hu, hnw⟩ := hq
      obtain ⟨ι', S', A⟩ := core_after (C := C) hmlt ι1 S1 .und undef [] u n src I hex hchk hu hnw (by simp) (fun _ => rfl)
      exact ⟨rfl, I.dn, ι', S', A⟩
    · exact hq.elim
  | _ => exact hq.elim
/-- The end of a function of data: what the results are, in a state. -/
theorem end_data {C : Ctx} (hL : LOk C.P C.L) {S : Nat → Prop} {w w' : World} {st : St} {a : Act} {dd : List Deferred} {ιx : Nat → Value} {nxx : Nat} {fn : Func} {r : TV} (hR' : RS ⟨w, fun _ => False, S, C.n, C.Γ, ιx, nxx, dd⟩ st a w') (hret : retOk C.L fn.results.toList r st) :
    ∃ v, (results fn a.tmps).run C.P w' = .ok v w' ∧ ∃ x S', Ending.returned v = .returned x ∧ Below w.heap.size w w' ∧ (∀ b, S b → S' b) ∧ (∀ b, S' b → S b ∨ w.heap.size ≤ b) ∧ (∀ b, S' b → b < w'.heap.size) ∧ V ι0 S' w' r x := by
  obtain ⟨ι, S1, I⟩ := hR'
  unfold retOk at hret
  split at hret
  · rename_i ys ks hy
    obtain ⟨v, hres, hrows, hval⟩ := results_ok hL I hy
    refine ⟨v, hres, v, giveUp ι S1 ks, rfl, ⟨I.os, I.tape, I.output, I.size, fun b hb => I.old b hb (fun h => h)⟩, fun b hb => .inl (I.s0 b hb), fun b hb => ?_, fun b hb => ?_, hret _ _ _ _ (hval ι0)⟩
    · rcases hb with hb | ⟨k, hk, hb⟩
      · rcases I.sg b hb with h | h | h
        · exact .inl h
        · exact .inr h
        · exact h.elim
      · obtain ⟨size, e, rows, hm, _⟩ := hrows k hk
        rcases I.mutb k _ hm rfl b hb with h | h
        · exact h.elim
        · exact .inr h
    · rcases hb with hb | ⟨k, hk, hb⟩
      · exact I.slt b hb
      · obtain ⟨size, e, rows, _, hr⟩ := hrows k hk
        exact (row_lt hr b hb).1
  · exact hret.elim
/-- What the caught panic leaves. -/
def caughtSt (st : St) (upd : List (Nat × Blk)) : St := ⟨st.tm, upd ++ st.mem, st.nx⟩
def fnQD (L : Nat → Option Lay) (rs : List ResultVar) (r : TV) (Hit : Value → St → List (Nat × Blk) → Prop) : Exit → St → Prop
  | .normal, st | .ret, st => retOk L rs r st
  | .panic ch, st => ∃ v upd, ch = panE v ∧ Hit v st upd ∧ (upd.all fun p => match findL st.mem p.1 with | some b => b.live | none => false) = true ∧ uniqB upd = true ∧ retOk L rs r (caughtSt st upd)
  | _, _ => False
/-- The slots that the closure captures: pointers to objects. -/
def capsOk : List Nat → List Nat → St → Prop
  | t :: ts, k :: ks, st => findL st.tm t = some (.o (.c (.ptr k 0))) ∧ capsOk ts ks st
  | [], [], _ => True
  | _, _, _ => False
theorem capsOk_vs {E : Env} {ι : Nat → Value} {S : Nat → Prop} {st : St} {a : Act} {w : World} (I : Inv E ι S (findL st.tm) (findL st.mem) a w) : ∀ {caps capN : List Nat}, capsOk caps capN st → (caps.map fun t => a.tmps.getD t undef) = capN.map ι
  | [], [], _ => rfl
  | t :: ts, k :: ks, h => by
    rw [List.map_cons, List.map_cons, capsOk_vs I h.2]
    obtain ⟨b, h1, h2⟩ := I.tms t _ h.1
    rw [h2, h1]
  | [], _ :: _, h => h.elim
  | _ :: _, [], h => h.elim
/-- A function of data with one deferred closure that recovers: ahead of the 'defer' two pieces of code. -/
theorem fn_ruleD {C : Ctx} {f g : FuncId} {fn : Func} {x0 x1 rg c : Code} {t9 nx2 : Nat} {caps capN : List Nat} (hL : LOk C.P C.L) (hm : C.P.follows .mixedOrders = true) (hf : C.P.funcs[f]? = some fn) (hb : fn.body = some (.seq x0 (.seq x1 (.seq rg c)))) (hname : (fn.name == "runtime.NumGoroutine") = false)
    (hn : fn.ntmps = C.n) (h0 : C.nx0 = 0) {xs : List T1} (hx : Nat.ble xs.length C.n = true) {r : TV} (Hit : Value → St → List (Nat × Blk) → Prop)
    (hdef : ∀ (a : Act) (w : World) (Q : Exit → Act → World → Prop), a.tmps.size = C.n → (∀ u : Value, Q .normal { tmps := a.tmps.setIfInBounds t9 u, defers := { target := .fn (.func g) (caps.map fun t => a.tmps.getD t undef).toArray, args := #[] } :: a.defers } w) → rg.wp C.P Q a w)
    (henter : ∀ (vs : Array Value) (w : World), (callFunc g vs).run C.P w = .ok (.enter g vs) w)
    (hidle : ∀ (vs : List Value) (w : World), vs.length = capN.length → CallsD C.P g vs.toArray .returning w fun e u' w' => e = .returned (.tuple #[]) ∧ u' = .returning ∧ w' = w)
    (hcn : (capN.all fun k => Nat.blt k nx2) = true)
    (hhit : ∀ v st upd, Hit v st upd → ∀ (ι : Nat → Value) (S : Nat → Prop) (w : World), (∀ b, S b → b < w.heap.size) → C.Γ.G S w → (∀ k b, findL st.mem k = some b → BlkOk ι S w k b) →
      (∀ k k' b b' g, findL st.mem k = some b → findL st.mem k' = some b' → b.live = true → b'.live = true → blkOf (ι k) = some g → blkOf (ι k') = some g → k = k') →
      CallsD C.P g (capN.map ι).toArray (.panicking (panE v)) w fun e' u' w' => e' = .returned (.tuple #[]) ∧ u' = .panicking [{ v, recovered := true }] ∧ ∃ ι' S', After ι S w st.nx ⟨.und, [], upd, []⟩ undef ι' S' w')
    (h : vc C x0 ⟨argTm 0 xs, [], 0⟩ fun e st => match e with
      | .normal => vc C x1 st fun e st => match e with
        | .normal => capsOk caps capN st ∧ Nat.ble nx2 st.nx = true ∧ vc { C with nx0 := nx2 } c ⟨(t9, .no) :: st.tm, st.mem, st.nx⟩ (fnQD C.L fn.results.toList r Hit)
        | _ => False
      | _ => False) : CallsA C.P C.Γ f xs r := by
  refine ⟨⟨fn, hf, hname, by rw [hb]; rfl⟩, fun S w vs hS hG hvs => ?_⟩
  have hxl := Nat.le_of_ble_eq_true hx
  have hlen := hvs.len
  refine calls_of_wp_defers hf hb ?_
  have hR : RS ⟨w, fun _ => False, S, C.n, C.Γ, ι0, 0, []⟩ ⟨argTm 0 xs, [], 0⟩ { tmps := vs.toArray ++ Array.replicate (fn.ntmps - vs.toArray.size) undef, defers := [] } w := by
    refine ⟨ι0, S, rfl, rfl, rfl, Nat.le_refl _, fun _ _ _ => rfl, hS, fun _ h => h, fun _ h => .inl h, fun t tv ht => ?_, (fun k b hk => by cases hk), (fun k b hk => by cases hk), (fun k k' b b' g hk => by cases hk), rfl, ?_, hG, fun _ _ => rfl⟩
    · obtain ⟨x, rfl, _, hx⟩ := argTm_find xs 0 t tv ht
      rw [Nat.sub_zero] at hx
      obtain ⟨u, hu, hv⟩ := hvs.at_left hx
      have hlt := (List.getElem?_eq_some_iff.1 hu).1
      have : (vs.toArray ++ Array.replicate (fn.ntmps - vs.toArray.size) undef).getD t undef = u := by
        simp [Array.getElem?_append, hlt, hu]
        have h2 := (List.getElem?_eq_some_iff.1 hu).2
        exact h2
      show V ι0 S w (.o x) _
      dsimp only
      rw [this]
      exact hv
    · simp; omega
  refine wp_seq (Code.wp_mono (fun e a w1 hq => ?_) (vc_ok hL ⟨rfl, rfl, h0.symm⟩ hm x0 _ _ _ w h hR))
  obtain ⟨st1, hR1, hq⟩ := hq
  cases e with
  | normal =>
    refine wp_seq (Code.wp_mono (fun e a2 w2 hq2 => ?_) (vc_ok hL ⟨rfl, rfl, h0.symm⟩ hm x1 _ _ _ w1 hq hR1))
    obtain ⟨st2, hR2, hq2⟩ := hq2
    cases e with
    | normal =>
      obtain ⟨ι2, S2, I2⟩ := hR2
      refine wp_seq (hdef a2 w2 _ I2.sz fun u => ?_)
      rw [I2.dn]
      obtain ⟨hcaps, hnx2, hq2⟩ := hq2
      rw [capsOk_vs I2 hcaps]
      obtain ⟨d, hd⟩ : ∃ d : Deferred, d = { target := .fn (.func g) (capN.map ι2).toArray, args := #[] } := ⟨_, rfl⟩
      rw [← hd]
      have hR3 : RS ⟨w, fun _ => False, S, C.n, C.Γ, ι2, nx2, [d]⟩ ⟨(t9, .no) :: st2.tm, st2.mem, st2.nx⟩ { tmps := a2.tmps.setIfInBounds t9 u, defers := [d] } w2 := by
        refine ⟨ι2, S2, I2.os, I2.tape, I2.output, I2.size, I2.old, I2.slt, I2.s0, I2.sg, fun t tv ht => ?_, I2.blk, I2.mutb, I2.dst, rfl, by simpa using I2.sz, I2.gl, fun _ _ => rfl⟩
        simp only [findL] at ht
        split at ht
        · cases ht; trivial
        · rename_i hne
          have := I2.tms t tv ht
          have e : (a2.tmps.setIfInBounds t9 u).getD t undef = a2.tmps.getD t undef := by
            simp only [Array.getD_eq_getD_getElem?]
            rw [Array.getElem?_setIfInBounds_ne hne]
          show V ι2 S2 w2 tv ((a2.tmps.setIfInBounds t9 u).getD t undef)
          rw [e]
          exact this
      refine Code.wp_mono (fun e a3 w3 hq3 => ?_) (vc_ok (C := { C with nx0 := nx2 }) hL ⟨rfl, rfl, rfl⟩ hm c _ _ _ w2 hq2 hR3)
      obtain ⟨st3, hR4, hq3⟩ := hq3
      have key : retOk C.L fn.results.toList r st3 → Leaves C.P fn a3.tmps (fun e w' => ∃ x S', e = .returned x ∧ Below w.heap.size w w' ∧ (∀ b, S b → S' b) ∧ (∀ b, S' b → S b ∨ w.heap.size ≤ b) ∧ (∀ b, S' b → b < w'.heap.size) ∧ V ι0 S' w' r x) a3.defers .returning w3 := fun hret => by
        obtain ⟨v, h1, h2⟩ := end_data hL hR4 hret
        obtain ⟨ι4, S4, I4⟩ := hR4
        rw [I4.dn, hd]
        refine leaves_cons (f := g) (args := (capN.map ι2).toArray) (by simp) (by simp [invoke, henter]) ?_
        refine (hidle _ _ (by simp)).mono ?_
        rintro e' u' w4 ⟨rfl, rfl, rfl⟩
        exact ⟨v, h1, h2⟩
      cases e with
      | normal => exact key hq3
      | ret => exact key hq3
      | panic ch =>
        obtain ⟨v, upd, rfl, hh, hlive, huq, hret⟩ := hq3
        obtain ⟨ι4, S4, I4⟩ := hR4
        show Leaves C.P fn a3.tmps _ a3.defers (.panicking (panE v)) w3
        rw [I4.dn, hd]
        have hι : capN.map ι2 = capN.map ι4 := List.map_congr_left fun k hk => (I4.ik k (by have := List.all_eq_true.1 hcn k hk; simpa [Nat.blt_eq] using this)).symm
        rw [hι]
        refine leaves_cons (f := g) (args := (capN.map ι4).toArray) (by simp) (by simp [invoke, henter]) ?_
        refine (hhit v st3 upd hh ι4 S4 w3 I4.slt I4.gl I4.blk I4.dst).mono ?_
        rintro e' u' w4 ⟨rfl, rfl, ι5, S5, A⟩
        have I5 := step_inv (tm' := findL st3.tm) (a' := a3) I4 A (fun k b hk => ?_) (fun i hi => by simp at hi) (fun h => by simp at h) (fun k b b' => uniqB_ok huq k b b') (fun hSb hmen t tv ht => ?_) I4.dn I4.sz
        · have hR5 : RS ⟨w, fun _ => False, S, C.n, C.Γ, ι2, nx2, [d]⟩ (caughtSt st3 upd) a3 w4 := by
            refine ⟨ι5, S5, ?_⟩
            have e : updF (findL st3.mem) ⟨.und, [], upd, []⟩ st3.nx = findL (caughtSt st3 upd).mem := updF_step st3 none ⟨.und, [], upd, []⟩
            rw [← e]
            exact I5
          obtain ⟨v5, h1, h2⟩ := end_data hL hR5 hret
          exact ⟨v5, h1, h2⟩
        · have := List.all_eq_true.1 hlive _ hk
          simp only at this
          split at this
          · rename_i b' hb'; exact ⟨b', hb', this⟩
          · cases this
        · exact V.mono hSb A.smono (hmen tv fun i hi => by simp at hi) (I4.tms t tv ht)
      | _ => exact hq3.elim
    | _ => exact hq2.elim
  | _ => exact hq.elim
end Go.Proofs.YtkeehnhamkdogaaDoor

namespace Go.Proofs.YtkeehnhamkdogaaDoor
set_option linter.unusedVariables false
set_option linter.unusedSimpArgs false
open Go.RowKit
set_option maxRecDepth 100000

theorem nil_eq (w : World) : (binOp BinOp.eql 20 .nilIface .nilIface).run Tryd.prog w = .ok (.bool true) w := by kernel_rfl
theorem iface_eq (t : TypeId) (v : Value) (w : World) : (binOp BinOp.eql 20 (.iface t v) .nilIface).run Tryd.prog w = .ok (.bool false) w := by rfl
theorem catch_idle (x y z : Value) (w : World) :
    CallsD Tryd.prog 34 #[x, y, z] .returning w fun e u' w' => e = .returned (.tuple #[]) ∧ u' = .returning ∧ w' = w := by
  refine callsD_of_wpS Tryd.func34 rfl fun c₀ cs hu => ?_
  apply wpS_seq
  apply wpS_region
  simp [wpOpsS, go_sem, recoverD, hu, Tryd.ntmps34, Exit.thenS]
  refine wpS_of_wp ?_
  refine wp_block ?_
  apply wp_seq
  apply wp_region
  simp [wpOps, go_sem, nil_eq, Exit.then]
  repeat apply Or.inl
  refine Go.wp_cond_true ?hc ?h
  · simp [Act.eval]
  apply wp_region
  simp [wpOps, go_sem, Exit.inBlock]
  repeat apply Or.inl
  cases c₀
  simp_all [bodyPostS, results, Tryd.results34, Exit.thenS]
theorem assert_ok (v : Value) (w : World) : (Instr.typeAssert (.iface 72 v) 20 72 true).run Tryd.prog w = .ok (.tuple #[v, .bool true]) w := by
  simp [Instr.typeAssert, run_underlying, Tryd.underlying72]
abbrev pv (a : Nat) (e : Int) (r : Bool) : List PanicEntry := [{ v := flt a e, recovered := r }]
def hitM (d0 d1 d2 d3 x0 y0 : D) : List (Nat × Blk) := [(0, .obj [.d d0, .d d1, .d d2, .d d3]), (1, .obj [.d x0]), (2, .obj [.d y0])]
theorem catch_hit (a : Nat) (e : Int) (d0 d1 d2 d3 x0 y0 : D) {ι : Nat → Value} {S : Nat → Prop} {w : World} (hS : ∀ b, S b → b < w.heap.size) (hG : ΓS.G S w) (hblk : ∀ p ∈ hitM d0 d1 d2 d3 x0 y0, BlkOk ι S w p.1 p.2)
    (hdst : ∀ p ∈ hitM d0 d1 d2 d3 x0 y0, ∀ q ∈ hitM d0 d1 d2 d3 x0 y0, ∀ g, p.2.live = true → q.2.live = true → blkOf (ι p.1) = some g → blkOf (ι q.1) = some g → p.1 = q.1) :
    CallsD Tryd.prog 34 #[ι 0, ι 1, ι 2] (.panicking (pv a e false)) w fun e' u' w' => e' = .returned (.tuple #[]) ∧ u' = .panicking (pv a e true) ∧ ∃ ι' S', After ι S w 3 ⟨.und, [0, 1, 2], hitM (di 0) (du 0) (ds ⟨#[]⟩) dnil (di a) (di e), []⟩ undef ι' S' w' := by
  have hp : ∀ k, k < 3 → ∃ b, ι k = .pointer (some ⟨b, 0, none⟩) := fun k hk => by
    match k, hk with
    | 0, _ => obtain ⟨b, arr, ty, h1, _⟩ := hblk _ (List.mem_cons_self ..); exact ⟨b, h1⟩
    | 1, _ => obtain ⟨b, arr, ty, h1, _⟩ := hblk _ (List.mem_cons_of_mem _ (List.mem_cons_self ..)); exact ⟨b, h1⟩
    | 2, _ => obtain ⟨b, arr, ty, h1, _⟩ := hblk _ (List.mem_cons_of_mem _ (List.mem_cons_of_mem _ (List.mem_cons_self ..))); exact ⟨b, h1⟩
  obtain ⟨b0, hb0⟩ := hp 0 (by omega)
  obtain ⟨b1, hb1⟩ := hp 1 (by omega)
  obtain ⟨b2, hb2⟩ := hp 2 (by omega)
  refine callsD_of_wpS Tryd.func34 rfl fun c₀ cs hu => ?_
  apply wpS_seq
  apply wpS_region
  simp [wpOpsS, go_sem, recoverD, hu, Tryd.ntmps34, Exit.thenS]
  refine wpS_of_wp ?_
  refine wp_block ?_
  apply wp_seq
  apply wp_region
  simp [wpOps, go_sem, iface_eq, Exit.then]
  apply Or.inl
  refine Go.wp_cond_false ?hc ?h
  · simp [Act.eval]
  apply wp_seq
  apply wp_region
  simp [wpOps, go_sem, assert_ok, Exit.then]
  iterate 3 apply Or.inl
  refine Go.wp_cond_true ?hc2 ?h2
  · simp [Act.eval]
  refine Code.wp_mono (fun e1 a1 w1 h => ?_) (code_after (C := ⟨Tryd.prog, layF, Tryd.f34.ntmps, ΓS, 3, [], []⟩) (tm := [(0, .o (.c (.ptr 0 0))), (1, .o (.c (.ptr 1 0))), (2, .o (.c (.ptr 2 0))), (11, .o (gD [di a, di e]))]) (m := hitM d0 d1 d2 d3 x0 y0) (upd := hitM (di 0) (du 0) (ds ⟨#[]⟩) dnil (di a) (di e)) (new := []) layF_ok mixed rfl ?hvc hS hG hblk hdst ?htm (by simp [Tryd.ntmps34]) rfl)
  case hvc =>
    refine ⟨by kernel_rfl, ?_⟩
    exact ⟨rfl, rfl, rfl⟩
  case htm =>
    intro t tv ht
    simp only [findL] at ht
    split at ht
    · rename_i h; subst h; cases ht
      exact ⟨b0, hb0, by simp [hb0]⟩
    · split at ht
      · rename_i h; subst h; cases ht
        exact ⟨b1, hb1, by simp [hb1]⟩
      · split at ht
        · rename_i h; subst h; cases ht
          exact ⟨b2, hb2, by simp [hb2]⟩
        · split at ht
          · rename_i h; subst h; cases ht
            exact ⟨[.int .i64 a, .int .i64 e], by simp, .cons (Imm.v rfl) (.cons (Imm.v rfl) .nil)⟩
          · cases ht
  obtain ⟨rfl, h1, ι', S', A⟩ := h
  simp only [Exit.inBlock, bodyPostS]
  exact ⟨h1, .panicking (pv a e true), rfl, .tuple #[], by simp [results, Tryd.results34], rfl, rfl, ι', S', A⟩
end Go.Proofs.YtkeehnhamkdogaaDoor

namespace Go.Proofs.YtkeehnhamkdogaaDoor
set_option linter.unusedVariables false
set_option linter.unusedSimpArgs false
open Go.RowKit
set_option maxRecDepth 100000

def parseV (s : ByteArray) : PV × Int × Int := match valV s 1200 0 with
  | .err a e => (.mk 0 0 ⟨#[]⟩ [], a, e)
  | .ok v a => if passV s a < s.size then (.mk 0 0 ⟨#[]⟩ [], passV s a, 4) else (v, 0, 0)
def HitP (v : Value) (st : St) (upd : List (Nat × Blk)) : Prop := ∃ (a : Nat) (e : Int) (d0 d1 d2 d3 x0 y0 : D), v = flt a e ∧ upd = hitM (di 0) (du 0) (ds ⟨#[]⟩) dnil (di a) (di e) ∧
  findL st.mem 0 = some (.obj [.d d0, .d d1, .d d2, .d d3]) ∧ findL st.mem 1 = some (.obj [.d x0]) ∧ findL st.mem 2 = some (.obj [.d y0])
theorem hitP_ok (v : Value) (st : St) (upd : List (Nat × Blk)) (h : HitP v st upd) (ι : Nat → Value) (S : Nat → Prop) (w : World) (hS : ∀ b, S b → b < w.heap.size) (hG : ΓS.G S w) (hblk : ∀ k b, findL st.mem k = some b → BlkOk ι S w k b)
    (hdst : ∀ k k' b b' g, findL st.mem k = some b → findL st.mem k' = some b' → b.live = true → b'.live = true → blkOf (ι k) = some g → blkOf (ι k') = some g → k = k') :
    CallsD Tryd.prog 34 ([0, 1, 2].map ι).toArray (.panicking (panE v)) w fun e' u' w' => e' = .returned (.tuple #[]) ∧ u' = .panicking [{ v, recovered := true }] ∧ ∃ ι' S', After ι S w st.nx ⟨.und, [], upd, []⟩ undef ι' S' w' := by
  obtain ⟨a, e, d0, d1, d2, d3, x0, y0, rfl, rfl, h0, h1, h2⟩ := h
  have hf : ∀ p ∈ hitM d0 d1 d2 d3 x0 y0, findL st.mem p.1 = some p.2 := fun p hp => by
    simp only [hitM, List.mem_cons, List.not_mem_nil, or_false] at hp
    rcases hp with rfl | rfl | rfl
    · exact h0
    · exact h1
    · exact h2
  refine (catch_hit a e d0 d1 d2 d3 x0 y0 hS hG (fun p hp => hblk _ _ (hf p hp)) (fun p hp q hq g => hdst _ _ _ _ g (hf p hp) (hf q hq))).mono ?_
  rintro e' u' w' ⟨he, hu, ι', S', A⟩
  refine ⟨he, hu, ι', S', ⟨A.val, fun k _ => A.keep k (by show k < 3 ∨ 3 + 0 ≤ k; omega), A.smono, A.sgrow, A.slt, A.os, A.tape, A.output, A.size, A.heap, A.updok, fun i b hb => by simp at hb, fun i b hb => by simp at hb, fun i j b b' g hb => by simp at hb⟩⟩
theorem TLe.tup1 {a b c : D} {s : Nat} {l : List T1} : TLe (.tup (gD [a, b, c, dnil] :: l)) (.tup (gD [a, b, c, .sl s []] :: l)) := fun ι S w v ⟨us, hu, h⟩ => by
  have h : All2 (V1 ι S w) (gD [a, b, c, dnil] :: l) us := h
  obtain ⟨u, us, rfl, e, h⟩ := h.cons_left
  exact ⟨u :: us, hu, .cons (TLe.nil4 ι S w u e) h⟩
theorem Parse_c (s : ByteArray) (hs : s.size ≤ 1073741824) : CallsA Tryd.prog ΓS 17 [c1 (ds s)] (.tup [gD (drow (parseV s).1), c1 (di (parseV s).2.1), c1 (di (parseV s).2.2)]) := by
  have hv := value_c s hs 1200 (by omega) 0 (by omega)
  obtain ⟨T, hT⟩ : ∃ T, parseV s = T := ⟨_, rfl⟩
  rw [hT]
  refine fn_ruleD (C := ⟨Tryd.prog, layF, Tryd.f17.ntmps, ΓS, 0, [], []⟩) (g := 34) (t9 := 9) (nx2 := 3) (caps := [2, 3, 4]) (capN := [0, 1, 2]) layF_ok mixed Tryd.func17 rfl (by kernel_rfl) rfl rfl rfl HitP ?hdef ?henter ?hidle rfl hitP_ok ?h
  case hdef =>
    intro a w Q hsz h
    have h9 : 9 < a.tmps.size := by rw [hsz]; decide
    apply wp_region
    simp [wpOps, go_sem, h9]
    refine .inl (.inl ?_)
    simpa [Oper.upon, Act.put] using h (.func (.func 34) #[] #[a.tmps[2]?.getD undef, a.tmps[3]?.getD undef, a.tmps[4]?.getD undef])
  case henter =>
    intro vs w
    kernel_rfl
  case hidle =>
    intro vs w hl
    match vs, hl with
    | [x, y, z], _ => exact catch_idle x y z w
  unfold parseV at hT
  refine ⟨⟨rfl, rfl, rfl, trivial⟩, rfl, ?_⟩
  cases hval : valV s 1200 0 with
  | err a e =>
    rw [hval] at hv hT
    simp only at hT
    subst hT
    refine ex_callM (CallsM.ren (hv) [3] 4 rfl rfl rfl rfl) ?_
    refine ⟨flt a e, _, rfl, ⟨a, e, _, _, _, _, _, _, rfl, rfl, rfl, rfl, rfl⟩, rfl, rfl, ?_⟩
    show TLe _ (.tup [gD (drow _), _, _])
    rw [drow_mk]
    exact TLe.tup1
  | ok v a =>
    rw [hval] at hv hT
    simp only at hT
    have hvo := valV_ok s 1200 _ _ _ (by omega) hval
    have hp := pass_c s a hvo.2 hs
    refine ex_callM (CallsM.ren (hv) [3] 4 rfl rfl rfl rfl) ?_
    refine ex_callM (CallsM.ren (hp) [3] 4 rfl rfl rfl rfl) ?_
    refine ex_dec (fun h1 => ?_) (fun h1 => ?_)
    · rw [if_pos (by omega)] at hT
      subst hT
      refine ex_callM (CallsM.ren ((fail_c s (passV s a) 4)) [3] 4 rfl rfl rfl rfl) ?_
      refine ⟨flt (passV s a) 4, _, rfl, ⟨passV s a, 4, _, _, _, _, _, _, rfl, rfl, rfl, rfl, rfl⟩, rfl, rfl, ?_⟩
      show TLe _ (.tup [gD (drow _), _, _])
      rw [drow_mk]
      exact TLe.tup1
    · rw [if_neg (by omega)] at hT
      subst hT
      exact TLe.rfl
end Go.Proofs.YtkeehnhamkdogaaDoor

namespace Go.Proofs.YtkeehnhamkdogaaDoor
set_option linter.unusedVariables false
set_option linter.unusedSimpArgs false
open Go.RowKit
set_option maxRecDepth 100000

/-- The reference's state. -/
abbrev Sta (s : ByteArray) (a : Nat) (e : Int) (t : Nat) : Blk := .obj [.d (ds s), .d (di a), .d (di e), .d (di t)]
theorem rfail_c (s : ByteArray) (a : Nat) (t : Nat) (p : Nat) (e : Int) :
    CallsM Tryd.prog ΓS 40 [(0, Sta s a 0 t)] 1 [.c (.ptr 0 0), c1 (di p), c1 (di e)] (.tup []) [(0, Sta s a e p)] [] := by
  refine fn_ruleM (C := ⟨Tryd.prog, layF, Tryd.f40.ntmps, ΓS, 1, [], []⟩) layF_ok mixed Tryd.func40 rfl (by kernel_rfl) rfl rfl rfl ?_
  refine ex_true rfl ?_
  exact ⟨rfl, TLe.rfl, rfl, rfl⟩
theorem rraw_c (s : ByteArray) (a : Nat) (e : Int) (t : Nat) (hs : s.size ≤ 1073741824) :
    CallsM Tryd.prog ΓS 73 [(0, Sta s a e t)] 1 [.c (.ptr 0 0)] (.o (c1 (.v (.int .u8 (nextV s a).toNat)))) [(0, Sta s a e t)] [] := by
  refine fn_ruleM (C := ⟨Tryd.prog, layF, Tryd.f73.ntmps, ΓS, 1, [], []⟩) layF_ok mixed Tryd.func73 rfl (by kernel_rfl) rfl rfl rfl ?_
  refine ex_dec (fun h => ?_) (fun h => ?_)
  ·
    refine ⟨by kernel_rfl, ?_⟩
    rw [show nextV s a = 0 by unfold nextV; rw [s_none (by omega)]; rfl]
    exact ⟨rfl, TLe.rfl, rfl, rfl⟩
  ·
    refine ⟨by kernel_rfl, ?_⟩
    refine ex_chr a _ rfl (s_at (by omega)) ?_
    refine ⟨by kernel_rfl, ?_⟩
    rw [show nextV s a = s.data.toList[a]'(by simp; omega) by unfold nextV; rw [s_at (by omega)]; rfl]
    exact ⟨rfl, TLe.rfl, rfl, rfl⟩
theorem rnext_c (s : ByteArray) (a : Nat) (e : Int) (t : Nat) (ha : a ≤ 2147483648) (hs : s.size ≤ 1073741824) :
    CallsM Tryd.prog ΓS 39 [(0, Sta s a e t)] 1 [.c (.ptr 0 0)] (.o (c1 (.v (.int .u8 (nextV s (passV s a)).toNat)))) [(0, Sta s (passV s a) e t)] [] := by
  obtain ⟨R, hR⟩ : ∃ R, passV s a = R := ⟨_, rfl⟩
  rw [hR]
  refine fn_ruleM (C := ⟨Tryd.prog, layF, Tryd.f39.ntmps, ΓS, 1, [], []⟩) layF_ok mixed Tryd.func39 rfl (by kernel_rfl) rfl rfl rfl ?_
  refine ex_loop (X := Nat) (fun q => ⟨[(0, .o (.c (.ptr 0 0)))], [(0, Sta s q e t)], 1⟩) (fun q => s.size - q) (fun q => q ≤ 2147483648 ∧ passV s q = R) a ⟨ha, hR⟩ (SLe.of ⟨⟨rfl, trivial⟩, ⟨rfl, trivial⟩⟩) ?_
  rintro q ⟨hq, hg⟩
  refine ex_dec (fun h => ?_) (fun h => ?_)
  · refine ex_chr q _ rfl (s_at (by omega)) ?_
    refine ex_dec (fun h2 => ?_) (fun h2 => ?_)
    · have hc : s.data.toList[q]? = some 32 := by rw [s_at (by omega)]; exact congrArg some (u8_eq.1 h2)
      refine ⟨by kernel_rfl, ?_⟩
      refine ex_i64 (((q + 1 : Nat) : Int)) (by first | rfl | omega | simp) (by omega) (by omega) ?_
      exact ex_round (q + 1) ⟨by omega, by rw [passV_blank hc, hg]⟩ (by show _ - _ < _ - _; omega) (SLe.of ⟨⟨rfl, trivial⟩, ⟨rfl, trivial⟩⟩)
    · have hc : s.data.toList[q]? ≠ some 32 := by rw [s_at (by omega)]; exact fun hc => h2 (u8_eq.2 (Option.some.inj hc))
      rw [passV_stop hc] at hg
      subst hg
      refine ⟨by kernel_rfl, ?_⟩
      refine ex_dec (fun h3 => ?_) (fun h3 => ?_)
      ·
        refine ⟨by kernel_rfl, ?_⟩
        rw [show nextV s q = 0 by unfold nextV; rw [s_none (by omega)]; rfl]
        exact ⟨rfl, TLe.rfl, rfl, rfl⟩
      ·
        refine ⟨by kernel_rfl, ?_⟩
        refine ex_chr q _ rfl (s_at (by omega)) ?_
        refine ⟨by kernel_rfl, ?_⟩
        rw [show nextV s q = s.data.toList[q]'(by simp; omega) by unfold nextV; rw [s_at (by omega)]; rfl]
        exact ⟨rfl, TLe.rfl, rfl, rfl⟩
  · rw [passV_stop (by rw [s_none (by omega)]; simp)] at hg
    subst hg
    refine ⟨by kernel_rfl, ?_⟩
    refine ex_dec (fun h3 => ?_) (fun h3 => ?_)
    ·
      refine ⟨by kernel_rfl, ?_⟩
      rw [show nextV s q = 0 by unfold nextV; rw [s_none (by omega)]; rfl]
      exact ⟨rfl, TLe.rfl, rfl, rfl⟩
    ·
      refine ⟨by kernel_rfl, ?_⟩
      refine ex_chr q _ rfl (s_at (by omega)) ?_
      refine ⟨by kernel_rfl, ?_⟩
      rw [show nextV s q = s.data.toList[q]'(by simp; omega) by unfold nextV; rw [s_at (by omega)]; rfl]
      exact ⟨rfl, TLe.rfl, rfl, rfl⟩
end Go.Proofs.YtkeehnhamkdogaaDoor

namespace Go.Proofs.YtkeehnhamkdogaaDoor
set_option linter.unusedVariables false
set_option linter.unusedSimpArgs false
open Go.RowKit
set_option maxRecDepth 100000

def digI (c : UInt8) : Int := if hexL.contains c = true then (hexI c : Int) else -1
theorem hex_all (c : UInt8) : if 48 ≤ c.toNat ∧ c.toNat ≤ 57 then hexL.contains c = true ∧ hexI c + 48 = c.toNat else if 97 ≤ c.toNat ∧ c.toNat ≤ 102 then hexL.contains c = true ∧ hexI c + 87 = c.toNat else hexL.contains c = false := by
  have h : ∀ n : Fin 256, if 48 ≤ n.val ∧ n.val ≤ 57 then hexL.contains (UInt8.ofNat n.val) = true ∧ hexI (UInt8.ofNat n.val) + 48 = n.val else if 97 ≤ n.val ∧ n.val ≤ 102 then hexL.contains (UInt8.ofNat n.val) = true ∧ hexI (UInt8.ofNat n.val) + 87 = n.val else hexL.contains (UInt8.ofNat n.val) = false := by decide +kernel
  have := h ⟨c.toNat, c.toNat_lt⟩
  rwa [show UInt8.ofNat (⟨c.toNat, c.toNat_lt⟩ : Fin 256).val = c by simp] at this
theorem rdigit_c (c : UInt8) : CallsA Tryd.prog ΓS 74 [c1 (.v (.int .u8 c.toNat))] (Ti (digI c)) := by
  have hc := hex_all c
  have hlt := c.toNat_lt
  refine fn_rule (C := ⟨Tryd.prog, layF, Tryd.f74.ntmps, ΓS, 0, [], []⟩) layF_ok mixed Tryd.func74 rfl (by kernel_rfl) rfl rfl rfl ?_
  refine ex_dec (fun h1 => ?_) (fun h1 => ?_)
  · refine ex_dec (fun h2 => ?_) (fun h2 => ?_)
    · rw [if_pos (by omega)] at hc
      refine ex_u8 ((hexI c : Nat) : Int) (by omega) (by omega) (by omega) ?_
      refine ex_i64 (((hexI c : Nat) : Int)) (by first | rfl | omega | simp) (by omega) (by omega) ?_
      exact TLe.eq (by unfold digI; rw [if_pos hc.1]; rfl)
    · rw [if_neg (by omega)] at hc
      refine ex_dec (fun h3 => ?_) (fun h3 => ?_)
      · refine ex_dec (fun h4 => ?_) (fun h4 => ?_)
        · rw [if_pos (by omega)] at hc
          refine ex_u8 ((hexI c - 10 : Nat) : Int) (by omega) (by omega) (by omega) ?_
          refine ex_i64 (((hexI c - 10 : Nat) : Int)) (by first | rfl | omega | simp) (by omega) (by omega) ?_
          refine ex_i64 (((hexI c : Nat) : Int)) (by first | rfl | omega | simp) (by omega) (by omega) ?_
          exact TLe.eq (by unfold digI; rw [if_pos hc.1]; rfl)
        · rw [if_neg (by omega)] at hc
          exact TLe.eq (by unfold digI; rw [if_neg (by rw [hc]; decide)]; rfl)
      · rw [if_neg (by omega)] at hc
        exact TLe.eq (by unfold digI; rw [if_neg (by rw [hc]; decide)]; rfl)
  · rw [if_neg (by omega), if_neg (by omega)] at hc
    refine ex_dec (fun h3 => ?_) (fun h3 => ?_)
    · exact absurd h3 (by omega)
    · exact TLe.eq (by unfold digI; rw [if_neg (by rw [hc]; decide)]; rfl)
theorem digV_next (s : ByteArray) (a : Nat) : digV s a = if hexL.contains (nextV s a) = true then .ok (hexI (nextV s a)) (a + 1) else .err a 4 := by
  unfold digV nextV
  cases s.data.toList[a]? with
  | none => rfl
  | some c => rfl
/-- What the reference's parser gives: besides, what a failed reading leaves. -/
inductive Q
  | ok (v : PV) (a : Nat)
  | err (p : Nat) (e : Int) (g : PV) (a : Nat)
def Q.v : Q → PV
  | .ok v _ => v
  | .err _ _ g _ => g
def Q.st (s : ByteArray) : Q → Blk
  | .ok _ a => Sta s a 0 0
  | .err p e _ a => Sta s a e p
abbrev zeroV : PV := .mk 0 0 ⟨#[]⟩ []
def R.q : R PV → Q
  | .ok v a => .ok v a
  | .err a e => .err a e zeroV a
def Q.r : Q → R PV
  | .ok v a => .ok v a
  | .err p e _ _ => .err p e
theorem rq (r : R PV) : r.q.r = r := by cases r <;> rfl
abbrev Sta0 (s : ByteArray) (a : Nat) : Blk := Sta s a 0 0
theorem rbytes_c (s : ByteArray) (a : Nat) (ha : a < s.size) (hs : s.size ≤ 1073741824) :
    CallsM Tryd.prog ΓS 59 [(0, Sta0 s a)] 1 [.c (.ptr 0 0)] (.o (gD (drow (bytV s (a + 1)).q.v))) [(0, (bytV s (a + 1)).q.st s)] [] := by
  have hr := rraw_c s (a + 1) 0 0 hs
  cases hm : mustV s (a + 1) 34 with
  | err b e =>
    have hn : s.data.toList[a + 1]? ≠ some 34 := fun h => by unfold mustV at hm; rw [if_pos h] at hm; cases hm
    obtain ⟨rfl, rfl⟩ : b = a + 1 ∧ e = 4 := by unfold mustV at hm; rw [if_neg hn] at hm; cases hm; exact ⟨rfl, rfl⟩
    rw [show bytV s (a + 1) = .err (a + 1) 4 by unfold bytV; rw [hm]]
    refine fn_ruleM (C := ⟨Tryd.prog, layF, Tryd.f59.ntmps, ΓS, 1, [], []⟩) layF_ok mixed Tryd.func59 rfl (by kernel_rfl) rfl rfl rfl ?_
    refine ex_i64 (((a + 1 : Nat) : Int)) (by first | rfl | omega | simp) (by omega) (by omega) ?_
    refine ex_callM (CallsM.ren (hr) [0] 2 rfl rfl rfl rfl) ?_
    refine ex_true (fun h => hn ?_) ?_
    · have h34 : nextV s (a + 1) = 34 := u8_eq.1 h
      exact (next_lt h34 (by decide)).2
    refine ex_callM (CallsM.ren ((rfail_c s (a + 1) 0 (a + 1) 4)) [0] 2 rfl rfl rfl rfl) ?_
    exact ⟨rfl, by show TLe _ (.o (gD (drow (.mk _ _ _ _)))); rw [drow_mk]; exact TLe.nil4, rfl, rfl⟩
  | ok u b =>
    obtain ⟨rfl, hb, hbl⟩ := must_ok hm
    obtain ⟨T, hT⟩ : ∃ T, hexV s (s.size + 1) (a + 1 + 1) [] = T := ⟨_, rfl⟩
    rw [show bytV s (a + 1) = T by unfold bytV; rw [hm]; exact hT]
    have h34 : nextV s (a + 1) = 34 := by unfold nextV; rw [hb]; rfl
    refine fn_ruleM (C := ⟨Tryd.prog, layF, Tryd.f59.ntmps, ΓS, 1, [], []⟩) layF_ok mixed Tryd.func59 rfl (by kernel_rfl) rfl rfl rfl ?_
    refine ex_i64 (((a + 1 : Nat) : Int)) (by first | rfl | omega | simp) (by omega) (by omega) ?_
    refine ex_callM (CallsM.ren (hr) [0] 2 rfl rfl rfl rfl) ?_
    refine ex_false (fun h => h (by rw [h34]; rfl)) ?_
    refine ex_i64 (((a + 1 + 1 : Nat) : Int)) (by first | rfl | omega | simp) (by omega) (by omega) ?_
    refine ex_loop (X := Nat × Nat × List UInt8 × Int) (fun x => ⟨[(0, .o (.c (.ptr 0 0))), (2, .o (.c (.ptr 1 0))), (3, .o (.c (.row 2))), (4, Ti x.2.2.2)], [(2, Brow x.2.2.1), (0, Sta0 s x.2.1), (1, .obj [.d (di 0), .d (du 0), .d (ds ⟨#[]⟩), .d dnil])], 3⟩) (fun x => s.size - x.2.1)
      (fun x => x.2.1 ≤ s.size ∧ s.size < x.2.1 + x.1 ∧ x.2.2.1.length ≤ x.2.1 ∧ ((x.2.2.2 = -1 ∧ hexV s x.1 x.2.1 x.2.2.1 = T) ∨ ∃ h : Nat, x.2.2.2 = h ∧ h < 16 ∧ (match digV s x.2.1 with | .err c e => .err c e | .ok y c => hexV s x.1 c (x.2.2.1 ++ [UInt8.ofNat (16 * h + y)])) = T))
      (s.size + 1, a + 1 + 1, [], -1) ⟨hbl, by show s.size < a + 1 + 1 + (s.size + 1); omega, by show 0 ≤ _; omega, .inl ⟨rfl, hT⟩⟩ (SLe.trans (SLe.of ⟨⟨rfl, rfl, rfl, rfl, trivial⟩, ⟨rfl, rfl, rfl, trivial⟩⟩) (SLe.own 3 2 1 Tu8 rfl rfl rfl rfl rfl)) ?_
    rintro ⟨n, q, acc, hf⟩ ⟨hq, hn, hac, hg⟩
    simp only at hq hn hac hg
    have hrq := rraw_c s q 0 0 hs
    have hdn := digV_next s q
    have hdc := rdigit_c (nextV s q)
    rcases hg with ⟨rfl, hg⟩ | ⟨h, rfl, hh, hg⟩
    · obtain ⟨n, rfl⟩ : ∃ n', n = n' + 1 := ⟨n - 1, by omega⟩
      rw [hexV] at hg
      refine ex_false (show ¬ (0 : Int) ≤ -1 by decide) ?_
      refine ex_callM (CallsM.ren (hrq) [0] 3 rfl rfl rfl rfl) ?_
      refine ex_dec (fun h1 => ?_) (fun h1 => ?_)
      · rw [if_neg (fun hc => h1 (by rw [hc]; rfl))] at hg
        refine ex_callM (CallsM.ren (hrq) [0] 3 rfl rfl rfl rfl) ?_
        cases hhx : hexL.contains (nextV s q) with
        | false =>
          rw [hhx, if_neg (by decide)] at hdn
          rw [hdn] at hg
          simp only at hg
          subst hg
          rw [show digI (nextV s q) = -1 by unfold digI; rw [if_neg (by rw [hhx]; decide)]] at hdc
          refine ex_call (hdc) ?_
          refine ex_true (by omega) ?_
          refine ⟨by kernel_rfl, ?_⟩
          refine ex_callM (CallsM.ren ((rfail_c s q 0 q 4)) [0] 3 rfl rfl rfl rfl) ?_
          exact ⟨rfl, by show TLe _ (.o (gD (drow (.mk _ _ _ _)))); rw [drow_mk]; exact TLe.nil4, rfl, rfl⟩
        | true =>
          rw [hhx, if_pos rfl] at hdn
          rw [hdn] at hg
          simp only at hg
          rw [show digI (nextV s q) = (hexI (nextV s q) : Nat) by unfold digI; rw [if_pos hhx]] at hdc
          obtain ⟨-, hx16, hqs⟩ := digV_ok hdn
          refine ex_call (hdc) ?_
          refine ex_false (by omega) ?_
          refine ex_false (by omega) ?_
          refine ⟨by kernel_rfl, ?_⟩
          refine ex_i64 (((q + 1 : Nat) : Int)) (by first | rfl | omega | simp) (by omega) (by omega) ?_
          refine ex_true (show (-1 : Int) < 0 by decide) ?_
          exact ex_round (n, q + 1, acc, (hexI (nextV s q) : Nat)) ⟨hqs, by show s.size < q + 1 + n; omega, by show acc.length ≤ q + 1; omega, .inr ⟨_, rfl, hx16, hg⟩⟩ (by show s.size - (q + 1) < s.size - q; omega) (SLe.ren [(2, 2), (0, 0), (1, 1)] ⟨⟨rfl, rfl⟩, ⟨rfl, rfl⟩, ⟨rfl, rfl⟩, ⟨rfl, rfl⟩, trivial⟩ ⟨⟨rfl, rfl⟩, ⟨rfl, rfl⟩, ⟨rfl, rfl⟩, trivial⟩ rfl)
      · have h34 : nextV s q = 34 := u8_eq.1 (Decidable.not_not.1 h1)
        rw [if_pos h34] at hg
        subst hg
        refine ex_i64 (((q + 1 : Nat) : Int)) (by first | rfl | omega | simp) (by omega) (by omega) ?_
        refine ⟨acc, rfl, ?_⟩
        exact ⟨rfl, by show TLe _ (.o (gD (drow (.mk _ _ _ _)))); rw [drow_mk]; exact TLe.nil4, rfl, rfl⟩
    · refine ex_true (show (0 : Int) ≤ (h : Nat) by omega) ?_
      refine ex_callM (CallsM.ren (hrq) [0] 3 rfl rfl rfl rfl) ?_
      cases hhx : hexL.contains (nextV s q) with
      | false =>
        rw [hhx, if_neg (by decide)] at hdn
        rw [hdn] at hg
        simp only at hg
        subst hg
        rw [show digI (nextV s q) = -1 by unfold digI; rw [if_neg (by rw [hhx]; decide)]] at hdc
        refine ex_call (hdc) ?_
        refine ex_true (by omega) ?_
        refine ⟨by kernel_rfl, ?_⟩
        refine ex_callM (CallsM.ren ((rfail_c s q 0 q 4)) [0] 3 rfl rfl rfl rfl) ?_
        exact ⟨rfl, by show TLe _ (.o (gD (drow (.mk _ _ _ _)))); rw [drow_mk]; exact TLe.nil4, rfl, rfl⟩
      | true =>
        rw [hhx, if_pos rfl] at hdn
        rw [hdn] at hg
        simp only at hg
        rw [show digI (nextV s q) = (hexI (nextV s q) : Nat) by unfold digI; rw [if_pos hhx]] at hdc
        obtain ⟨-, hx16, hqs⟩ := digV_ok hdn
        generalize hexI (nextV s q) = y at *
        refine ex_call (hdc) ?_
        refine ex_false (by omega) ?_
        refine ex_false (by omega) ?_
        refine ⟨by kernel_rfl, ?_⟩
        refine ex_i64 (((q + 1 : Nat) : Int)) (by first | rfl | omega | simp) (by omega) (by omega) ?_
        refine ex_false (show ¬ ((h : Nat) : Int) < 0 by omega) ?_
        refine ex_i64 (((16 * h : Nat) : Int)) (by first | rfl | omega | simp) (by omega) (by omega) ?_
        refine ex_i64 (((16 * h + y : Nat) : Int)) (by first | rfl | omega | simp) (by omega) (by omega) ?_
        refine ex_u8 ((16 * h + y : Nat) : Int) rfl (by omega) (by omega) ?_
        refine ex_app acc.length 1 1000 (byteRows_len acc) rfl rfl (by omega) ?_
        refine ex_is (byteRows (acc ++ [UInt8.ofNat (16 * h + y)])) (by rw [← byteRows_app]; simp only [byteRows, List.map_cons, List.map_nil]; rw [u8_nat (by omega)]; rfl) ?_
        exact ex_round (n, q + 1, acc ++ [UInt8.ofNat (16 * h + y)], -1) ⟨hqs, by show s.size < q + 1 + n; omega, by show (acc ++ [_]).length ≤ q + 1; rw [List.length_append, List.length_cons, List.length_nil]; omega, .inl ⟨rfl, hg⟩⟩ (by show s.size - (q + 1) < s.size - q; omega) (SLe.ren [(4, 2), (0, 0), (1, 1)] ⟨⟨rfl, rfl⟩, ⟨rfl, rfl⟩, ⟨rfl, rfl⟩, ⟨rfl, rfl⟩, trivial⟩ ⟨⟨rfl, rfl⟩, ⟨rfl, rfl⟩, ⟨rfl, rfl⟩, trivial⟩ rfl)
end Go.Proofs.YtkeehnhamkdogaaDoor

namespace Go.Proofs.YtkeehnhamkdogaaDoor
set_option linter.unusedVariables false
set_option linter.unusedSimpArgs false
open Go.RowKit
set_option maxRecDepth 100000

def numQ (s : ByteArray) (a : Nat) : Q :=
  if s.data.toList[a]? = some 48 ∧ 1 < (digsV s a).length then .err (a + 1) 4 zeroV (a + 1) else match Lib.parseUintB 64 (digsV s a) with
    | .ok u => .ok (.mk 1 u ⟨#[]⟩ []) (a + (digsV s a).length)
    | _ => .err a 5 zeroV (a + (digsV s a).length)
theorem numQ_r (s : ByteArray) (a : Nat) : (numQ s a).r = numV s a := by
  unfold numQ numV
  split
  · rfl
  · cases Lib.parseUintB 64 (digsV s a) <;> rfl
theorem dig_in (c : UInt8) : digL.contains c = true ↔ 48 ≤ c.toNat ∧ c.toNat ≤ 57 := by
  have h : ∀ n : Fin 256, digL.contains (UInt8.ofNat n.val) = true ↔ 48 ≤ n.val ∧ n.val ≤ 57 := by decide +kernel
  have := h ⟨c.toNat, c.toNat_lt⟩
  rwa [show UInt8.ofNat (⟨c.toNat, c.toNat_lt⟩ : Fin 256).val = c by simp] at this
theorem any_next (s : ByteArray) (a : Nat) : anyV s a digL = true ↔ 48 ≤ (nextV s a).toNat ∧ (nextV s a).toNat ≤ 57 := by
  unfold anyV nextV
  cases s.data.toList[a]? with
  | none => simp
  | some c => exact dig_in c
theorem digs_at {s : ByteArray} {a i : Nat} (h : i < (digsV s a).length) : (digsV s a)[i]? = some (nextV s (a + i)) ∧ (digsV s a).drop i = nextV s (a + i) :: (digsV s a).drop (i + 1) := by
  have e : (digsV s a)[i] = nextV s (a + i) := by
    have h1 : (digsV s a)[i]? = s.data.toList[a + i]? := by
      unfold digsV at h ⊢
      rw [← List.getElem?_drop]
      obtain ⟨t, ht⟩ : List.takeWhile digL.contains (s.data.toList.drop a) <+: s.data.toList.drop a := List.takeWhile_prefix _
      conv => rhs; rw [← ht]
      rw [List.getElem?_append_left h]
    rw [List.getElem?_eq_getElem h] at h1
    unfold nextV
    rw [← h1]; rfl
  exact ⟨by rw [List.getElem?_eq_getElem h, e], by rw [List.drop_eq_getElem_cons h, e]⟩
theorem rnumber_c (s : ByteArray) (a : Nat) (ha : a ≤ s.size) (hs : s.size ≤ 1073741824) (hd : anyV s a digL = true) :
    CallsM Tryd.prog ΓS 60 [(0, Sta0 s a)] 1 [.c (.ptr 0 0)] (.o (gD (drow (numQ s a).v))) [(0, (numQ s a).st s)] [] := by
  have hm := digs_le s ha
  obtain ⟨P, hP⟩ : ∃ P, Lib.parseUintB 64 (digsV s a) = P := ⟨_, rfl⟩
  have hdg : ∀ i, i < (digsV s a).length → (digsV s a).drop i = nextV s (a + i) :: (digsV s a).drop (i + 1) := fun i hi => (digs_at hi).2
  obtain ⟨m, hmv⟩ : ∃ m, (digsV s a).length = m := ⟨_, rfl⟩
  have hany : ∀ i, i ≤ m → anyV s (a + i) digL = decide (i < m) := fun i hi => by rw [any_dig s a i (by omega), hmv]
  have h0 := hany 0 (by omega)
  rw [Nat.add_zero, hd] at h0
  have h0 : 0 < m := of_decide_eq_true h0.symm
  have hP0 : Lib.parseUintM 18446744073709551615 0 (digsV s a) = P := by
    rw [← hP]; unfold Lib.parseUintB
    rw [if_neg (by intro h; rw [h] at hmv; simp at hmv; omega)]
  rw [hmv] at hm hdg
  obtain ⟨c, hc⟩ : ∃ c, s.data.toList[a]? = some c := ⟨_, s_at (by omega)⟩
  obtain ⟨T, hT⟩ : ∃ T, numQ s a = T := ⟨_, rfl⟩
  rw [hT]
  unfold numQ at hT
  rw [hP, hmv] at hT
  refine fn_ruleM (C := ⟨Tryd.prog, layF, Tryd.f60.ntmps, ΓS, 1, [], []⟩) layF_ok mixed Tryd.func60 rfl (by kernel_rfl) rfl rfl rfl ?_
  refine ex_loop (X := Nat × Bool × Int) (fun x => ⟨[(0, .o (.c (.ptr 0 0))), (2, .o (.c (.ptr 1 0))), (3, Ti a), (4, Tu x.2.2), (5, Tb x.2.1)], [(0, Sta0 s (a + x.1)), (1, .obj [.d (di 0), .d (du 0), .d (ds ⟨#[]⟩), .d dnil])], 2⟩) (fun x => m - x.1)
      (fun x => x.1 ≤ m ∧ (c = 48 → x.1 ≤ 1) ∧ 0 ≤ x.2.2 ∧ x.2.2 < 18446744073709551616 ∧ ((x.2.1 = false ∧ Lib.parseUintM 18446744073709551615 x.2.2.toNat ((digsV s a).drop x.1) = P) ∨ (x.2.1 = true ∧ P = .range))) (0, false, 0) ⟨by show 0 ≤ _; omega, fun _ => by show 0 ≤ 1; omega, by decide, by decide, .inl ⟨rfl, hP0⟩⟩ (SLe.of ⟨⟨rfl, rfl, rfl, rfl, rfl, trivial⟩, ⟨rfl, rfl, trivial⟩⟩) ?_
  rintro ⟨i, big, n⟩ ⟨hi, hz, hn0, hn1, hg⟩
  simp only at hi hz hn0 hn1 hg
  obtain ⟨n, rfl⟩ := Int.eq_ofNat_of_zero_le hn0
  rw [Int.toNat_natCast] at hg
  have hrw := rraw_c s (a + i) 0 0 hs
  have han := any_next s (a + i)
  rw [hany i hi, decide_eq_true_iff] at han
  refine ex_callM (CallsM.ren (hrw) [0] 2 rfl rfl rfl rfl) ?_
  refine ex_dec (fun h1 => ?_) (fun h1 => ?_)
  ·
    refine ex_callM (CallsM.ren (hrw) [0] 2 rfl rfl rfl rfl) ?_
    refine ex_dec (fun h2 => ?_) (fun h2 => ?_)
    · have him : i < m := han.2 (by omega)
      refine ex_i64 (((a + 1 : Nat) : Int)) (by first | rfl | omega | simp) (by omega) (by omega) ?_
      refine ex_dec (fun h3 => ?_) (fun h3 => ?_)
      · refine ex_chr a c rfl hc ?_
        refine ex_dec (fun h4 => ?_) (fun h4 => ?_)
        · have hc48 : c = 48 := u8_eq.1 h4
          obtain rfl : i = 1 := by omega
          rw [if_pos ⟨by rw [hc, hc48], him⟩] at hT
          subst hT
          refine ex_callM (CallsM.ren ((rfail_c s (a + 1) 0 (a + 1) 4)) [0] 2 rfl rfl rfl rfl) ?_
          exact ⟨rfl, by show TLe _ (.o (gD (drow (.mk _ _ _ _)))); rw [drow_mk]; exact TLe.nil4, rfl, rfl⟩
        · have him := him
          have hch : s.data.toList[a + i]? = some (nextV s (a + i)) := by unfold nextV; rw [s_at (by omega)]; rfl
          refine ex_chr (a + i) _ rfl hch ?_
          have h12 : 48 ≤ (nextV s (a + i)).toNat ∧ (nextV s (a + i)).toNat ≤ 57 := han.1 him
          have hdr := hdg i him
          rw [hdr] at hg
          generalize nextV s (a + i) = ch at *
          obtain ⟨d, hd1, hd2⟩ : ∃ d, ch.toNat = d + 48 ∧ d ≤ 9 := ⟨ch.toNat - 48, by omega, by omega⟩
          refine ex_u8 ((d : Nat) : Int) (by omega) (by omega) (by omega) ?_
          refine ex_u64 ((d : Nat) : Int) rfl (by omega) (by omega) ?_
          refine ⟨by kernel_rfl, ?_⟩
          refine ex_u64 ((18446744073709551615 - d : Nat) : Int) (by omega) (by omega) (by omega) ?_
          refine ⟨by decide, ?_⟩
          refine ex_u64 (((18446744073709551615 - d) / 10 : Nat) : Int) (Int.ofNat_tdiv _ _).symm (by omega) (by omega) ?_
          refine ex_dec (fun h5 => ?_) (fun h5 => ?_)
          · have h5 : (((18446744073709551615 - d) / 10 : Nat) : Int) < (n : Int) := h5
            obtain ⟨z1, hz1⟩ : ∃ z1, IntKind.u64.wrap (10 * (n : Int)) = z1 := ⟨_, rfl⟩
            refine ex_is z1 hz1 ?_
            obtain ⟨z2, hz2⟩ : ∃ z2, IntKind.u64.wrap (z1 + (d : Nat)) = z2 := ⟨_, rfl⟩
            refine ex_is z2 hz2 ?_
            refine ex_i64 (((a + (i + 1) : Nat) : Int)) (by first | rfl | omega | simp) (by omega) (by omega) ?_
            rw [IntKind.wrap_u64] at hz2
            refine ex_round (i + 1, true, z2) ⟨by show i + 1 ≤ m; omega, fun h => by show i + 1 ≤ 1; exact absurd (by rw [h]; rfl) h4, by show 0 ≤ z2; omega, by show z2 < _; omega, .inr ⟨rfl, ?_⟩⟩ (by show m - (i + 1) < m - i; omega) (SLe.of ⟨⟨rfl, rfl, rfl, rfl, rfl, trivial⟩, ⟨rfl, rfl, trivial⟩⟩)
            rcases hg with ⟨-, hg⟩ | ⟨-, hg⟩
            · rw [Lib.parseUintM, if_pos h12] at hg
              by_cases h6 : 1844674407370955162 ≤ n
              · rw [if_pos h6] at hg; exact hg.symm
              · rw [if_neg h6, if_pos (by omega)] at hg; exact hg.symm
            · exact hg
          · have h5 : ¬ (((18446744073709551615 - d) / 10 : Nat) : Int) < (n : Int) := h5
            refine ex_u64 ((10 * n : Nat) : Int) (by show 10 * (n : Int) = _; omega) (by omega) (by omega) ?_
            refine ex_u64 ((10 * n + d : Nat) : Int) (by omega) (by omega) (by omega) ?_
            refine ex_i64 (((a + (i + 1) : Nat) : Int)) (by first | rfl | omega | simp) (by omega) (by omega) ?_
            refine ex_round (i + 1, big, ((10 * n + d : Nat) : Int)) ⟨by show i + 1 ≤ m; omega, fun h => by show i + 1 ≤ 1; exact absurd (by rw [h]; rfl) h4, by show 0 ≤ ((10 * n + d : Nat) : Int); omega, by show ((10 * n + d : Nat) : Int) < _; omega, ?_⟩ (by show m - (i + 1) < m - i; omega) (SLe.of ⟨⟨rfl, rfl, rfl, rfl, rfl, trivial⟩, ⟨rfl, rfl, trivial⟩⟩)
            rcases hg with ⟨rfl, hg⟩ | ⟨rfl, hg⟩
            · rw [Lib.parseUintM, if_pos h12, if_neg (by omega), if_neg (by omega)] at hg
              refine .inl ⟨rfl, ?_⟩
              show Lib.parseUintM _ ((10 * n + d : Nat) : Int).toNat _ = P
              rw [Int.toNat_natCast, show 10 * n + d = n * 10 + (ch.toNat - 48) by omega]
              exact hg
            · exact .inr ⟨rfl, hg⟩
      · have him := him
        have hch : s.data.toList[a + i]? = some (nextV s (a + i)) := by unfold nextV; rw [s_at (by omega)]; rfl
        refine ex_chr (a + i) _ rfl hch ?_
        have h12 : 48 ≤ (nextV s (a + i)).toNat ∧ (nextV s (a + i)).toNat ≤ 57 := han.1 him
        have hdr := hdg i him
        rw [hdr] at hg
        generalize nextV s (a + i) = ch at *
        obtain ⟨d, hd1, hd2⟩ : ∃ d, ch.toNat = d + 48 ∧ d ≤ 9 := ⟨ch.toNat - 48, by omega, by omega⟩
        refine ex_u8 ((d : Nat) : Int) (by omega) (by omega) (by omega) ?_
        refine ex_u64 ((d : Nat) : Int) rfl (by omega) (by omega) ?_
        refine ⟨by kernel_rfl, ?_⟩
        refine ex_u64 ((18446744073709551615 - d : Nat) : Int) (by omega) (by omega) (by omega) ?_
        refine ⟨by decide, ?_⟩
        refine ex_u64 (((18446744073709551615 - d) / 10 : Nat) : Int) (Int.ofNat_tdiv _ _).symm (by omega) (by omega) ?_
        refine ex_dec (fun h5 => ?_) (fun h5 => ?_)
        · have h5 : (((18446744073709551615 - d) / 10 : Nat) : Int) < (n : Int) := h5
          obtain ⟨z1, hz1⟩ : ∃ z1, IntKind.u64.wrap (10 * (n : Int)) = z1 := ⟨_, rfl⟩
          refine ex_is z1 hz1 ?_
          obtain ⟨z2, hz2⟩ : ∃ z2, IntKind.u64.wrap (z1 + (d : Nat)) = z2 := ⟨_, rfl⟩
          refine ex_is z2 hz2 ?_
          refine ex_i64 (((a + (i + 1) : Nat) : Int)) (by first | rfl | omega | simp) (by omega) (by omega) ?_
          rw [IntKind.wrap_u64] at hz2
          refine ex_round (i + 1, true, z2) ⟨by show i + 1 ≤ m; omega, fun h => by show i + 1 ≤ 1; have := hz h; omega, by show 0 ≤ z2; omega, by show z2 < _; omega, .inr ⟨rfl, ?_⟩⟩ (by show m - (i + 1) < m - i; omega) (SLe.of ⟨⟨rfl, rfl, rfl, rfl, rfl, trivial⟩, ⟨rfl, rfl, trivial⟩⟩)
          rcases hg with ⟨-, hg⟩ | ⟨-, hg⟩
          · rw [Lib.parseUintM, if_pos h12] at hg
            by_cases h6 : 1844674407370955162 ≤ n
            · rw [if_pos h6] at hg; exact hg.symm
            · rw [if_neg h6, if_pos (by omega)] at hg; exact hg.symm
          · exact hg
        · have h5 : ¬ (((18446744073709551615 - d) / 10 : Nat) : Int) < (n : Int) := h5
          refine ex_u64 ((10 * n : Nat) : Int) (by show 10 * (n : Int) = _; omega) (by omega) (by omega) ?_
          refine ex_u64 ((10 * n + d : Nat) : Int) (by omega) (by omega) (by omega) ?_
          refine ex_i64 (((a + (i + 1) : Nat) : Int)) (by first | rfl | omega | simp) (by omega) (by omega) ?_
          refine ex_round (i + 1, big, ((10 * n + d : Nat) : Int)) ⟨by show i + 1 ≤ m; omega, fun h => by show i + 1 ≤ 1; have := hz h; omega, by show 0 ≤ ((10 * n + d : Nat) : Int); omega, by show ((10 * n + d : Nat) : Int) < _; omega, ?_⟩ (by show m - (i + 1) < m - i; omega) (SLe.of ⟨⟨rfl, rfl, rfl, rfl, rfl, trivial⟩, ⟨rfl, rfl, trivial⟩⟩)
          rcases hg with ⟨rfl, hg⟩ | ⟨rfl, hg⟩
          · rw [Lib.parseUintM, if_pos h12, if_neg (by omega), if_neg (by omega)] at hg
            refine .inl ⟨rfl, ?_⟩
            show Lib.parseUintM _ ((10 * n + d : Nat) : Int).toNat _ = P
            rw [Int.toNat_natCast, show 10 * n + d = n * 10 + (ch.toNat - 48) by omega]
            exact hg
          · exact .inr ⟨rfl, hg⟩
    · have him := 0
      have hmi : ¬ i < m := fun h => by have := han.1 h; omega
      obtain rfl : i = m := by omega
      rw [if_neg (by rintro ⟨h5, h6⟩; have := hz (by rw [hc] at h5; exact Option.some.inj h5); omega)] at hT
      rcases hg with ⟨rfl, hg⟩ | ⟨rfl, rfl⟩
      · rw [List.drop_eq_nil_of_le (by omega)] at hg
        have hg : P = .ok n := hg.symm
        rw [hg] at hT
        simp only at hT
        subst hT
        exact ⟨rfl, by show TLe _ (.o (gD (drow (.mk _ _ _ _)))); rw [drow_mk]; exact TLe.nil4, rfl, rfl⟩
      · simp only at hT
        subst hT
        refine ex_callM (CallsM.ren ((rfail_c s (a + i) 0 a 5)) [0] 2 rfl rfl rfl rfl) ?_
        exact ⟨rfl, by show TLe _ (.o (gD (drow (.mk _ _ _ _)))); rw [drow_mk]; exact TLe.nil4, rfl, rfl⟩
  · have him := 0
    have hmi : ¬ i < m := fun h => by have := han.1 h; omega
    obtain rfl : i = m := by omega
    rw [if_neg (by rintro ⟨h5, h6⟩; have := hz (by rw [hc] at h5; exact Option.some.inj h5); omega)] at hT
    rcases hg with ⟨rfl, hg⟩ | ⟨rfl, rfl⟩
    · rw [List.drop_eq_nil_of_le (by omega)] at hg
      have hg : P = .ok n := hg.symm
      rw [hg] at hT
      simp only at hT
      subst hT
      exact ⟨rfl, by show TLe _ (.o (gD (drow (.mk _ _ _ _)))); rw [drow_mk]; exact TLe.nil4, rfl, rfl⟩
    · simp only at hT
      subst hT
      refine ex_callM (CallsM.ren ((rfail_c s (a + i) 0 a 5)) [0] 2 rfl rfl rfl rfl) ?_
      exact ⟨rfl, by show TLe _ (.o (gD (drow (.mk _ _ _ _)))); rw [drow_mk]; exact TLe.nil4, rfl, rfl⟩
end Go.Proofs.YtkeehnhamkdogaaDoor

namespace Go.Proofs.YtkeehnhamkdogaaDoor
set_option linter.unusedVariables false
set_option linter.unusedSimpArgs false
open Go.RowKit
set_option maxRecDepth 100000

def loopQ (s : ByteArray) (f : Nat → Q) (e : UInt8) (k : Int) : Nat → Nat → List PV → Q
  | 0, _, _ => .err 0 0 zeroV 0
  | n + 1, a, acc => match f a with
    | .err p c g b => .err p c (.mk k 0 ⟨#[]⟩ (acc ++ [g])) (passV s b + 1)
    | .ok v b => if nextV s (passV s b) = e then .ok (.mk k 0 ⟨#[]⟩ (acc ++ [v])) (passV s b + 1) else
      if nextV s (passV s b) = 44 then loopQ s f e k n (passV s b + 1) (acc ++ [v]) else .err (passV s b) 4 (.mk k 0 ⟨#[]⟩ (acc ++ [v])) (passV s b + 1)
def listQ (s : ByteArray) (f : Nat → Q) (k : Int) (a : Nat) : Q :=
  if nextV s (passV s a) = endV k then .ok (.mk k 0 ⟨#[]⟩ []) (passV s a + 1) else loopQ s f (endV k) k (s.size + 1) (passV s a) []
def atQ (s : ByteArray) (a : Nat) (deep : Bool) (f : Nat → Q) : Q :=
  if s.data.toList[a]? = some 91 then (if deep then .err a 8 zeroV a else listQ s f 3 (a + 1)) else
  if s.data.toList[a]? = some 123 then (if deep then .err a 8 zeroV a else listQ s f 4 (a + 1)) else
  if anyV s a digL = true then (if deep then .err a 8 zeroV a else numQ s a) else
  if s.data.toList[a]? = some 45 then (if deep then .err a 8 zeroV a else .ok zeroV (a + 1)) else
  if s.data.toList[a]? = some 120 then (if deep then .err a 8 zeroV a else (bytV s (a + 1)).q) else .err a 4 zeroV a
def valQ (s : ByteArray) : Nat → Nat → Q
  | 0, a => atQ s (passV s a) true fun _ => .err 0 0 zeroV 0
  | n + 1, a => atQ s (passV s a) false (valQ s n)
theorem next_some {s : ByteArray} {a : Nat} {c : UInt8} (hc : c ≠ 0) : nextV s a = c ↔ s.data.toList[a]? = some c :=
  ⟨fun h => (next_lt h hc).2, fun h => by unfold nextV; rw [h]; rfl⟩
theorem loopQ_r {s : ByteArray} {f : Nat → Q} {f' : Nat → R PV} (hf : ∀ a, (f a).r = f' a) (e : UInt8) (k : Int) : ∀ n a acc, (loopQ s f e k n a acc).r = loopV s f' e k n a acc
  | 0, a, acc => rfl
  | n + 1, a, acc => by
    rw [loopQ, loopV, ← hf a]
    cases f a with
    | err p c g b => rfl
    | ok v b =>
      simp only [Q.r]
      by_cases h1 : nextV s (passV s b) = e
      · rw [if_pos h1, if_pos h1]
      · rw [if_neg h1, if_neg h1]
        by_cases h2 : nextV s (passV s b) = 44
        · rw [if_pos h2, show mustV s (passV s b) 44 = .ok () (passV s b + 1) from if_pos ((next_some (by decide)).1 h2)]
          exact loopQ_r hf e k n _ _
        · rw [if_neg h2, show mustV s (passV s b) 44 = .err (passV s b) 4 from if_neg fun h => h2 ((next_some (by decide)).2 h)]
theorem listQ_r {s : ByteArray} {f : Nat → Q} {f' : Nat → R PV} (hf : ∀ a, (f a).r = f' a) (k : Int) (a : Nat) : (listQ s f k a).r = listV s f' k a := by
  unfold listQ listV
  split
  · rfl
  · exact loopQ_r hf _ _ _ _ _
theorem atQ_r {s : ByteArray} {f : Nat → Q} {f' : Nat → R PV} (hf : ∀ a, (f a).r = f' a) (a : Nat) (d : Bool) : (atQ s a d f).r = atV s a d f' := by
  unfold atQ atV
  cases d <;> (repeat' split) <;> first | rfl | exact listQ_r hf _ _ | exact numQ_r _ _ | exact rq _ | contradiction
theorem valQ_r (s : ByteArray) : ∀ n a, (valQ s n a).r = valV s n a
  | 0, a => atQ_r (fun _ => rfl) _ _
  | n + 1, a => atQ_r (valQ_r s n) _ _
/-- Where the reading stands behind it. -/
def Q.at : Q → Nat
  | .ok _ a => a
  | .err _ _ _ a => a
theorem pass_max (s : ByteArray) (b m : Nat) (h1 : s.size ≤ m) (h2 : b ≤ m) : passV s b ≤ m := by
  by_cases h : b ≤ s.size
  · exact Nat.le_trans (passV_le s h) h1
  · rw [passV_stop (by rw [s_none (by omega)]; simp)]; exact h2
theorem loopQ_le {s : ByteArray} {f : Nat → Q} {m : Nat} (hm : s.size ≤ m) (hf : ∀ a, a ≤ s.size → (f a).at ≤ m) (e : UInt8) (k : Int) : ∀ n a acc, a ≤ s.size → (loopQ s f e k n a acc).at ≤ m + 1
  | 0, a, acc, _ => Nat.zero_le _
  | n + 1, a, acc, ha => by
    have h1 := hf a ha
    rw [loopQ]
    cases hfa : f a with
    | err p c g b =>
      rw [hfa] at h1
      have := pass_max s b m hm h1
      show passV s b + 1 ≤ _; omega
    | ok v b =>
      rw [hfa] at h1
      have hp := pass_max s b m hm h1
      simp only
      split
      · show passV s b + 1 ≤ _; omega
      · split
        · rename_i h44
          exact loopQ_le hm hf e k n _ _ (next_lt h44 (by decide)).1
        · show passV s b + 1 ≤ _; omega
theorem listQ_le {s : ByteArray} {f : Nat → Q} {m : Nat} (hm : s.size ≤ m) (hf : ∀ a, a ≤ s.size → (f a).at ≤ m) (k : Int) (a : Nat) (ha : a ≤ s.size) : (listQ s f k a).at ≤ m + 1 := by
  have := passV_le s ha
  unfold listQ
  split
  · show passV s a + 1 ≤ _; omega
  · exact loopQ_le hm hf _ _ _ _ _ this
theorem numQ_le (s : ByteArray) (a : Nat) (ha : a ≤ s.size) : (numQ s a).at ≤ s.size + 1 := by
  have := digs_le s ha
  unfold numQ
  split
  · show a + 1 ≤ _; omega
  · split
    · show a + _ ≤ _; omega
    · show a + _ ≤ _; omega
theorem hexV_at {s : ByteArray} : ∀ (n a : Nat) (acc : List UInt8), (hexV s n a acc).at ≤ s.size + 1 ∨ (hexV s n a acc).at ≤ a
  | 0, a, acc => .inl (Nat.zero_le _)
  | n + 1, a, acc => by
    rw [hexV]
    split
    · rename_i h
      have := (next_lt h (by decide)).1
      exact .inl (by show a + 1 ≤ _; omega)
    · have hd := digV_next s a
      split
      · rename_i b e h1
        rw [h1] at hd
        split at hd
        · cases hd
        · cases hd; exact .inr (Nat.le_refl _)
      · rename_i x b h1
        obtain ⟨rfl, _, h2⟩ := digV_ok h1
        have hd2 := digV_next s (a + 1)
        split
        · rename_i c e h3
          rw [h3] at hd2
          split at hd2
          · cases hd2
          · cases hd2; exact .inl (by show a + 1 ≤ _; omega)
        · rename_i y c h3
          obtain ⟨rfl, _, h4⟩ := digV_ok h3
          rcases hexV_at (s := s) n (a + 1 + 1) (acc ++ [UInt8.ofNat (16 * x + y)]) with h | h
          · exact .inl h
          · exact .inl (by omega)
theorem qat (r : R PV) : r.q.at = r.at := by cases r <;> rfl
theorem bytV_at (s : ByteArray) (a : Nat) (ha : a ≤ s.size) : (bytV s a).at ≤ s.size + 1 := by
  unfold bytV
  split
  · rename_i b e h
    unfold mustV at h
    split at h
    · cases h
    · cases h; show a ≤ _; omega
  · rename_i u b h
    obtain ⟨rfl, _, h2⟩ := must_ok h
    rcases hexV_at (s := s) (s.size + 1) (a + 1) [] with h | h
    · exact h
    · omega
theorem atQ_le {s : ByteArray} {f : Nat → Q} {m : Nat} (hm : s.size ≤ m) (hf : ∀ a, a ≤ s.size → (f a).at ≤ m) (a : Nat) (ha : a ≤ s.size) (d : Bool) : (atQ s a d f).at ≤ m + 1 := by
  have hz : (Q.err a 8 zeroV a).at ≤ m + 1 := by show a ≤ _; omega
  have hz4 : (Q.err a 4 zeroV a).at ≤ m + 1 := by show a ≤ _; omega
  have hn := numQ_le s a ha
  unfold atQ
  split
  · rename_i h; have := at_lt h
    split
    · exact hz
    · exact listQ_le hm hf _ _ (by omega)
  · split
    · rename_i h; have := at_lt h
      split
      · exact hz
      · exact listQ_le hm hf _ _ (by omega)
    · split
      · split
        · exact hz
        · omega
      · split
        · split
          · exact hz
          · show a + 1 ≤ _; omega
        · split
          · rename_i h; have := at_lt h
            split
            · exact hz
            · rw [qat]
              have := bytV_at s (a + 1) (by omega)
              omega
          · exact hz4
theorem valQ_le (s : ByteArray) : ∀ n a, a ≤ s.size → (valQ s n a).at ≤ s.size + 1 + n
  | 0, a, ha => atQ_le (Nat.le_refl _) (fun _ _ => Nat.zero_le _) _ (passV_le s ha) _
  | n + 1, a, ha => by
    have := atQ_le (m := s.size + 1 + n) (by omega) (fun b hb => valQ_le s n b hb) _ (passV_le s ha) false
    rw [valQ]; omega
end Go.Proofs.YtkeehnhamkdogaaDoor

namespace Go.Proofs.YtkeehnhamkdogaaDoor
set_option linter.unusedVariables false
set_option linter.unusedSimpArgs false
open Go.RowKit
set_option maxRecDepth 100000

/-- A list's loop, from its opening bracket on: the rest of read. -/
theorem rlist_c (s : ByteArray) (hs : s.size ≤ 1073741824) (around : Int) (har : 0 ≤ around ∧ around < 1200) (f : Nat → Q) (hfb : ∀ a, a ≤ s.size → (f a).at ≤ 2147483647) (hfo : ∀ a v b, a ≤ s.size → f a = .ok v b → a < b ∧ b ≤ s.size) (hfe : ∀ a p c g b, a ≤ s.size → f a = .err p c g b → c ≠ 0)
    (ih : ∀ a, a ≤ s.size → CallsM Tryd.prog ΓS 38 [(0, Sta0 s a)] 1 [.c (.ptr 0 0), c1 (di (around + 1))] (.o (gD (drow (f a).v))) [(0, (f a).st s)] [])
    (a : Nat) (ha : a ≤ s.size) (k : Int) (hk : k = 3 ∨ k = 4) (hc : s.data.toList[passV s a]? = some (if k = 3 then 91 else 123)) :
    CallsM Tryd.prog ΓS 38 [(0, Sta0 s a)] 1 [.c (.ptr 0 0), c1 (di around)] (.o (gD (drow (listQ s f k (passV s a + 1)).v))) [(0, (listQ s f k (passV s a + 1)).st s)] [] := by
  have hn0 := rnext_c s a 0 0 (by omega) hs
  have hql := at_lt hc
  generalize passV s a = q at *
  have hy : nextV s q = if k = 3 then 91 else 123 := (next_some (by split <;> decide)).2 hc
  rw [hy] at hn0
  have hn1 := rnext_c s (q + 1) 0 0 (by omega) hs
  have hq1 := passV_le s (a := q + 1) (by omega)
  obtain ⟨T, hT⟩ : ∃ T, listQ s f k (q + 1) = T := ⟨_, rfl⟩
  rw [hT]
  unfold listQ at hT
  generalize passV s (q + 1) = q1 at *
  rcases hk with rfl | rfl
  · rw [show ((if (3 : Int) = 3 then 91 else 123 : UInt8)) = 91 from rfl] at hn0
    rw [show endV 3 = 93 from rfl] at hT
    refine fn_ruleM (C := ⟨Tryd.prog, layF, Tryd.f38.ntmps, ΓS, 1, [], []⟩) layF_ok mixed Tryd.func38 rfl (by kernel_rfl) rfl rfl rfl ?_
    refine ex_false (show ¬ ((0 : Int) ≠ 0) by decide) ?_
    refine ex_callM (CallsM.ren (hn0) [0] 2 rfl rfl rfl rfl) ?_
    refine ex_false (by decide) ?_
    refine ex_false (by omega) ?_
    refine ex_false (by decide) ?_
    refine ex_false (by decide) ?_
    refine ex_false (by decide) ?_
    refine ex_false (by decide) ?_
    refine ex_i64 (((q + 1 : Nat) : Int)) (by first | rfl | omega | simp) (by omega) (by omega) ?_
    refine ex_callM (CallsM.ren (hn1) [0] 3 rfl rfl rfl rfl) ?_
    refine ex_loop (X := Nat × Nat × List PV × Bool × UInt8) (fun x => ⟨[(0, .o (.c (.ptr 0 0))), (1, Ti around), (4, .o (.c (.ptr 1 0))), (6, .o (.c (.ptr 2 0))), (7, .o (c1 (.v (.int .u8 93)))), (8, .o (c1 (.v (.int .u8 x.2.2.2.2.toNat)))), (9, Tb x.2.2.2.1)],
        [(2, .obj [.d (di 3), .d (du 0), .d (ds ⟨#[]⟩), .row 3]), (3, .row 4 30 (x.2.2.1.map drow)), (0, Sta0 s x.2.1), (1, .obj [.d (di 0), .d (du 0), .d (ds ⟨#[]⟩), .d dnil])], 4⟩) (fun x => s.size + 1 - x.2.1)
      (fun x => x.2.1 ≤ s.size ∧ s.size < x.2.1 + x.1 ∧ x.2.2.1.length ≤ x.2.1 ∧ ((x.2.2.2.1 = true ∧ x.2.2.2.2 = 93 ∧ x.2.2.1 = [] ∧ T = .ok (.mk 3 0 ⟨#[]⟩ []) (x.2.1 + 1)) ∨ (x.2.2.2.1 = true ∧ x.2.2.2.2 ≠ 93 ∧ loopQ s f 93 3 x.1 x.2.1 x.2.2.1 = T) ∨ (x.2.2.2.1 = false ∧ x.2.2.2.2 = 44 ∧ loopQ s f 93 3 x.1 x.2.1 x.2.2.1 = T)))
      (s.size + 1, q1, [], true, nextV s q1) ⟨hq1, by show s.size < q1 + (s.size + 1); omega, by show 0 ≤ _; omega, ?_⟩ (SLe.trans (SLe.of ⟨⟨rfl, rfl, rfl, rfl, rfl, rfl, rfl, trivial⟩, ⟨rfl, rfl, rfl, rfl, trivial⟩⟩) (SLe.ownCell 2 3 3 4 30 rfl rfl rfl rfl rfl rfl)) ?_
    · by_cases h : nextV s q1 = 93
      · rw [if_pos h] at hT
        exact .inl ⟨rfl, h, rfl, hT.symm⟩
      · rw [if_neg h] at hT
        exact .inr (.inl ⟨rfl, h, hT⟩)
    rintro ⟨m, q, acc, fi, d⟩ ⟨hq, hm, hac, hg⟩
    simp only at hq hm hac hg
    rcases hg with ⟨rfl, rfl, rfl, rfl⟩ | ⟨rfl, hd, hg⟩ | ⟨rfl, rfl, hg⟩
    · refine ex_false (show ¬ (((93 : UInt8).toNat : Int) ≠ 93) by decide) ?_
      refine ex_i64 (((q + 1 : Nat) : Int)) (by first | rfl | omega | simp) (by omega) (by omega) ?_
      exact ⟨rfl, by show TLe _ (.o (gD (drow (.mk _ _ _ _)))); rw [drow_mk]; exact TLe.rfl, rfl, rfl⟩
    · refine ex_true (fun h => hd (u8_eq (b := 93) |>.1 h)) ?_
      obtain ⟨m, rfl⟩ : ∃ m', m = m' + 1 := ⟨m - 1, by omega⟩
      rw [loopQ] at hg
      have hv := ih q hq
      have hb := hfb q hq
      cases hfq : f q with
      | err p c g b =>
        rw [hfq] at hv hg hb
        simp only at hg
        subst hg
        have hb : b ≤ 2147483647 := hb
        have hpb := pass_max s b 2147483647 (by omega) hb
        have hnx := rnext_c s b c p (by omega) hs
        have hc0 := hfe q p c g b hq hfq
        refine ex_i64 ((around + 1)) (by first | rfl | omega | simp) (by omega) (by omega) ?_
        refine ex_callM (CallsM.ren (hv) [0] 4 rfl rfl rfl rfl) ?_
        refine ex_app acc.length 1 1000 (by simp) rfl rfl (by omega) ?_
        refine ex_is ((acc ++ [g]).map drow) (by rw [List.map_append]; rfl) ?_
        refine ex_callM (CallsM.ren (hnx) [0] 7 rfl rfl rfl rfl) ?_
        refine ex_true hc0 ?_
        refine ex_i64 (((passV s b + 1 : Nat) : Int)) (by first | rfl | omega | simp) (by omega) (by omega) ?_
        exact ⟨rfl, by show TLe _ (.o (gD (drow (.mk _ _ _ _)))); rw [drow_mk]; exact TLe.rfl, rfl, rfl⟩
      | ok v b =>
        rw [hfq] at hv hg hb
        simp only at hg
        have hb : b ≤ 2147483647 := hb
        have hpb := pass_max s b 2147483647 (by omega) hb
        have hnx := rnext_c s b 0 0 (by omega) hs
        have hob := hfo q v b hq hfq
        have hpg := passV_ge s b
        obtain ⟨y, hy⟩ : ∃ y, nextV s (passV s b) = y := ⟨_, rfl⟩
        rw [hy] at hnx hg
        refine ex_i64 ((around + 1)) (by first | rfl | omega | simp) (by omega) (by omega) ?_
        refine ex_callM (CallsM.ren (hv) [0] 4 rfl rfl rfl rfl) ?_
        refine ex_app acc.length 1 1000 (by simp) rfl rfl (by omega) ?_
        refine ex_is ((acc ++ [v]).map drow) (by rw [List.map_append]; rfl) ?_
        refine ex_callM (CallsM.ren (hnx) [0] 7 rfl rfl rfl rfl) ?_
        refine ex_false (show ¬ ((0 : Int) ≠ 0) by decide) ?_
        refine ex_dec (fun h1 => ?_) (fun h1 => ?_)
        · rw [if_pos (u8_eq (b := 93) |>.1 h1)] at hg
          subst hg
          refine ex_i64 (((passV s b + 1 : Nat) : Int)) (by first | rfl | omega | simp) (by omega) (by omega) ?_
          exact ⟨rfl, by show TLe _ (.o (gD (drow (.mk _ _ _ _)))); rw [drow_mk]; exact TLe.rfl, rfl, rfl⟩
        · rw [if_neg (fun h => h1 (by rw [h]; rfl))] at hg
          refine ex_dec (fun h2 => ?_) (fun h2 => ?_)
          · rw [if_neg (fun h => h2 (by rw [h]; rfl))] at hg
            subst hg
            refine ex_callM (CallsM.ren ((rfail_c s (passV s b) 0 (passV s b) 4)) [0] 7 rfl rfl rfl rfl) ?_
            refine ex_i64 (((passV s b + 1 : Nat) : Int)) (by first | rfl | omega | simp) (by omega) (by omega) ?_
            exact ⟨rfl, by show TLe _ (.o (gD (drow (.mk _ _ _ _)))); rw [drow_mk]; exact TLe.rfl, rfl, rfl⟩
          · obtain rfl : y = 44 := u8_eq (b := 44) |>.1 (Decidable.not_not.1 h2)
            rw [if_pos rfl] at hg
            have hlt := (next_lt hy (by decide)).1
            refine ex_i64 (((passV s b + 1 : Nat) : Int)) (by first | rfl | omega | simp) (by omega) (by omega) ?_
            refine ex_round (m, passV s b + 1, acc ++ [v], false, 44) ⟨hlt, by show s.size < passV s b + 1 + m; omega, by show (acc ++ [v]).length ≤ passV s b + 1; rw [List.length_append, List.length_cons, List.length_nil]; omega, .inr (.inr ⟨rfl, rfl, hg⟩)⟩ (by show s.size + 1 - (passV s b + 1) < s.size + 1 - q; omega) (SLe.ren [(2, 2), (6, 3), (0, 0), (1, 1)] ⟨⟨rfl, rfl⟩, ⟨rfl, rfl⟩, ⟨rfl, rfl⟩, ⟨rfl, rfl⟩, ⟨rfl, rfl⟩, ⟨rfl, rfl⟩, ⟨rfl, rfl⟩, trivial⟩ ⟨⟨rfl, rfl⟩, ⟨rfl, rfl⟩, ⟨rfl, rfl⟩, ⟨rfl, rfl⟩, trivial⟩ rfl)
    · refine ex_true (show ((44 : UInt8).toNat : Int) ≠ 93 by decide) ?_
      obtain ⟨m, rfl⟩ : ∃ m', m = m' + 1 := ⟨m - 1, by omega⟩
      rw [loopQ] at hg
      have hv := ih q hq
      have hb := hfb q hq
      cases hfq : f q with
      | err p c g b =>
        rw [hfq] at hv hg hb
        simp only at hg
        subst hg
        have hb : b ≤ 2147483647 := hb
        have hpb := pass_max s b 2147483647 (by omega) hb
        have hnx := rnext_c s b c p (by omega) hs
        have hc0 := hfe q p c g b hq hfq
        refine ex_i64 ((around + 1)) (by first | rfl | omega | simp) (by omega) (by omega) ?_
        refine ex_callM (CallsM.ren (hv) [0] 4 rfl rfl rfl rfl) ?_
        refine ex_app acc.length 1 1000 (by simp) rfl rfl (by omega) ?_
        refine ex_is ((acc ++ [g]).map drow) (by rw [List.map_append]; rfl) ?_
        refine ex_callM (CallsM.ren (hnx) [0] 7 rfl rfl rfl rfl) ?_
        refine ex_true hc0 ?_
        refine ex_i64 (((passV s b + 1 : Nat) : Int)) (by first | rfl | omega | simp) (by omega) (by omega) ?_
        exact ⟨rfl, by show TLe _ (.o (gD (drow (.mk _ _ _ _)))); rw [drow_mk]; exact TLe.rfl, rfl, rfl⟩
      | ok v b =>
        rw [hfq] at hv hg hb
        simp only at hg
        have hb : b ≤ 2147483647 := hb
        have hpb := pass_max s b 2147483647 (by omega) hb
        have hnx := rnext_c s b 0 0 (by omega) hs
        have hob := hfo q v b hq hfq
        have hpg := passV_ge s b
        obtain ⟨y, hy⟩ : ∃ y, nextV s (passV s b) = y := ⟨_, rfl⟩
        rw [hy] at hnx hg
        refine ex_i64 ((around + 1)) (by first | rfl | omega | simp) (by omega) (by omega) ?_
        refine ex_callM (CallsM.ren (hv) [0] 4 rfl rfl rfl rfl) ?_
        refine ex_app acc.length 1 1000 (by simp) rfl rfl (by omega) ?_
        refine ex_is ((acc ++ [v]).map drow) (by rw [List.map_append]; rfl) ?_
        refine ex_callM (CallsM.ren (hnx) [0] 7 rfl rfl rfl rfl) ?_
        refine ex_false (show ¬ ((0 : Int) ≠ 0) by decide) ?_
        refine ex_dec (fun h1 => ?_) (fun h1 => ?_)
        · rw [if_pos (u8_eq (b := 93) |>.1 h1)] at hg
          subst hg
          refine ex_i64 (((passV s b + 1 : Nat) : Int)) (by first | rfl | omega | simp) (by omega) (by omega) ?_
          exact ⟨rfl, by show TLe _ (.o (gD (drow (.mk _ _ _ _)))); rw [drow_mk]; exact TLe.rfl, rfl, rfl⟩
        · rw [if_neg (fun h => h1 (by rw [h]; rfl))] at hg
          refine ex_dec (fun h2 => ?_) (fun h2 => ?_)
          · rw [if_neg (fun h => h2 (by rw [h]; rfl))] at hg
            subst hg
            refine ex_callM (CallsM.ren ((rfail_c s (passV s b) 0 (passV s b) 4)) [0] 7 rfl rfl rfl rfl) ?_
            refine ex_i64 (((passV s b + 1 : Nat) : Int)) (by first | rfl | omega | simp) (by omega) (by omega) ?_
            exact ⟨rfl, by show TLe _ (.o (gD (drow (.mk _ _ _ _)))); rw [drow_mk]; exact TLe.rfl, rfl, rfl⟩
          · obtain rfl : y = 44 := u8_eq (b := 44) |>.1 (Decidable.not_not.1 h2)
            rw [if_pos rfl] at hg
            have hlt := (next_lt hy (by decide)).1
            refine ex_i64 (((passV s b + 1 : Nat) : Int)) (by first | rfl | omega | simp) (by omega) (by omega) ?_
            refine ex_round (m, passV s b + 1, acc ++ [v], false, 44) ⟨hlt, by show s.size < passV s b + 1 + m; omega, by show (acc ++ [v]).length ≤ passV s b + 1; rw [List.length_append, List.length_cons, List.length_nil]; omega, .inr (.inr ⟨rfl, rfl, hg⟩)⟩ (by show s.size + 1 - (passV s b + 1) < s.size + 1 - q; omega) (SLe.ren [(2, 2), (6, 3), (0, 0), (1, 1)] ⟨⟨rfl, rfl⟩, ⟨rfl, rfl⟩, ⟨rfl, rfl⟩, ⟨rfl, rfl⟩, ⟨rfl, rfl⟩, ⟨rfl, rfl⟩, ⟨rfl, rfl⟩, trivial⟩ ⟨⟨rfl, rfl⟩, ⟨rfl, rfl⟩, ⟨rfl, rfl⟩, ⟨rfl, rfl⟩, trivial⟩ rfl)
  · rw [show ((if (4 : Int) = 3 then 91 else 123 : UInt8)) = 123 from rfl] at hn0
    rw [show endV 4 = 125 from rfl] at hT
    refine fn_ruleM (C := ⟨Tryd.prog, layF, Tryd.f38.ntmps, ΓS, 1, [], []⟩) layF_ok mixed Tryd.func38 rfl (by kernel_rfl) rfl rfl rfl ?_
    refine ex_false (show ¬ ((0 : Int) ≠ 0) by decide) ?_
    refine ex_callM (CallsM.ren (hn0) [0] 2 rfl rfl rfl rfl) ?_
    refine ex_true (by decide) ?_
    refine ex_false (by decide) ?_
    refine ex_false (by omega) ?_
    refine ex_false (by decide) ?_
    refine ex_false (by decide) ?_
    refine ex_true (by decide) ?_
    refine ex_false (by decide) ?_
    refine ex_true (by decide) ?_
    refine ex_i64 (((q + 1 : Nat) : Int)) (by first | rfl | omega | simp) (by omega) (by omega) ?_
    refine ex_callM (CallsM.ren (hn1) [0] 3 rfl rfl rfl rfl) ?_
    refine ex_loop (X := Nat × Nat × List PV × Bool × UInt8) (fun x => ⟨[(0, .o (.c (.ptr 0 0))), (1, Ti around), (4, .o (.c (.ptr 1 0))), (6, .o (.c (.ptr 2 0))), (7, .o (c1 (.v (.int .u8 125)))), (8, .o (c1 (.v (.int .u8 x.2.2.2.2.toNat)))), (9, Tb x.2.2.2.1)],
        [(2, .obj [.d (di 4), .d (du 0), .d (ds ⟨#[]⟩), .row 3]), (3, .row 4 30 (x.2.2.1.map drow)), (0, Sta0 s x.2.1), (1, .obj [.d (di 0), .d (du 0), .d (ds ⟨#[]⟩), .d dnil])], 4⟩) (fun x => s.size + 1 - x.2.1)
      (fun x => x.2.1 ≤ s.size ∧ s.size < x.2.1 + x.1 ∧ x.2.2.1.length ≤ x.2.1 ∧ ((x.2.2.2.1 = true ∧ x.2.2.2.2 = 125 ∧ x.2.2.1 = [] ∧ T = .ok (.mk 4 0 ⟨#[]⟩ []) (x.2.1 + 1)) ∨ (x.2.2.2.1 = true ∧ x.2.2.2.2 ≠ 125 ∧ loopQ s f 125 4 x.1 x.2.1 x.2.2.1 = T) ∨ (x.2.2.2.1 = false ∧ x.2.2.2.2 = 44 ∧ loopQ s f 125 4 x.1 x.2.1 x.2.2.1 = T)))
      (s.size + 1, q1, [], true, nextV s q1) ⟨hq1, by show s.size < q1 + (s.size + 1); omega, by show 0 ≤ _; omega, ?_⟩ (SLe.trans (SLe.of ⟨⟨rfl, rfl, rfl, rfl, rfl, rfl, rfl, trivial⟩, ⟨rfl, rfl, rfl, rfl, trivial⟩⟩) (SLe.ownCell 2 3 3 4 30 rfl rfl rfl rfl rfl rfl)) ?_
    · by_cases h : nextV s q1 = 125
      · rw [if_pos h] at hT
        exact .inl ⟨rfl, h, rfl, hT.symm⟩
      · rw [if_neg h] at hT
        exact .inr (.inl ⟨rfl, h, hT⟩)
    rintro ⟨m, q, acc, fi, d⟩ ⟨hq, hm, hac, hg⟩
    simp only at hq hm hac hg
    rcases hg with ⟨rfl, rfl, rfl, rfl⟩ | ⟨rfl, hd, hg⟩ | ⟨rfl, rfl, hg⟩
    · refine ex_false (show ¬ (((125 : UInt8).toNat : Int) ≠ 125) by decide) ?_
      refine ex_i64 (((q + 1 : Nat) : Int)) (by first | rfl | omega | simp) (by omega) (by omega) ?_
      exact ⟨rfl, by show TLe _ (.o (gD (drow (.mk _ _ _ _)))); rw [drow_mk]; exact TLe.rfl, rfl, rfl⟩
    · refine ex_true (fun h => hd (u8_eq (b := 125) |>.1 h)) ?_
      obtain ⟨m, rfl⟩ : ∃ m', m = m' + 1 := ⟨m - 1, by omega⟩
      rw [loopQ] at hg
      have hv := ih q hq
      have hb := hfb q hq
      cases hfq : f q with
      | err p c g b =>
        rw [hfq] at hv hg hb
        simp only at hg
        subst hg
        have hb : b ≤ 2147483647 := hb
        have hpb := pass_max s b 2147483647 (by omega) hb
        have hnx := rnext_c s b c p (by omega) hs
        have hc0 := hfe q p c g b hq hfq
        refine ex_i64 ((around + 1)) (by first | rfl | omega | simp) (by omega) (by omega) ?_
        refine ex_callM (CallsM.ren (hv) [0] 4 rfl rfl rfl rfl) ?_
        refine ex_app acc.length 1 1000 (by simp) rfl rfl (by omega) ?_
        refine ex_is ((acc ++ [g]).map drow) (by rw [List.map_append]; rfl) ?_
        refine ex_callM (CallsM.ren (hnx) [0] 7 rfl rfl rfl rfl) ?_
        refine ex_true hc0 ?_
        refine ex_i64 (((passV s b + 1 : Nat) : Int)) (by first | rfl | omega | simp) (by omega) (by omega) ?_
        exact ⟨rfl, by show TLe _ (.o (gD (drow (.mk _ _ _ _)))); rw [drow_mk]; exact TLe.rfl, rfl, rfl⟩
      | ok v b =>
        rw [hfq] at hv hg hb
        simp only at hg
        have hb : b ≤ 2147483647 := hb
        have hpb := pass_max s b 2147483647 (by omega) hb
        have hnx := rnext_c s b 0 0 (by omega) hs
        have hob := hfo q v b hq hfq
        have hpg := passV_ge s b
        obtain ⟨y, hy⟩ : ∃ y, nextV s (passV s b) = y := ⟨_, rfl⟩
        rw [hy] at hnx hg
        refine ex_i64 ((around + 1)) (by first | rfl | omega | simp) (by omega) (by omega) ?_
        refine ex_callM (CallsM.ren (hv) [0] 4 rfl rfl rfl rfl) ?_
        refine ex_app acc.length 1 1000 (by simp) rfl rfl (by omega) ?_
        refine ex_is ((acc ++ [v]).map drow) (by rw [List.map_append]; rfl) ?_
        refine ex_callM (CallsM.ren (hnx) [0] 7 rfl rfl rfl rfl) ?_
        refine ex_false (show ¬ ((0 : Int) ≠ 0) by decide) ?_
        refine ex_dec (fun h1 => ?_) (fun h1 => ?_)
        · rw [if_pos (u8_eq (b := 125) |>.1 h1)] at hg
          subst hg
          refine ex_i64 (((passV s b + 1 : Nat) : Int)) (by first | rfl | omega | simp) (by omega) (by omega) ?_
          exact ⟨rfl, by show TLe _ (.o (gD (drow (.mk _ _ _ _)))); rw [drow_mk]; exact TLe.rfl, rfl, rfl⟩
        · rw [if_neg (fun h => h1 (by rw [h]; rfl))] at hg
          refine ex_dec (fun h2 => ?_) (fun h2 => ?_)
          · rw [if_neg (fun h => h2 (by rw [h]; rfl))] at hg
            subst hg
            refine ex_callM (CallsM.ren ((rfail_c s (passV s b) 0 (passV s b) 4)) [0] 7 rfl rfl rfl rfl) ?_
            refine ex_i64 (((passV s b + 1 : Nat) : Int)) (by first | rfl | omega | simp) (by omega) (by omega) ?_
            exact ⟨rfl, by show TLe _ (.o (gD (drow (.mk _ _ _ _)))); rw [drow_mk]; exact TLe.rfl, rfl, rfl⟩
          · obtain rfl : y = 44 := u8_eq (b := 44) |>.1 (Decidable.not_not.1 h2)
            rw [if_pos rfl] at hg
            have hlt := (next_lt hy (by decide)).1
            refine ex_i64 (((passV s b + 1 : Nat) : Int)) (by first | rfl | omega | simp) (by omega) (by omega) ?_
            refine ex_round (m, passV s b + 1, acc ++ [v], false, 44) ⟨hlt, by show s.size < passV s b + 1 + m; omega, by show (acc ++ [v]).length ≤ passV s b + 1; rw [List.length_append, List.length_cons, List.length_nil]; omega, .inr (.inr ⟨rfl, rfl, hg⟩)⟩ (by show s.size + 1 - (passV s b + 1) < s.size + 1 - q; omega) (SLe.ren [(2, 2), (6, 3), (0, 0), (1, 1)] ⟨⟨rfl, rfl⟩, ⟨rfl, rfl⟩, ⟨rfl, rfl⟩, ⟨rfl, rfl⟩, ⟨rfl, rfl⟩, ⟨rfl, rfl⟩, ⟨rfl, rfl⟩, trivial⟩ ⟨⟨rfl, rfl⟩, ⟨rfl, rfl⟩, ⟨rfl, rfl⟩, ⟨rfl, rfl⟩, trivial⟩ rfl)
    · refine ex_true (show ((44 : UInt8).toNat : Int) ≠ 125 by decide) ?_
      obtain ⟨m, rfl⟩ : ∃ m', m = m' + 1 := ⟨m - 1, by omega⟩
      rw [loopQ] at hg
      have hv := ih q hq
      have hb := hfb q hq
      cases hfq : f q with
      | err p c g b =>
        rw [hfq] at hv hg hb
        simp only at hg
        subst hg
        have hb : b ≤ 2147483647 := hb
        have hpb := pass_max s b 2147483647 (by omega) hb
        have hnx := rnext_c s b c p (by omega) hs
        have hc0 := hfe q p c g b hq hfq
        refine ex_i64 ((around + 1)) (by first | rfl | omega | simp) (by omega) (by omega) ?_
        refine ex_callM (CallsM.ren (hv) [0] 4 rfl rfl rfl rfl) ?_
        refine ex_app acc.length 1 1000 (by simp) rfl rfl (by omega) ?_
        refine ex_is ((acc ++ [g]).map drow) (by rw [List.map_append]; rfl) ?_
        refine ex_callM (CallsM.ren (hnx) [0] 7 rfl rfl rfl rfl) ?_
        refine ex_true hc0 ?_
        refine ex_i64 (((passV s b + 1 : Nat) : Int)) (by first | rfl | omega | simp) (by omega) (by omega) ?_
        exact ⟨rfl, by show TLe _ (.o (gD (drow (.mk _ _ _ _)))); rw [drow_mk]; exact TLe.rfl, rfl, rfl⟩
      | ok v b =>
        rw [hfq] at hv hg hb
        simp only at hg
        have hb : b ≤ 2147483647 := hb
        have hpb := pass_max s b 2147483647 (by omega) hb
        have hnx := rnext_c s b 0 0 (by omega) hs
        have hob := hfo q v b hq hfq
        have hpg := passV_ge s b
        obtain ⟨y, hy⟩ : ∃ y, nextV s (passV s b) = y := ⟨_, rfl⟩
        rw [hy] at hnx hg
        refine ex_i64 ((around + 1)) (by first | rfl | omega | simp) (by omega) (by omega) ?_
        refine ex_callM (CallsM.ren (hv) [0] 4 rfl rfl rfl rfl) ?_
        refine ex_app acc.length 1 1000 (by simp) rfl rfl (by omega) ?_
        refine ex_is ((acc ++ [v]).map drow) (by rw [List.map_append]; rfl) ?_
        refine ex_callM (CallsM.ren (hnx) [0] 7 rfl rfl rfl rfl) ?_
        refine ex_false (show ¬ ((0 : Int) ≠ 0) by decide) ?_
        refine ex_dec (fun h1 => ?_) (fun h1 => ?_)
        · rw [if_pos (u8_eq (b := 125) |>.1 h1)] at hg
          subst hg
          refine ex_i64 (((passV s b + 1 : Nat) : Int)) (by first | rfl | omega | simp) (by omega) (by omega) ?_
          exact ⟨rfl, by show TLe _ (.o (gD (drow (.mk _ _ _ _)))); rw [drow_mk]; exact TLe.rfl, rfl, rfl⟩
        · rw [if_neg (fun h => h1 (by rw [h]; rfl))] at hg
          refine ex_dec (fun h2 => ?_) (fun h2 => ?_)
          · rw [if_neg (fun h => h2 (by rw [h]; rfl))] at hg
            subst hg
            refine ex_callM (CallsM.ren ((rfail_c s (passV s b) 0 (passV s b) 4)) [0] 7 rfl rfl rfl rfl) ?_
            refine ex_i64 (((passV s b + 1 : Nat) : Int)) (by first | rfl | omega | simp) (by omega) (by omega) ?_
            exact ⟨rfl, by show TLe _ (.o (gD (drow (.mk _ _ _ _)))); rw [drow_mk]; exact TLe.rfl, rfl, rfl⟩
          · obtain rfl : y = 44 := u8_eq (b := 44) |>.1 (Decidable.not_not.1 h2)
            rw [if_pos rfl] at hg
            have hlt := (next_lt hy (by decide)).1
            refine ex_i64 (((passV s b + 1 : Nat) : Int)) (by first | rfl | omega | simp) (by omega) (by omega) ?_
            refine ex_round (m, passV s b + 1, acc ++ [v], false, 44) ⟨hlt, by show s.size < passV s b + 1 + m; omega, by show (acc ++ [v]).length ≤ passV s b + 1; rw [List.length_append, List.length_cons, List.length_nil]; omega, .inr (.inr ⟨rfl, rfl, hg⟩)⟩ (by show s.size + 1 - (passV s b + 1) < s.size + 1 - q; omega) (SLe.ren [(2, 2), (6, 3), (0, 0), (1, 1)] ⟨⟨rfl, rfl⟩, ⟨rfl, rfl⟩, ⟨rfl, rfl⟩, ⟨rfl, rfl⟩, ⟨rfl, rfl⟩, ⟨rfl, rfl⟩, ⟨rfl, rfl⟩, trivial⟩ ⟨⟨rfl, rfl⟩, ⟨rfl, rfl⟩, ⟨rfl, rfl⟩, ⟨rfl, rfl⟩, trivial⟩ rfl)
end Go.Proofs.YtkeehnhamkdogaaDoor

namespace Go.Proofs.YtkeehnhamkdogaaDoor
set_option linter.unusedVariables false
set_option linter.unusedSimpArgs false
open Go.RowKit
set_option maxRecDepth 100000

theorem numQ_e (s : ByteArray) (a : Nat) : ∀ p c g b, numQ s a = .err p c g b → c ≠ 0 := by
  intro p c g b h
  unfold numQ at h
  split at h
  · cases h; decide
  · split at h
    · cases h
    · cases h; decide
theorem hexV_e {s : ByteArray} : ∀ n a acc, s.size < a + n → a ≤ s.size → ∀ p c, hexV s n a acc = .err p c → c ≠ 0
  | 0, a, acc, h1, h2, p, c, h => by omega
  | n + 1, a, acc, h1, h2, p, c, h => by
    rw [hexV] at h
    split at h
    · cases h
    · have hd := digV_next s a
      split at h
      · rename_i b e h3
        cases h
        rw [h3] at hd
        split at hd
        · cases hd
        · cases hd; decide
      · rename_i x b h3
        obtain ⟨rfl, _, h4⟩ := digV_ok h3
        have hd := digV_next s (a + 1)
        split at h
        · rename_i b e h5
          cases h
          rw [h5] at hd
          split at hd
          · cases hd
          · cases hd; decide
        · rename_i y b h5
          obtain ⟨rfl, _, h6⟩ := digV_ok h5
          exact hexV_e n _ _ (by omega) h6 p c h
theorem bytV_e {s : ByteArray} {a : Nat} : ∀ p c, bytV s a = .err p c → c ≠ 0 := by
  intro p c h
  unfold bytV at h
  split at h
  · rename_i h1
    cases h
    unfold mustV at h1
    split at h1
    · cases h1
    · cases h1; decide
  · rename_i u b h1
    obtain ⟨rfl, _, h2⟩ := must_ok h1
    exact hexV_e _ _ _ (by omega) h2 p c h
def FE (f : Nat → Q) (s : ByteArray) : Prop := ∀ a p c g b, a ≤ s.size → f a = .err p c g b → c ≠ 0
theorem loopQ_e {s : ByteArray} {f : Nat → Q} (hf : FE f s) (hfo : ∀ a v b, a ≤ s.size → f a = .ok v b → a < b ∧ b ≤ s.size) {e : UInt8} {k : Int} : ∀ n a acc, s.size < a + n → a ≤ s.size → ∀ p c g b, loopQ s f e k n a acc = .err p c g b → c ≠ 0
  | 0, a, acc, h1, h2, p, c, g, b, h => by omega
  | n + 1, a, acc, h1, h2, p, c, g, b, h => by
    rw [loopQ] at h
    split at h
    · rename_i p' c' g' b' h3
      cases h
      exact hf _ _ _ _ _ h2 h3
    · rename_i v b' h3
      have h4 := hfo _ _ _ h2 h3
      have h5 := passV_ge s b'
      split at h
      · cases h
      · split at h
        · rename_i h6
          exact loopQ_e hf hfo n _ _ (by omega) (next_lt h6 (by decide)).1 p c g b h
        · cases h; decide
theorem listQ_e {s : ByteArray} {f : Nat → Q} (hf : FE f s) (hfo : ∀ a v b, a ≤ s.size → f a = .ok v b → a < b ∧ b ≤ s.size) {k : Int} {a : Nat} (ha : a ≤ s.size) : ∀ p c g b, listQ s f k a = .err p c g b → c ≠ 0 := by
  intro p c g b h
  unfold listQ at h
  split at h
  · cases h
  · exact loopQ_e hf hfo _ _ _ (by omega) (passV_le s ha) p c g b h
theorem rq_e {r : R PV} (h : ∀ p c, r = .err p c → c ≠ 0) : ∀ p c g b, r.q = .err p c g b → c ≠ 0 := by
  intro p c g b h1
  cases r with
  | ok v a => cases h1
  | err a e => cases h1; exact h _ _ rfl
theorem atQ_e {s : ByteArray} {f : Nat → Q} (hf : FE f s) (hfo : ∀ a v b, a ≤ s.size → f a = .ok v b → a < b ∧ b ≤ s.size) {a : Nat} {d : Bool} : ∀ p c g b, atQ s a d f = .err p c g b → c ≠ 0 := by
  intro p c g b h
  unfold atQ at h
  have z8 : ∀ a', Q.err a' 8 zeroV a' = .err p c g b → c ≠ 0 := fun a' h => by cases h; decide
  split at h
  · rename_i h1; have := at_lt h1
    split at h
    · exact z8 _ h
    · exact listQ_e hf hfo (by omega) _ _ _ _ h
  · split at h
    · rename_i h1; have := at_lt h1
      split at h
      · exact z8 _ h
      · exact listQ_e hf hfo (by omega) _ _ _ _ h
    · split at h
      · split at h
        · exact z8 _ h
        · exact numQ_e _ _ _ _ _ _ h
      · split at h
        · split at h
          · exact z8 _ h
          · cases h
        · split at h
          · split at h
            · exact z8 _ h
            · exact rq_e bytV_e _ _ _ _ h
          · cases h; decide
theorem valQ_ok (s : ByteArray) (n a : Nat) (v : PV) (b : Nat) (ha : a ≤ s.size) (h : valQ s n a = .ok v b) : a < b ∧ b ≤ s.size :=
  valV_ok s n a v b ha (by rw [← valQ_r, h]; rfl)
theorem valQ_e (s : ByteArray) : ∀ n, FE (valQ s n) s
  | 0 => fun a p c g b ha h => atQ_e (s := s) (f := fun _ => .err 0 8 zeroV 0) (fun _ _ _ _ _ _ h => by cases h; decide) (fun _ _ _ _ h => by cases h) (d := true) p c g b (by exact h)
  | n + 1 => fun a p c g b ha h => atQ_e (valQ_e s n) (valQ_ok s n) p c g b h
theorem rread_step (s : ByteArray) (hs : s.size ≤ 1073741824) (n : Nat) (hn : n ≤ 1200) (around : Int) (har : around + n = 1200) (a : Nat) (ha : a ≤ s.size) (T : Q)
    (h0 : n = 0 → atQ s (passV s a) true (fun _ => .err 0 0 zeroV 0) = T)
    (h1 : ∀ m, n = m + 1 → atQ s (passV s a) false (valQ s m) = T ∧ ∀ b, b ≤ s.size → CallsM Tryd.prog ΓS 38 [(0, Sta0 s b)] 1 [.c (.ptr 0 0), c1 (di (around + 1))] (.o (gD (drow (valQ s m b).v))) [(0, (valQ s m b).st s)] []) :
    CallsM Tryd.prog ΓS 38 [(0, Sta0 s a)] 1 [.c (.ptr 0 0), c1 (di around)] (.o (gD (drow T.v))) [(0, T.st s)] [] := by
  have hnx := rnext_c s a 0 0 (by omega) hs
  have hq := passV_le s ha
  by_cases hk : (∃ k : Int, (k = 3 ∨ k = 4) ∧ s.data.toList[passV s a]? = some (if k = 3 then 91 else 123)) ∧ n ≠ 0
  · obtain ⟨⟨k, hk34, hkc⟩, hn0⟩ := hk
    obtain ⟨m, rfl⟩ : ∃ m, n = m + 1 := ⟨n - 1, by omega⟩
    obtain ⟨hT, ih⟩ := h1 m rfl
    have hT : listQ s (valQ s m) k (passV s a + 1) = T := by
      rw [← hT]
      unfold atQ
      rcases hk34 with rfl | rfl
      · rw [if_pos (by rw [hkc]; rfl)]; rfl
      · rw [if_neg (by rw [hkc]; decide), if_pos (by rw [hkc]; rfl)]; rfl
    have := rlist_c s hs around ⟨by omega, by omega⟩ (valQ s m) (fun b hb => by have := valQ_le s m b hb; omega) (valQ_ok s m) (valQ_e s m) ih a ha k hk34 hkc
    rw [hT] at this
    exact this
  · generalize hqe : passV s a = q at *
    have hk1 : n ≠ 0 → s.data.toList[q]? ≠ some 91 := fun hn h => hk ⟨⟨3, .inl rfl, by rw [h]; rfl⟩, hn⟩
    have hk2 : n ≠ 0 → s.data.toList[q]? ≠ some 123 := fun hn h => hk ⟨⟨4, .inr rfl, by rw [h]; rfl⟩, hn⟩
    clear hk
    have han := any_next s q
    obtain ⟨y, hy⟩ : ∃ y, nextV s q = y := ⟨_, rfl⟩
    have e1 : s.data.toList[q]? = some 91 ↔ y = 91 := by rw [← hy, next_some (by decide)]
    have e2 : s.data.toList[q]? = some 123 ↔ y = 123 := by rw [← hy, next_some (by decide)]
    have e3 : s.data.toList[q]? = some 45 ↔ y = 45 := by rw [← hy, next_some (by decide)]
    have e4 : s.data.toList[q]? = some 120 ↔ y = 120 := by rw [← hy, next_some (by decide)]
    have u : ∀ c : UInt8, ((y.toNat : Nat) : Int) = (c.toNat : Nat) ↔ y = c := fun c => u8_eq
    rw [hy] at hnx han
    have hz : n = 0 ∨ n ≠ 0 := by omega
    by_cases h : y = 91
    · subst h
      cases n with
      | zero =>
        obtain rfl : T = .err q 8 zeroV q := by
          rw [← h0 rfl]; unfold atQ
          rw [if_pos (e1.2 rfl)]; rfl
        refine fn_ruleM (C := ⟨Tryd.prog, layF, Tryd.f38.ntmps, ΓS, 1, [], []⟩) layF_ok mixed Tryd.func38 rfl (by kernel_rfl) rfl rfl rfl ?_
        refine ex_false (show ¬ ((0 : Int) ≠ 0) by decide) ?_
        refine ex_callM (CallsM.ren (hnx) [0] 2 rfl rfl rfl rfl) ?_
        refine ex_false (by decide) ?_
        refine ex_true (by omega) ?_
        refine ex_callM (CallsM.ren ((rfail_c s q 0 q 8)) [0] 2 rfl rfl rfl rfl) ?_
        exact ⟨rfl, by show TLe _ (.o (gD (drow (.mk _ _ _ _)))); rw [drow_mk]; exact TLe.nil4, rfl, rfl⟩
      | succ m =>
        exact absurd (e1.2 rfl) (hk1 (by omega))
    by_cases h' : y = 123
    · subst h'
      cases n with
      | zero =>
        obtain rfl : T = .err q 8 zeroV q := by
          rw [← h0 rfl]; unfold atQ
          rw [if_neg (fun h => by have := e1.1 h; revert this; decide), if_pos (e2.2 rfl)]; rfl
        refine fn_ruleM (C := ⟨Tryd.prog, layF, Tryd.f38.ntmps, ΓS, 1, [], []⟩) layF_ok mixed Tryd.func38 rfl (by kernel_rfl) rfl rfl rfl ?_
        refine ex_false (show ¬ ((0 : Int) ≠ 0) by decide) ?_
        refine ex_callM (CallsM.ren (hnx) [0] 2 rfl rfl rfl rfl) ?_
        refine ex_true (by decide) ?_
        refine ex_false (by decide) ?_
        refine ex_true (by omega) ?_
        refine ex_callM (CallsM.ren ((rfail_c s q 0 q 8)) [0] 2 rfl rfl rfl rfl) ?_
        exact ⟨rfl, by show TLe _ (.o (gD (drow (.mk _ _ _ _)))); rw [drow_mk]; exact TLe.nil4, rfl, rfl⟩
      | succ m =>
        exact absurd (e2.2 rfl) (hk2 (by omega))
    rw [← e1] at h
    rw [← e2] at h'
    by_cases hd : anyV s q digL = true
    · have hr := han.1 hd
      cases n with
      | zero =>
        obtain rfl : T = .err q 8 zeroV q := by
          rw [← h0 rfl]; unfold atQ
          rw [if_neg h, if_neg h', if_pos hd]; rfl
        refine fn_ruleM (C := ⟨Tryd.prog, layF, Tryd.f38.ntmps, ΓS, 1, [], []⟩) layF_ok mixed Tryd.func38 rfl (by kernel_rfl) rfl rfl rfl ?_
        refine ex_false (show ¬ ((0 : Int) ≠ 0) by decide) ?_
        refine ex_callM (CallsM.ren (hnx) [0] 2 rfl rfl rfl rfl) ?_
        refine ex_true (by omega) ?_
        refine ex_true (by omega) ?_
        refine ex_true (by omega) ?_
        refine ex_true (by omega) ?_
        refine ex_false (by omega) ?_
        refine ex_false (by omega) ?_
        refine ex_true (by omega) ?_
        refine ex_callM (CallsM.ren ((rfail_c s q 0 q 8)) [0] 2 rfl rfl rfl rfl) ?_
        exact ⟨rfl, by show TLe _ (.o (gD (drow (.mk _ _ _ _)))); rw [drow_mk]; exact TLe.nil4, rfl, rfl⟩
      | succ m =>
        obtain ⟨hT, -⟩ := h1 m rfl
        unfold atQ at hT
        rw [if_neg h, if_neg h', if_pos hd] at hT
        have hT : numQ s q = T := hT
        have hnu := rnumber_c s q hq hs hd
        rw [hT] at hnu
        refine fn_ruleM (C := ⟨Tryd.prog, layF, Tryd.f38.ntmps, ΓS, 1, [], []⟩) layF_ok mixed Tryd.func38 rfl (by kernel_rfl) rfl rfl rfl ?_
        refine ex_false (show ¬ ((0 : Int) ≠ 0) by decide) ?_
        refine ex_callM (CallsM.ren (hnx) [0] 2 rfl rfl rfl rfl) ?_
        refine ex_true (by omega) ?_
        refine ex_true (by omega) ?_
        refine ex_true (by omega) ?_
        refine ex_true (by omega) ?_
        refine ex_false (by omega) ?_
        refine ex_false (by omega) ?_
        refine ex_false (by omega) ?_
        refine ex_false (by omega) ?_
        refine ex_false (by omega) ?_
        refine ex_true (by omega) ?_
        refine ex_true (by omega) ?_
        cases T with
        | ok v b =>
          refine ex_callM (CallsM.ren (hnu) [0] 2 rfl rfl rfl rfl) ?_
          exact ⟨rfl, TLe.rfl, rfl, rfl⟩
        | err p e g b =>
          refine ex_callM (CallsM.ren (hnu) [0] 2 rfl rfl rfl rfl) ?_
          exact ⟨rfl, TLe.rfl, rfl, rfl⟩
    have hd : ¬ anyV s q digL = true := hd
    by_cases h4 : y = 45
    · subst h4
      cases n with
      | zero =>
        obtain rfl : T = .err q 8 zeroV q := by
          rw [← h0 rfl]; unfold atQ
          rw [if_neg h, if_neg h', if_neg hd, if_pos (e3.2 rfl)]; rfl
        refine fn_ruleM (C := ⟨Tryd.prog, layF, Tryd.f38.ntmps, ΓS, 1, [], []⟩) layF_ok mixed Tryd.func38 rfl (by kernel_rfl) rfl rfl rfl ?_
        refine ex_false (show ¬ ((0 : Int) ≠ 0) by decide) ?_
        refine ex_callM (CallsM.ren (hnx) [0] 2 rfl rfl rfl rfl) ?_
        refine ex_true (by decide) ?_
        refine ex_true (by decide) ?_
        refine ex_false (by decide) ?_
        refine ex_true (by omega) ?_
        refine ex_callM (CallsM.ren ((rfail_c s q 0 q 8)) [0] 2 rfl rfl rfl rfl) ?_
        exact ⟨rfl, by show TLe _ (.o (gD (drow (.mk _ _ _ _)))); rw [drow_mk]; exact TLe.nil4, rfl, rfl⟩
      | succ m =>
        obtain ⟨hT, -⟩ := h1 m rfl
        unfold atQ at hT
        rw [if_neg h, if_neg h', if_neg hd, if_pos (e3.2 rfl)] at hT
        have hT : Q.ok zeroV (q + 1) = T := hT
        subst hT
        have hql := at_lt (e3.2 rfl)
        refine fn_ruleM (C := ⟨Tryd.prog, layF, Tryd.f38.ntmps, ΓS, 1, [], []⟩) layF_ok mixed Tryd.func38 rfl (by kernel_rfl) rfl rfl rfl ?_
        refine ex_false (show ¬ ((0 : Int) ≠ 0) by decide) ?_
        refine ex_callM (CallsM.ren (hnx) [0] 2 rfl rfl rfl rfl) ?_
        refine ex_true (by decide) ?_
        refine ex_true (by decide) ?_
        refine ex_false (by decide) ?_
        refine ex_false (by omega) ?_
        refine ex_true (by decide) ?_
        refine ex_i64 (((q + 1 : Nat) : Int)) (by first | rfl | omega | simp) (by omega) (by omega) ?_
        exact ⟨rfl, by show TLe _ (.o (gD (drow (.mk _ _ _ _)))); rw [drow_mk]; exact TLe.nil4, rfl, rfl⟩
    by_cases hx : y = 120
    · subst hx
      cases n with
      | zero =>
        obtain rfl : T = .err q 8 zeroV q := by
          rw [← h0 rfl]; unfold atQ
          rw [if_neg h, if_neg h', if_neg hd, if_neg (fun h => h4 (e3.1 h)), if_pos (e4.2 rfl)]; rfl
        refine fn_ruleM (C := ⟨Tryd.prog, layF, Tryd.f38.ntmps, ΓS, 1, [], []⟩) layF_ok mixed Tryd.func38 rfl (by kernel_rfl) rfl rfl rfl ?_
        refine ex_false (show ¬ ((0 : Int) ≠ 0) by decide) ?_
        refine ex_callM (CallsM.ren (hnx) [0] 2 rfl rfl rfl rfl) ?_
        refine ex_true (by decide) ?_
        refine ex_true (by decide) ?_
        refine ex_true (by decide) ?_
        refine ex_false (by decide) ?_
        refine ex_true (by omega) ?_
        refine ex_callM (CallsM.ren ((rfail_c s q 0 q 8)) [0] 2 rfl rfl rfl rfl) ?_
        exact ⟨rfl, by show TLe _ (.o (gD (drow (.mk _ _ _ _)))); rw [drow_mk]; exact TLe.nil4, rfl, rfl⟩
      | succ m =>
        obtain ⟨hT, -⟩ := h1 m rfl
        unfold atQ at hT
        rw [if_neg h, if_neg h', if_neg hd, if_neg (fun h => h4 (e3.1 h)), if_pos (e4.2 rfl)] at hT
        have hT : (bytV s (q + 1)).q = T := hT
        have hql := at_lt (e4.2 rfl)
        have hby := rbytes_c s q hql hs
        rw [hT] at hby
        refine fn_ruleM (C := ⟨Tryd.prog, layF, Tryd.f38.ntmps, ΓS, 1, [], []⟩) layF_ok mixed Tryd.func38 rfl (by kernel_rfl) rfl rfl rfl ?_
        refine ex_false (show ¬ ((0 : Int) ≠ 0) by decide) ?_
        refine ex_callM (CallsM.ren (hnx) [0] 2 rfl rfl rfl rfl) ?_
        refine ex_true (by decide) ?_
        refine ex_true (by decide) ?_
        refine ex_true (by decide) ?_
        refine ex_false (by decide) ?_
        refine ex_false (by omega) ?_
        refine ex_false (by decide) ?_
        refine ex_true (by decide) ?_
        cases T with
        | ok v b =>
          refine ex_callM (CallsM.ren (hby) [0] 2 rfl rfl rfl rfl) ?_
          exact ⟨rfl, TLe.rfl, rfl, rfl⟩
        | err p e g b =>
          refine ex_callM (CallsM.ren (hby) [0] 2 rfl rfl rfl rfl) ?_
          exact ⟨rfl, TLe.rfl, rfl, rfl⟩
    have hT : T = .err q 4 zeroV q := by
      cases n with
      | zero =>
        rw [← h0 rfl]; unfold atQ
        rw [if_neg h, if_neg h', if_neg hd, if_neg (fun h => h4 (e3.1 h)), if_neg (fun h => hx (e4.1 h))]
      | succ m =>
        rw [← (h1 m rfl).1]; unfold atQ
        rw [if_neg h, if_neg h', if_neg hd, if_neg (fun h => h4 (e3.1 h)), if_neg (fun h => hx (e4.1 h))]
    subst hT
    rw [han] at hd
    refine fn_ruleM (C := ⟨Tryd.prog, layF, Tryd.f38.ntmps, ΓS, 1, [], []⟩) layF_ok mixed Tryd.func38 rfl (by kernel_rfl) rfl rfl rfl ?_
    refine ex_false (show ¬ ((0 : Int) ≠ 0) by decide) ?_
    refine ex_callM (CallsM.ren (hnx) [0] 2 rfl rfl rfl rfl) ?_
    refine ex_true (fun h2 => h (e1.2 ((u 91).1 h2))) ?_
    refine ex_true (fun h2 => h' (e2.2 ((u 123).1 h2))) ?_
    refine ex_true (fun h2 => h4 ((u 45).1 h2)) ?_
    refine ex_true (fun h2 => hx ((u 120).1 h2)) ?_
    refine ex_dec (fun h5 => ?_) (fun h5 => ?_)
    ·
      refine ex_callM (CallsM.ren ((rfail_c s q 0 q 4)) [0] 2 rfl rfl rfl rfl) ?_
      exact ⟨rfl, by show TLe _ (.o (gD (drow (.mk _ _ _ _)))); rw [drow_mk]; exact TLe.nil4, rfl, rfl⟩
    · refine ex_true (by omega) ?_
      refine ex_callM (CallsM.ren ((rfail_c s q 0 q 4)) [0] 2 rfl rfl rfl rfl) ?_
      exact ⟨rfl, by show TLe _ (.o (gD (drow (.mk _ _ _ _)))); rw [drow_mk]; exact TLe.nil4, rfl, rfl⟩
theorem rread_c (s : ByteArray) (hs : s.size ≤ 1073741824) : ∀ (n : Nat), n ≤ 1200 → ∀ around : Int, around + n = 1200 → ∀ a, a ≤ s.size →
    CallsM Tryd.prog ΓS 38 [(0, Sta0 s a)] 1 [.c (.ptr 0 0), c1 (di around)] (.o (gD (drow (valQ s n a).v))) [(0, (valQ s n a).st s)] []
  | 0, hn, ar, har, a, ha => rread_step s hs 0 hn ar har a ha _ (fun _ => rfl) (fun m hm => by cases hm)
  | n + 1, hn, ar, har, a, ha => rread_step s hs (n + 1) hn ar har a ha _ (fun h => by cases h) (fun m hm => by
      obtain rfl : n = m := by omega
      exact ⟨rfl, rread_c s hs n (by omega) (ar + 1) (by omega)⟩)
end Go.Proofs.YtkeehnhamkdogaaDoor

namespace Go.Proofs.YtkeehnhamkdogaaDoor
set_option linter.unusedVariables false
set_option linter.unusedSimpArgs false
open Go.RowKit
set_option maxRecDepth 100000

theorem rParse_c (s : ByteArray) (hs : s.size ≤ 1073741824) : CallsA Tryd.prog ΓS 18 [c1 (ds s)] (.tup [gD (drow (parseV s).1), c1 (di (parseV s).2.1), c1 (di (parseV s).2.2)]) := by
  have hv := rread_c s hs 1200 (by omega) 0 (by omega) 0 (by omega)
  have hr := valQ_r s 1200 0
  have he := valQ_e s 1200 0
  have hle := valQ_le s 1200 0 (by omega)
  obtain ⟨T, hT⟩ : ∃ T, parseV s = T := ⟨_, rfl⟩
  rw [hT]
  unfold parseV at hT
  rw [← hr] at hT
  cases hq : valQ s 1200 0 with
  | err p e g b =>
    rw [hq] at hv hT hle
    have hle : b ≤ s.size + 1 + 1200 := hle
    have he := he _ _ _ _ (by omega) hq
    simp only [Q.r] at hT
    subst hT
    refine fn_rule (C := ⟨Tryd.prog, layF, Tryd.f18.ntmps, ΓS, 0, [], []⟩) layF_ok mixed Tryd.func18 rfl (by kernel_rfl) rfl rfl rfl ?_
    refine ex_callM (CallsM.ren (hv) [1] 2 rfl rfl rfl rfl) ?_
    refine ex_false he ?_
    refine ex_true he ?_
    refine ⟨by kernel_rfl, ?_⟩
    show TLe _ (.tup [gD (drow _), _, _])
    rw [drow_mk]
    exact TLe.tup1
  | ok v a =>
    rw [hq] at hv hT
    have hvo := valQ_ok s 1200 _ _ _ (by omega) hq
    simp only [Q.r] at hT
    have hn := rnext_c s a 0 0 (by omega) hs
    have hpl := passV_le s hvo.2
    refine fn_rule (C := ⟨Tryd.prog, layF, Tryd.f18.ntmps, ΓS, 0, [], []⟩) layF_ok mixed Tryd.func18 rfl (by kernel_rfl) rfl rfl rfl ?_
    refine ex_callM (CallsM.ren (hv) [1] 2 rfl rfl rfl rfl) ?_
    refine ex_true rfl ?_
    refine ex_callM (CallsM.ren (hn) [1] 3 rfl rfl rfl rfl) ?_
    refine ex_dec (fun h1 => ?_) (fun h1 => ?_)
    · rw [if_pos (by omega)] at hT
      subst hT
      refine ex_callM (CallsM.ren ((rfail_c s (passV s a) 0 (passV s a) 4)) [1] 3 rfl rfl rfl rfl) ?_
      refine ex_true (show (4 : Int) ≠ 0 by decide) ?_
      refine ⟨by kernel_rfl, ?_⟩
      show TLe _ (.tup [gD (drow _), _, _])
      rw [drow_mk]
      exact TLe.tup1
    · rw [if_neg (by omega)] at hT
      subst hT
      refine ex_false (show ¬ ((0 : Int) ≠ 0) by decide) ?_
      exact TLe.rfl
end Go.Proofs.YtkeehnhamkdogaaDoor

namespace Go.Proofs.YtkeehnhamkdogaaDoor
set_option linter.unusedVariables false
set_option linter.unusedSimpArgs false
open Go.RowKit
set_option maxRecDepth 100000

theorem lsame_c : ∀ (a b : PV), a.num ≤ 4611686018427387904 → CallsA Tryd.prog Γ0 19 [gD (drow a), gD (drow b)] (.o (c1 (db (sameP a b))))
  | .mk k n b l, .mk k' n' b' l', ha => by
    rw [PV.num] at ha
    have hll := numL_len l
    obtain ⟨R, hR⟩ : ∃ R, sameL l l' = R := ⟨_, rfl⟩
    have hs : sameP (.mk k n b l) (.mk k' n' b' l') = (decide (k = k') && decide (n = n') && decide (b = b') && R) := by rw [sameP, hR]
    have ih : ∀ i (h : i < l.length) (h' : i < l'.length), CallsA Tryd.prog Γ0 19 [gD (drow l[i]), gD (drow l'[i])] (.o (c1 (db (sameP l[i] l'[i])))) := fun i h h' => lsame_c l[i] l'[i] (by have := numL_at h; omega)
    obtain ⟨T, hT⟩ : ∃ T, sameP (.mk k n b l) (.mk k' n' b' l') = T := ⟨_, rfl⟩
    rw [hT, drow_mk, drow_mk]
    rw [hs] at hT
    refine fn_rule (C := ⟨Tryd.prog, layF, Tryd.f19.ntmps, Γ0, 0, [], []⟩) layF_ok mixed Tryd.func19 rfl (by kernel_rfl) rfl rfl rfl ?_
    refine ex_dec (fun h1 => ?_) (fun h1 => ?_)
    · exact TLe.eq (by rw [← hT, decide_eq_false h1]; rfl)
    obtain rfl : k = k' := by simpa using h1
    refine ex_dec (fun h2 => ?_) (fun h2 => ?_)
    · exact TLe.eq (by rw [← hT, decide_eq_false (show ¬ n = n' by omega), Bool.and_false]; rfl)
    obtain rfl : n = n' := by omega
    refine ex_dec (fun h3 => ?_) (fun h3 => ?_)
    · exact TLe.eq (by rw [← hT, decide_eq_false h3, Bool.and_false]; rfl)
    obtain rfl : b = b' := by simpa using h3
    refine ex_is (l.length) (by simp) ?_
    refine ex_is (l'.length) (by simp) ?_
    refine ex_dec (fun h4 => ?_) (fun h4 => ?_)
    · rw [sameL_len (by omega)] at hR
      exact TLe.eq (by rw [← hT, ← hR, Bool.and_false]; rfl)
    have hl : l.length = l'.length := by omega
    simp only [decide_true, Bool.true_and] at hT
    subst hT
    refine ex_is (l.length) (by simp) ?_
    refine ex_loop (X := Nat) (fun q => ⟨[(2, .o (.c (.ptr 0 0))), (3, .o (.c (.ptr 1 0))), (36, Ti l.length), (37, Ti q)], [(0, .obj [.d (di k), .d (du n), .d (ds b), .d (.sl 4 (l.map drow))]), (1, .obj [.d (di k), .d (du n), .d (ds b), .d (.sl 4 (l'.map drow))])], 2⟩) (fun q => l.length - q)
      (fun q => q ≤ l.length ∧ sameL (l.drop q) (l'.drop q) = R) 0 ⟨by omega, by simpa using hR⟩ (SLe.of ⟨⟨rfl, rfl, rfl, rfl, trivial⟩, ⟨rfl, rfl, trivial⟩⟩) ?_
    rintro q ⟨hq, hg⟩
    refine ex_dec (fun h5 => ?_) (fun h5 => ?_)
    · have hql : q < l.length := by omega
      have hql' : q < l'.length := by omega
      rw [List.drop_eq_getElem_cons hql, List.drop_eq_getElem_cons hql', sameL] at hg
      refine ex_row (q) _ (by first | rfl | omega | simp) (at_some (hql)) ?_
      refine ex_row (q) _ (by first | rfl | omega | simp) (at_some (hql')) ?_
      refine ex_call (ih q hql hql') ?_
      cases hsm : sameP l[q] l'[q]
      ·
        refine ⟨by kernel_rfl, ?_⟩
        rw [hsm] at hg
        exact TLe.eq (by rw [← hg]; rfl)
      ·
        refine ⟨by kernel_rfl, ?_⟩
        rw [hsm, Bool.true_and] at hg
        refine ex_i64 (((q + 1 : Nat) : Int)) (by first | rfl | omega | simp) (by omega) (by omega) ?_
        exact ex_round (q + 1) ⟨by omega, hg⟩ (by show _ - _ < _ - _; omega) (SLe.of ⟨⟨rfl, rfl, rfl, rfl, trivial⟩, ⟨rfl, rfl, trivial⟩⟩)
    · obtain rfl : q = l.length := by omega
      rw [List.drop_length, hl, List.drop_length, sameL] at hg
      exact TLe.eq (by rw [← hg]; rfl)
termination_by a => SizeOf.sizeOf a
decreasing_by
  have := List.sizeOf_lt_of_mem (List.getElem_mem h)
  simp only [PV.mk.sizeOf_spec]
  omega
end Go.Proofs.YtkeehnhamkdogaaDoor

namespace Go.Proofs.YtkeehnhamkdogaaDoor
set_option linter.unusedVariables false
set_option linter.unusedSimpArgs false
open Go.RowKit
set_option maxRecDepth 100000

/-- What reads as the one reads as the other. -/
def DLe (d d' : D) : Prop := ∀ (S : Nat → Prop) (w : World) (u : Value), Imm S w d u → Imm S w d' u
theorem DLe.rfl {d : D} : DLe d d := fun _ _ _ h => h
theorem DLe.nil {s : Nat} : DLe dnil (.sl s []) := fun _ _ _ h => by cases h; exact Imm.nil
theorem All2.flat {α β : Type} {R : α → β → Prop} : ∀ {l : List (List α)} {m : List (List β)}, All2 (All2 R) l m → All2 R l.flatten m.flatten
  | [], m, h => by obtain rfl := h.nil_left; exact .nil
  | a :: l, m, h => by
    obtain ⟨b, m', rfl, h1, h2⟩ := h.cons_left
    exact h1.append h2.flat
theorem DLe.sl {s : Nat} {rows rows' : List (List D)} (h : All2 (All2 DLe) rows rows') : DLe (.sl s rows) (.sl s rows') := fun S w u hu => by
  have hf := h.flat
  cases hu with
  | nil => obtain rfl := h.nil_left; exact Imm.nil
  | sl0 => obtain rfl := h.nil_left; exact Imm.sl0
  | sl us hs hc hr h1 h2 =>
    rw [h.len] at hc ⊢
    refine Imm.sl us hs hc (fun r hr' => ?_) (fun j d hj => ?_) (fun j d hj => ?_)
    · obtain ⟨i, hi⟩ := List.getElem?_of_mem hr'
      obtain ⟨r0, e0, e1⟩ := h.at_right hi
      rw [← e1.len]
      exact hr r0 (List.mem_of_getElem? e0)
    · obtain ⟨d0, e0, e1⟩ := hf.at_right hj
      exact h1 j d0 e0
    · obtain ⟨d0, e0, e1⟩ := hf.at_right hj
      exact e1 _ _ _ (h2 j d0 e0)
/-- A contract, met with arguments that read as its own. -/
theorem CallsA.args {P : Program} {Γ : Glob} {f : FuncId} {xs ys : List T1} {r : TV} (h : CallsA P Γ f ys r) (hx : ∀ (S : Nat → Prop) (w : World) (vs : List Value), All2 (V1 ι0 S w) xs vs → All2 (V1 ι0 S w) ys vs) : CallsA P Γ f xs r :=
  ⟨h.1, fun S w vs hS hG hv => h.2 S w vs hS hG (hx S w vs hv)⟩
theorem CallsA.arg1 {P : Program} {Γ : Glob} {f : FuncId} {d d' : D} {xs : List T1} {r : TV} (h : CallsA P Γ f (c1 d' :: xs) r) (hd : DLe d d') : CallsA P Γ f (c1 d :: xs) r :=
  h.args fun S w vs hv => by
    obtain ⟨u, vs, rfl, h1, h2⟩ := hv.cons_left
    exact .cons (hd _ _ _ h1) h2
end Go.Proofs.YtkeehnhamkdogaaDoor

namespace Go.Proofs.YtkeehnhamkdogaaDoor
set_option linter.unusedVariables false
set_option linter.unusedSimpArgs false
open Go.RowKit
set_option maxRecDepth 100000

def wakeV : PV := .mk 4 0 ⟨#[]⟩ [.mk 1 7 ⟨#[]⟩ [], .mk 2 0 ⟨#[97, 98]⟩ [], .mk 3 0 ⟨#[]⟩ []]
abbrev wakeS : ByteArray := ⟨#[123, 55, 44, 32, 120, 34, 54, 49, 54, 50, 34, 44, 32, 91, 93, 125]⟩
theorem wake_parse : parseV wakeS = (wakeV, 0, 0) := by kernel_rfl
theorem dec7 : Lib.decDigits 7 = [55] := by
  rw [Lib.decDigits, dif_pos (by omega)]
  rfl
theorem wake_good : goodP wakeV = true := by kernel_rfl
theorem wake_count : countP wakeV 1200 = 4 := by kernel_rfl
theorem wake_tx : txP wakeV = wakeS.data.toList := by
  have h7 : txP (.mk 1 7 ⟨#[]⟩ []) = [55] := by rw [txP, if_neg (by decide), if_pos rfl, dec7]
  unfold wakeV
  rw [txP, if_neg (by decide), if_neg (by decide), if_neg (by decide), if_neg (by decide), txL, h7]
  rfl
theorem wake_text : (⟨(txV wakeV).toArray⟩ : ByteArray) = wakeS := by
  unfold txV
  rw [wake_good, if_pos rfl, wake_tx]
theorem wakes_c : CallsA Tryd.prog ΓS 11 [] (Tb true) := by
  have hnum : wakeV.num ≤ 4611686018427387904 := by decide
  have hF : AllN FmtOk wakeV := by
    have h7 : FmtOk 7 := fmt_c 7 (by omega)
    simp [wakeV, AllN, AllNL, h7]
  have ht := Text_c wakeV hnum hF (by rw [wake_tx]; decide)
  rw [wake_text] at ht
  have hp := Parse_c wakeS (by decide)
  rw [wake_parse] at hp
  have he := Equal_c wakeV wakeV hnum hnum
  rw [wake_good, sameP_rfl] at he
  have hc := Count_c wakeV hnum
  rw [wake_count] at hc
  refine fn_rule (C := ⟨Tryd.prog, layF, Tryd.f11.ntmps, ΓS, 0, [], []⟩) layF_ok mixed Tryd.func11 rfl (by kernel_rfl) rfl rfl rfl ?_
  refine ex_call ((I_c 7).of0) ?_
  refine ex_call ((B_c ⟨#[97, 98]⟩).of0) ?_
  refine ex_call (((L_c []).of0.arg1 DLe.nil)) ?_
  refine ex_call ((R_c [PV.mk 1 7 ⟨#[]⟩ [], PV.mk 2 0 ⟨#[97, 98]⟩ [], PV.mk 3 0 ⟨#[]⟩ []]).of0) ?_
  refine ex_call (hp) ?_
  refine ex_call (ht) ?_
  refine ex_true rfl ?_
  refine ex_true rfl ?_
  refine ex_true rfl ?_
  refine ex_call (he.of0) ?_
  refine ex_call (hc.of0) ?_
  refine ex_true rfl ?_
  exact TLe.rfl
theorem numL_app : ∀ (l m : List PV), numL (l ++ m) = numL l + numL m
  | [], m => by simp [numL]
  | t :: ts, m => by rw [List.cons_append, numL, numL, numL_app ts m]; omega
def FN (s : ByteArray) (f : Nat → R PV) : Prop := ∀ a v b, a ≤ s.size → f a = .ok v b → v.num + a ≤ b
theorem loopV_num {s : ByteArray} {f : Nat → R PV} (hf : FOk s f) (hn : FN s f) {e : UInt8} {k : Int} {v : PV} : ∀ {n a b : Nat} {acc : List PV}, a ≤ s.size → loopV s f e k n a acc = .ok v b → v.num + a ≤ 1 + numL acc + b
  | 0, a, b, acc, _, h => by cases h
  | n + 1, a, b, acc, ha, h => by
    rw [loopV] at h
    split at h
    · cases h
    · rename_i x b' h1
      have h2 := hn _ _ _ ha h1
      have h3 := hf _ _ _ ha h1
      have h4 := passV_ge s b'
      split at h
      · cases h
        rw [PV.num, numL_app, numL, numL]; omega
      · split at h
        · cases h
        · rename_i u c h5
          obtain ⟨rfl, _, h6⟩ := must_ok h5
          have := loopV_num hf hn (by omega) h
          rw [numL_app, numL, numL] at this
          omega
theorem listV_num {s : ByteArray} {f : Nat → R PV} (hf : FOk s f) (hn : FN s f) {k : Int} {v : PV} {a b : Nat} (ha : a ≤ s.size) (h : listV s f k a = .ok v b) : v.num + a ≤ 1 + b := by
  unfold listV at h
  have := passV_ge s a
  split at h
  · cases h; rw [PV.num, numL]; omega
  · have := loopV_num hf hn (passV_le s ha) h
    rw [numL] at this; omega
theorem hexV_num {s : ByteArray} {v : PV} : ∀ {n a b : Nat} {acc : List UInt8}, hexV s n a acc = .ok v b → v.num = 1
  | 0, a, b, acc, h => by cases h
  | n + 1, a, b, acc, h => by
    rw [hexV] at h
    split at h
    · cases h; rw [PV.num, numL]
    · split at h
      · cases h
      · split at h
        · cases h
        · exact hexV_num h
theorem atV_num {s : ByteArray} {f : Nat → R PV} {d : Bool} (hf : FOk s f) (hn : FN s f) {v : PV} {a b : Nat} (ha : a ≤ s.size) (h : atV s a d f = .ok v b) : v.num + a ≤ b := by
  have ho := (atV_ok hf ha h).1
  unfold atV at h
  split at h
  · rename_i hc
    have := at_lt hc
    split at h
    · cases h
    · have := listV_num hf hn (by omega) h; omega
  · split at h
    · rename_i hc
      have := at_lt hc
      split at h
      · cases h
      · have := listV_num hf hn (by omega) h; omega
    · have key : v.num = 1 := by
        split at h
        · split at h
          · cases h
          · unfold numV at h
            split at h
            · cases h
            · split at h
              · cases h; rw [PV.num, numL]
              · cases h
        · split at h
          · split at h
            · cases h
            · cases h; rw [PV.num, numL]
          · split at h
            · split at h
              · cases h
              · unfold bytV at h
                split at h
                · cases h
                · exact hexV_num h
            · cases h
      omega
theorem valV_num (s : ByteArray) : ∀ n, FN s (valV s n)
  | 0 => fun a v b ha h => by
    rw [valV] at h
    have h1 := passV_ge s a
    have := atV_num (fun _ _ _ _ h => by cases h) (fun _ _ _ _ h => by cases h) (passV_le s ha) h
    omega
  | n + 1 => fun a v b ha h => by
    rw [valV] at h
    have h1 := passV_ge s a
    have := atV_num (valV_ok s n) (valV_num s n) (passV_le s ha) h
    omega
theorem parseV_num (s : ByteArray) : (parseV s).1.num ≤ s.size + 1 := by
  unfold parseV
  split
  · show PV.num _ ≤ _; rw [PV.num, numL]; omega
  · rename_i v a h
    split
    · show PV.num _ ≤ _; rw [PV.num, numL]; omega
    · have h1 := valV_num s 1200 _ _ _ (by omega) h
      have h2 := (valV_ok s 1200 _ _ _ (by omega) h).2
      show v.num ≤ _
      omega
theorem valueParse_c (s : ByteArray) (hs : s.size ≤ 1048576) : CallsA Tryd.prog ΓS 4 [c1 (ds s)] (Tb true) := by
  have h1 := Parse_c s (by omega)
  have h2 := rParse_c s (by omega)
  have h3 := lsame_c (parseV s).1 (parseV s).1 (by have := parseV_num s; omega)
  rw [sameP_rfl] at h3
  refine fn_rule (C := ⟨Tryd.prog, layF, Tryd.f4.ntmps, ΓS, 0, [], []⟩) layF_ok mixed Tryd.func4 rfl (by kernel_rfl) rfl rfl rfl ?_
  refine ex_call (h1) ?_
  refine ex_call (h2) ?_
  refine ex_call (wakes_c) ?_
  refine ex_call (h3.of0) ?_
  refine ex_true rfl ?_
  refine ex_true rfl ?_
  exact TLe.rfl
end Go.Proofs.YtkeehnhamkdogaaDoor

namespace Go.Proofs.YtkeehnhamkdogaaDoor
set_option linter.unusedVariables false
set_option linter.unusedSimpArgs false
open Go.RowKit
set_option maxRecDepth 100000

/-- As ΓS; build writes into a row that it is handed. -/
def ΓB : Glob := { ΓS with kr := [26] }
structure ND where
  k : Int
  n : Nat
  b : ByteArray
  kids : List Int
abbrev dint (l : List Int) : D := .sl 1 (l.map fun z => [di z])
def nrow (x : ND) : List D := [di x.k, du x.n, ds x.b, dint x.kids]
abbrev Tbl : TypeId := 4
abbrev Urow (u : List Bool) : Blk := .row 1 Tbl (u.map fun b => [db b])
def kidsV (n : Nat) (rc : Nat → List Bool → PV × List Bool) (a : Nat) : List Int → List Bool → List PV → List PV × List Bool
  | [], u, acc => (acc, u)
  | k :: ks, u, acc => if (a : Int) < k ∧ k < n ∧ u[k.toNat]? = some false then kidsV n rc a ks (rc k.toNat u).2 (acc ++ [(rc k.toNat u).1]) else kidsV n rc a ks u acc
def buildV (l : List ND) : Nat → Nat → List Bool → PV × List Bool
  | 0, _, u => (zeroV, u)
  | f + 1, a, u => match l[a]? with
    | none => (zeroV, u)
    | some x => (.mk x.k x.n x.b (kidsV l.length (buildV l f) a x.kids (u.set a true) []).1, (kidsV l.length (buildV l f) a x.kids (u.set a true) []).2)
abbrev dnodes (l : List ND) : D := .sl 4 (l.map nrow)
theorem kidsV_len {n : Nat} {rc : Nat → List Bool → PV × List Bool} {a : Nat} (hr : ∀ k u, (rc k u).2.length = u.length) : ∀ (ks : List Int) (u : List Bool) (acc : List PV), (kidsV n rc a ks u acc).2.length = u.length
  | [], u, acc => rfl
  | k :: ks, u, acc => by
    rw [kidsV]
    split
    · rw [kidsV_len hr, hr]
    · exact kidsV_len hr ks u acc
theorem buildV_len (l : List ND) : ∀ f a u, (buildV l f a u).2.length = u.length
  | 0, a, u => rfl
  | f + 1, a, u => by
    rw [buildV]
    split
    · rfl
    · show (kidsV _ _ _ _ _ _).2.length = _
      rw [kidsV_len (buildV_len l f), List.length_set]
theorem build_c (l : List ND) (hl : l.length ≤ 1048576) (hk : ∀ x ∈ l, x.kids.length ≤ 1048576) : ∀ (f a : Nat) (u : List Bool), u.length = l.length → a < l.length → l.length ≤ a + f →
    CallsM Tryd.prog ΓB 26 [(0, Urow u)] 1 [c1 (dnodes l), c1 (di a), .c (.row 0)] (.tup [gD (drow (buildV l f a u).1), gD (drow (buildV l f a u).1)]) [(0, Urow (buildV l f a u).2)] []
  | 0, a, u, hu, ha, hf => by omega
  | f + 1, a, u, hu, ha, hf => by
    have hx : l[a]? = some l[a] := at_some ha
    refine fn_ruleM (C := ⟨Tryd.prog, layF, Tryd.f26.ntmps, ΓB, 1, [], []⟩) layF_ok mixed Tryd.func26 rfl (by kernel_rfl) rfl rfl rfl ?_
    refine ex_row a l[a] rfl hx ?_
    refine ⟨by omega, by rw [List.length_map, hu]; exact ha, ?_⟩
    refine ex_at a _ (at_some (l := u) (i := a) (by omega)) ?_
    refine ex_is ((u.set a true).map fun b => [db b]) (by rw [List.map_set]; rfl) ?_
    refine ⟨by kernel_rfl, ?_⟩
    refine ex_is (l[a].kids.length) (by simp) ?_
    obtain ⟨T, hT⟩ : ∃ T, kidsV l.length (buildV l f) a l[a].kids (u.set a true) [] = T := ⟨_, rfl⟩
    have hb : buildV l (f + 1) a u = (.mk l[a].k l[a].n l[a].b T.1, T.2) := by rw [buildV, hx, ← hT]
    rw [hb]
    generalize hxd : l[a] = x at *
    refine ex_loop (X := Nat × List Bool × List PV) (fun y => ⟨[(0, .o (c1 (dnodes l))), (1, Ti a), (2, .o (.c (.row 0))), (6, .o (.c (.ptr 1 0))), (7, .o (.c (.ptr 2 0))), (9, .o (.c (.ptr 4 0))), (10, .o (.c (.ptr 5 0))), (37, .o (c1 (dint x.kids))), (38, Ti x.kids.length), (39, Ti y.1)],
        [(5, .obj [.d (di x.k), .d (du x.n), .d (ds x.b), .row 7]), (7, .row 4 30 (y.2.2.map drow)), (4, .obj [.d (di x.k), .d (du x.n), .d (ds x.b), .row 6]), (6, .row 4 Tval (y.2.2.map drow)), (0, Urow y.2.1), (1, .obj [.d (di 0), .d (du 0), .d (ds ⟨#[]⟩), .d dnil]), (2, .obj [.d (di 0), .d (du 0), .d (ds ⟨#[]⟩), .d dnil])], 8⟩) (fun y => x.kids.length - y.1)
      (fun y => y.1 ≤ x.kids.length ∧ y.2.1.length = l.length ∧ y.2.2.length ≤ y.1 ∧ kidsV l.length (buildV l f) a (x.kids.drop y.1) y.2.1 y.2.2 = T) (0, u.set a true, []) ⟨Nat.zero_le _, by rw [List.length_set]; exact hu, Nat.le_refl _, hT⟩ (SLe.trans (SLe.of ⟨⟨rfl, rfl, rfl, rfl, rfl, rfl, rfl, rfl, rfl, rfl, trivial⟩, ⟨rfl, rfl, rfl, rfl, rfl, rfl, rfl, trivial⟩⟩) (SLe.trans (SLe.ownCell 5 3 7 4 30 rfl rfl rfl rfl rfl rfl) (SLe.ownCell 4 3 6 4 Tval rfl rfl rfl rfl rfl rfl))) ?_
    rintro ⟨q, v, acc⟩ ⟨hq, hvl, hal, hg⟩
    simp only at hq hvl hal hg
    have hkx : x.kids.length ≤ 1048576 := by rw [← hxd]; exact hk _ (List.getElem_mem ha)
    refine ex_dec (fun h1 => ?_) (fun h1 => ?_)
    · have hqk : q < x.kids.length := by omega
      rw [List.drop_eq_getElem_cons hqk, kidsV] at hg
      refine ex_row (q) _ (by first | rfl | omega | simp) (at_some (hqk)) ?_
      generalize x.kids[q] = z at *
      refine ex_dec (fun h2 => ?_) (fun h2 => ?_)
      ·
        refine ex_is (l.length) (by simp) ?_
        refine ex_dec (fun h3 => ?_) (fun h3 => ?_)
        · obtain ⟨z, rfl⟩ := Int.eq_ofNat_of_zero_le (show 0 ≤ z by omega)
          have hz : z < v.length := by omega
          refine ⟨by omega, by rw [List.length_map]; show z < _; omega, ?_⟩
          refine ex_at z _ (at_some hz) ?_
          cases hvz : v[z] with
          | true =>
            rw [if_neg (by rw [Int.toNat_natCast, at_some hz, hvz]; rintro ⟨_, _, h⟩; cases h)] at hg
            refine ex_i64 (((q + 1 : Nat) : Int)) (by first | rfl | omega | simp) (by omega) (by omega) ?_
            exact ex_round (q + 1, v, acc) ⟨hqk, hvl, by show acc.length ≤ q + 1; omega, hg⟩ (by show x.kids.length - (q + 1) < x.kids.length - q; omega) (SLe.of ⟨⟨rfl, rfl, rfl, rfl, rfl, rfl, rfl, rfl, rfl, rfl, trivial⟩, ⟨rfl, rfl, rfl, rfl, rfl, rfl, rfl, trivial⟩⟩)
          | false =>
            rw [if_pos ⟨h2, h3, by rw [Int.toNat_natCast, at_some hz, hvz]⟩, Int.toNat_natCast] at hg
            have hc := build_c l hl hk f z v hvl (by omega) (by omega)
            have hbl := buildV_len l f z v
            generalize buildV l f z v = r at *
            refine ex_callM (CallsM.ren (hc) [0] 8 rfl rfl rfl rfl) ?_
            refine ex_app (acc.length) (1) 1000 (by first | rfl | (simp; done) | (simp; omega)) (by first | rfl | (simp; done) | (simp; omega)) rfl (by omega) ?_
            refine ex_is ((acc ++ [r.1]).map drow) (by rw [List.map_append]; rfl) ?_
            refine ex_app (acc.length) (1) 1000 (by first | rfl | (simp; done) | (simp; omega)) (by first | rfl | (simp; done) | (simp; omega)) rfl (by omega) ?_
            refine ex_is ((acc ++ [r.1]).map drow) (by rw [List.map_append]; rfl) ?_
            refine ⟨by kernel_rfl, ?_⟩
            refine ex_i64 (((q + 1 : Nat) : Int)) (by first | rfl | omega | simp) (by omega) (by omega) ?_
            exact ex_round (q + 1, r.2, acc ++ [r.1]) ⟨hqk, by rw [← hvl]; exact hbl, by show (acc ++ [r.1]).length ≤ q + 1; rw [List.length_append, List.length_cons, List.length_nil]; omega, hg⟩ (by show x.kids.length - (q + 1) < x.kids.length - q; omega) (SLe.ren [(0, 0), (1, 1), (2, 2), (4, 4), (5, 5), (11, 6), (13, 7)] ⟨⟨rfl, rfl⟩, ⟨rfl, rfl⟩, ⟨rfl, rfl⟩, ⟨rfl, rfl⟩, ⟨rfl, rfl⟩, ⟨rfl, rfl⟩, ⟨rfl, rfl⟩, ⟨rfl, rfl⟩, ⟨rfl, rfl⟩, ⟨rfl, rfl⟩, trivial⟩ ⟨⟨rfl, rfl⟩, ⟨rfl, rfl⟩, ⟨rfl, rfl⟩, ⟨rfl, rfl⟩, ⟨rfl, rfl⟩, ⟨rfl, rfl⟩, ⟨rfl, rfl⟩, trivial⟩ rfl)
        · rw [if_neg (fun h => h3 h.2.1)] at hg
          refine ex_i64 (((q + 1 : Nat) : Int)) (by first | rfl | omega | simp) (by omega) (by omega) ?_
          exact ex_round (q + 1, v, acc) ⟨hqk, hvl, by show acc.length ≤ q + 1; omega, hg⟩ (by show x.kids.length - (q + 1) < x.kids.length - q; omega) (SLe.of ⟨⟨rfl, rfl, rfl, rfl, rfl, rfl, rfl, rfl, rfl, rfl, trivial⟩, ⟨rfl, rfl, rfl, rfl, rfl, rfl, rfl, trivial⟩⟩)
      · rw [if_neg (fun h => h2 h.1)] at hg
        refine ex_i64 (((q + 1 : Nat) : Int)) (by first | rfl | omega | simp) (by omega) (by omega) ?_
        exact ex_round (q + 1, v, acc) ⟨hqk, hvl, by show acc.length ≤ q + 1; omega, hg⟩ (by show x.kids.length - (q + 1) < x.kids.length - q; omega) (SLe.of ⟨⟨rfl, rfl, rfl, rfl, rfl, rfl, rfl, rfl, rfl, rfl, trivial⟩, ⟨rfl, rfl, rfl, rfl, rfl, rfl, rfl, trivial⟩⟩)
    · obtain rfl : q = x.kids.length := by omega
      rw [List.drop_length, kidsV] at hg
      subst hg
      refine ⟨by kernel_rfl, ?_⟩
      exact ⟨rfl, by show TLe _ (.tup [gD (drow (.mk _ _ _ _)), gD (drow (.mk _ _ _ _))]); rw [drow_mk]; exact TLe.rfl, rfl, rfl⟩
end Go.Proofs.YtkeehnhamkdogaaDoor

namespace Go.Proofs.YtkeehnhamkdogaaDoor
set_option linter.unusedVariables false
set_option linter.unusedSimpArgs false
open Go.RowKit
set_option maxRecDepth 100000

theorem CallsA.gS {f : FuncId} {xs : List T1} {r : TV} (h : CallsA Tryd.prog ΓB f xs r) : CallsA Tryd.prog ΓS f xs r := ⟨h.1, h.2⟩
theorem TLe.tupNN {a b c a' b' c' : D} {s s' : Nat} : TLe (.tup [gD [a, b, c, dnil], gD [a', b', c', dnil]]) (.tup [gD [a, b, c, .sl s []], gD [a', b', c', .sl s' []]]) := fun ι S w v ⟨us, hu, h⟩ => by
  have h : All2 (V1 ι S w) [gD [a, b, c, dnil], gD [a', b', c', dnil]] us := h
  obtain ⟨u, us, rfl, e, h⟩ := h.cons_left
  obtain ⟨u', rfl, e'⟩ := h.one_left
  exact ⟨_, hu, .cons (TLe.nil4 ι S w u e) (.cons (TLe.nil4 ι S w u' e') .nil)⟩
def valuesV (l : List ND) : PV := if l.length = 0 then .mk 0 0 ⟨#[]⟩ [] else (buildV (l.take 60) (l.take 60).length 0 (List.replicate (l.take 60).length false)).1
theorem values_c (l : List ND) (hl : l.length ≤ 1048576) (hk : ∀ x ∈ l, x.kids.length ≤ 1048576) :
    CallsA Tryd.prog ΓS 9 [c1 (dnodes l)] (.tup [gD (drow (valuesV l)), gD (drow (valuesV l))]) := by
  refine CallsA.gS ?_
  obtain ⟨T, hT⟩ : ∃ T, valuesV l = T := ⟨_, rfl⟩
  rw [hT]
  obtain ⟨m, hm⟩ : ∃ m, l.take 60 = m := ⟨_, rfl⟩
  unfold valuesV at hT
  rw [hm] at hT
  have hml : m.length = min l.length 60 := by rw [← hm, List.length_take]; omega
  have hb : l.length ≠ 0 → CallsM Tryd.prog ΓB 26 [(0, Urow (List.replicate m.length false))] 1 [c1 (dnodes m), c1 (di (0 : Nat)), .c (.row 0)] (.tup [gD (drow T), gD (drow T)]) [(0, Urow (buildV m m.length 0 (List.replicate m.length false)).2)] [] := fun h0 => by
    rw [if_neg h0] at hT
    rw [← hT]
    exact build_c m (by omega) (fun x hx => hk x (List.mem_of_mem_take (hm ▸ hx))) m.length 0 _ (by simp) (by omega) (by omega)
  refine fn_rule (C := ⟨Tryd.prog, layF, Tryd.f9.ntmps, ΓB, 0, [], []⟩) layF_ok mixed Tryd.func9 rfl (by kernel_rfl) rfl rfl rfl ?_
  refine ex_is (l.length) (by simp) ?_
  refine ex_is ((m.length : Int)) (by rw [hml]; split <;> omega) ?_
  refine ⟨by omega, by omega, by rw [List.length_map]; omega, ?_⟩
  refine ex_is (m.map nrow) (by rw [← List.map_take, hml, ← hm, Int.toNat_natCast]; show List.drop 0 _ = _; rw [List.drop_zero, Nat.min_comm, ← List.take_eq_take_min]) ?_
  refine ex_is (m.length) (by simp) ?_
  refine ex_dec (fun h0 => ?_) (fun h0 => ?_)
  · rw [if_pos (by omega)] at hT
    subst hT
    show TLe _ (.tup [gD (drow (.mk _ _ _ _)), gD (drow (.mk _ _ _ _))])
    rw [drow_mk]
    exact TLe.tupNN
  ·
    refine ex_is (m.length) (by simp) ?_
    refine ⟨rfl, by omega, by show _ * (1 + 1) ≤ _; omega, ?_⟩
    refine ex_is ((List.replicate m.length false).map fun b => [db b]) (by simp) ?_
    refine ex_callM (CallsM.ren ((hb (by omega))) [2] 3 rfl rfl rfl rfl) ?_
    exact TLe.rfl
end Go.Proofs.YtkeehnhamkdogaaDoor
