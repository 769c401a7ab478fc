/-
A part of the proof of Ignored: lemmas and contracts. No statement of the seat is proved here.
-/
import Derived.Test.YtglfkihckkjniaaGreatDoorProg
import Derived.Laws.OwnMore
import Derived.Lib.RuneBytes
import Derived.Laws.BytesString
import Derived.Lib.DecodeNEq
import Derived.Laws.StructEq
import Derived.Lib.DecodeN
import Derived.Shelf.Strings.Builder1
import Derived.Shelf.Strings.Builder2
import Derived.Shelf.Strings.OnBuilder
import Derived.Shelf.Strings.Trim
import Derived.Shelf.Small.Utf8
import Derived.Shelf.Small.Strs
import Derived.Shelf.Small.Wraps
import Derived.Shelf.Strings.BuilderF
import Derived.Shelf.Strings.BuilderK
import Derived.Shelf.Strings.BuilderRune
import Derived.Shelf.Utf8.AppendRune
import Derived.Shelf.Utf8.RuneCount
import Derived.Shelf.Strings.Builder2Cap
import Derived.Shelf.Strings.Search1
import Derived.Shelf.Strings.Search2
import Derived.Shelf.Strings.Search3
import Derived.Shelf.Strings.Cut
import Derived.Shelf.Strings.Count
import Derived.Shelf.LaysM
import Derived.Shelf.Strings.Shaped
import Derived.Shelf.GgClosure.StringsIndexFunc
import Derived.Shelf.GgClosure.StringsTrimFunc
import Derived.Ground.GgwProg
import Derived.Shelf.GgClosure.StringsIndexFuncTop
import Derived.Shelf.GgClosure.StringsRunes
import Derived.Shelf.Strings.Prefix
import Derived.Shelf.Strings.Split
import Derived.Shelf.Strings.SplitShaped
import Derived.Shelf.Strings.Runes
import Derived.Shelf.Strings.AsciiSet
import Derived.Shelf.Bits.Mul64
import Derived.Shelf.Strings.Repeat
import Derived.Shelf.Unicode.DecodeSlow
import Derived.Shelf.Unicode.DecodeAny
import Derived.Test.YtglfkihckkjniaaGreatDoorClIgnored0
set_option maxRecDepth 100000
set_option linter.unusedVariables false
set_option linter.unusedSimpArgs false
namespace Go.Proofs.YtglfkihckkjniaaGreatDoor.Vx
open Go Go.RowKit
def T:Tbl:=[
 (1,⟨1,8,false,[.raw .nilFunc],.other⟩),
 (2,⟨1,8,false,[.int .i64 0],.int .i64⟩),
 (3,⟨1,8,false,[.int .i64 0],.int .i64⟩),
 (4,⟨1,1,false,[.ff],.bool⟩),
 (5,⟨1,1,false,[.int .u8 0],.int .u8⟩),
 (6,⟨1,1,false,[.int .u8 0],.int .u8⟩),
 (7,⟨4,24,true,[.int .i64 0,.int .i64 0,.ff,.int .u8 0],.struct [(0,1,false),(1,1,false),(2,1,false),(3,1,false)]⟩),
 (8,⟨4,24,true,[.int .i64 0,.int .i64 0,.ff,.int .u8 0],.struct [(0,1,false),(1,1,false),(2,1,false),(3,1,false)]⟩),
 (9,⟨1,16,false,[.str []],.str⟩),
 (10,⟨1,16,false,[.str []],.str⟩),
 (11,⟨1,16,false,[.str []],.str⟩),
 (12,⟨1,8,false,[.int .u64 0],.int .u64⟩),
 (13,⟨2,24,true,[.str [],.int .u64 0],.struct [(0,1,false),(1,1,false)]⟩),
 (14,⟨2,24,true,[.str [],.int .u64 0],.struct [(0,1,false),(1,1,false)]⟩),
 (15,⟨1,8,false,[.raw (.pointer none)],.other⟩),
 (16,⟨1,8,false,[.raw (.pointer none)],.other⟩),
 (17,⟨1,8,false,[.raw (.pointer none)],.other⟩),
 (18,⟨1,8,true,[.raw (.pointer none)],.struct [(0,1,false)]⟩),
 (19,⟨1,8,true,[.raw (.pointer none)],.struct [(0,1,false)]⟩),
 (20,⟨1,16,false,[.raw .nilIface],.other⟩),
 (21,⟨1,4,false,[.int .i32 0],.int .i32⟩),
 (22,⟨1,8,false,[.raw .nilFunc],.other⟩),
 (23,⟨1,24,false,[.nils],.slice 79⟩),
 (24,⟨20,232,true,[.nils,.nils,.ff,.nils,.nils,.int .i64 0,.int .i64 0,.int .i64 0,.int .i64 0,.int .i64 0,.int .i64 0,.int .i64 0,.int .i64 0,.str [],.ff,.int .i64 0,.ff,.int .i64 0,.int .i32 0,.int .i64 0],.struct [(0,1,false),(1,1,false),(2,1,false),(3,1,false),(4,1,false),(5,1,false),(6,1,false),(7,1,false),(8,1,false),(9,1,false),(10,1,false),(11,1,false),(12,1,false),(13,1,false),(14,1,false),(15,1,false),(16,1,false),(17,1,false),(18,1,false),(19,1,false)]⟩),
 (25,⟨20,232,true,[.nils,.nils,.ff,.nils,.nils,.int .i64 0,.int .i64 0,.int .i64 0,.int .i64 0,.int .i64 0,.int .i64 0,.int .i64 0,.int .i64 0,.str [],.ff,.int .i64 0,.ff,.int .i64 0,.int .i32 0,.int .i64 0],.struct [(0,1,false),(1,1,false),(2,1,false),(3,1,false),(4,1,false),(5,1,false),(6,1,false),(7,1,false),(8,1,false),(9,1,false),(10,1,false),(11,1,false),(12,1,false),(13,1,false),(14,1,false),(15,1,false),(16,1,false),(17,1,false),(18,1,false),(19,1,false)]⟩),
 (26,⟨1,8,false,[.int .i64 0],.int .i64⟩),
 (27,⟨2,16,true,[.int .i64 0,.int .i64 0],.struct [(0,1,false),(1,1,false)]⟩),
 (28,⟨2,16,true,[.int .i64 0,.int .i64 0],.struct [(0,1,false),(1,1,false)]⟩),
 (30,⟨1,8,false,[.raw .nilFunc],.other⟩),
 (31,⟨1,8,false,[.raw .nilFunc],.other⟩),
 (32,⟨1,8,false,[.raw .nilFunc],.other⟩),
 (33,⟨1,8,false,[.raw .nilFunc],.other⟩),
 (35,⟨1,8,false,[.raw .nilFunc],.other⟩),
 (36,⟨1,8,false,[.raw .nilFunc],.other⟩),
 (37,⟨1,8,false,[.raw .nilFunc],.other⟩),
 (38,⟨1,8,false,[.raw .nilFunc],.other⟩),
 (39,⟨1,8,false,[.raw .nilFunc],.other⟩),
 (40,⟨1,8,false,[.raw .nilFunc],.other⟩),
 (41,⟨1,24,false,[.nils],.slice 5⟩),
 (42,⟨1,8,false,[.raw .nilFunc],.other⟩),
 (43,⟨1,24,false,[.nils],.slice 9⟩),
 (44,⟨1,8,false,[.raw .nilFunc],.other⟩),
 (45,⟨1,8,false,[.raw .nilFunc],.other⟩),
 (46,⟨1,8,false,[.raw .nilFunc],.other⟩),
 (47,⟨1,8,false,[.raw .nilFunc],.other⟩),
 (48,⟨1,24,false,[.nils],.slice 71⟩),
 (50,⟨1,8,false,[.raw .nilFunc],.other⟩),
 (51,⟨1,8,false,[.raw .nilFunc],.other⟩),
 (52,⟨1,24,false,[.nils],.slice 57⟩),
 (54,⟨1,8,false,[.raw .nilFunc],.other⟩),
 (55,⟨1,8,false,[.raw .nilFunc],.other⟩),
 (56,⟨1,16,false,[.raw .nilIface],.other⟩),
 (57,⟨1,16,false,[.raw .nilIface],.other⟩),
 (58,⟨1,8,false,[.raw .nilFunc],.other⟩),
 (59,⟨2,16,true,[.int .i32 0,.int .i64 0],.struct [(0,1,false),(1,1,false)]⟩),
 (60,⟨2,16,true,[.int .i32 0,.int .i64 0],.struct [(0,1,false),(1,1,false)]⟩),
 (61,⟨3,24,true,[.int .i32 0,.int .i64 0,.int .i64 0],.struct [(0,2,true),(2,1,false)]⟩),
 (62,⟨3,24,true,[.int .i32 0,.int .i64 0,.int .i64 0],.struct [(0,2,true),(2,1,false)]⟩),
 (63,⟨25,304,true,[.nils,.nils,.nils,.nils,.ff,.nils,.nils,.int .i64 0,.int .i64 0,.int .i64 0,.int .i64 0,.int .i64 0,.int .i64 0,.int .i64 0,.int .i64 0,.str [],.ff,.int .i64 0,.ff,.int .i64 0,.int .i32 0,.int .i64 0,.int .i32 0,.int .i64 0,.int .i64 0],.struct [(0,1,false),(1,1,false),(2,20,true),(22,3,true)]⟩),
 (64,⟨25,304,true,[.nils,.nils,.nils,.nils,.ff,.nils,.nils,.int .i64 0,.int .i64 0,.int .i64 0,.int .i64 0,.int .i64 0,.int .i64 0,.int .i64 0,.int .i64 0,.str [],.ff,.int .i64 0,.ff,.int .i64 0,.int .i32 0,.int .i64 0,.int .i32 0,.int .i64 0,.int .i64 0],.struct [(0,1,false),(1,1,false),(2,20,true),(22,3,true)]⟩),
 (66,⟨1,8,false,[.raw .nilFunc],.other⟩),
 (67,⟨1,8,false,[.raw .nilFunc],.other⟩),
 (68,⟨1,8,false,[.raw .nilFunc],.other⟩),
 (69,⟨1,24,false,[.nils],.slice 73⟩),
 (70,⟨3,16,true,[.int .i32 0,.ff,.int .i64 0],.struct [(0,1,false),(1,1,false),(2,1,false)]⟩),
 (71,⟨3,16,true,[.int .i32 0,.ff,.int .i64 0],.struct [(0,1,false),(1,1,false),(2,1,false)]⟩),
 (72,⟨4,24,true,[.int .i32 0,.ff,.int .i64 0,.ff],.struct [(0,3,true),(3,1,false)]⟩),
 (73,⟨4,24,true,[.int .i32 0,.ff,.int .i64 0,.ff],.struct [(0,3,true),(3,1,false)]⟩),
 (74,⟨25,304,true,[.nils,.nils,.nils,.nils,.ff,.nils,.nils,.int .i64 0,.int .i64 0,.int .i64 0,.int .i64 0,.int .i64 0,.int .i64 0,.int .i64 0,.int .i64 0,.str [],.ff,.int .i64 0,.ff,.int .i64 0,.int .i32 0,.int .i64 0,.int .i64 0,.int .i32 0,.int .i64 0],.struct [(0,1,false),(1,1,false),(2,20,true),(22,1,false),(23,1,false),(24,1,false)]⟩),
 (75,⟨25,304,true,[.nils,.nils,.nils,.nils,.ff,.nils,.nils,.int .i64 0,.int .i64 0,.int .i64 0,.int .i64 0,.int .i64 0,.int .i64 0,.int .i64 0,.int .i64 0,.str [],.ff,.int .i64 0,.ff,.int .i64 0,.int .i32 0,.int .i64 0,.int .i64 0,.int .i32 0,.int .i64 0],.struct [(0,1,false),(1,1,false),(2,20,true),(22,1,false),(23,1,false),(24,1,false)]⟩),
 (77,⟨1,8,false,[.raw .nilFunc],.other⟩),
 (78,⟨2,16,true,[.int .i64 0,.int .i32 0],.struct [(0,1,false),(1,1,false)]⟩),
 (79,⟨2,16,true,[.int .i64 0,.int .i32 0],.struct [(0,1,false),(1,1,false)]⟩),
 (80,⟨1,8,false,[.raw .nilFunc],.other⟩),
 (82,⟨1,8,false,[.raw .nilFunc],.other⟩),
 (83,⟨1,8,false,[.raw .nilFunc],.other⟩),
 (84,⟨1,8,false,[.raw .nilFunc],.other⟩),
 (85,⟨1,24,false,[.nils],.slice 3⟩),
 (86,⟨1,8,false,[.raw .nilFunc],.other⟩),
 (87,⟨1,8,false,[.raw .nilFunc],.other⟩),
 (88,⟨1,8,false,[.raw .nilFunc],.other⟩),
 (89,⟨1,8,false,[.raw .nilFunc],.other⟩),
 (90,⟨5,80,true,[.str [],.str [],.str [],.str [],.str []],.arr 5 9⟩),
 (91,⟨1,24,false,[.nils],.slice 21⟩),
 (93,⟨1,8,false,[.raw .nilFunc],.other⟩),
 (95,⟨1,8,false,[.raw .nilFunc],.other⟩),
 (96,⟨1,8,false,[.raw .nilFunc],.other⟩),
 (98,⟨1,8,false,[.raw .nilFunc],.other⟩),
 (99,⟨1,24,false,[.nils],.slice 103⟩),
 (100,⟨4,64,true,[.nils,.int .i64 0,.int .i64 0,.nils],.struct [(0,1,false),(1,1,false),(2,1,false),(3,1,false)]⟩),
 (101,⟨4,64,true,[.nils,.int .i64 0,.int .i64 0,.nils],.struct [(0,1,false),(1,1,false),(2,1,false),(3,1,false)]⟩),
 (102,⟨1,16,false,[.raw .nilIface],.other⟩),
 (103,⟨1,16,false,[.raw .nilIface],.other⟩),
 (104,⟨1,8,false,[.raw .nilFunc],.other⟩),
 (105,⟨3,16,true,[.int .i32 0,.ff,.int .i64 0],.struct [(0,3,true)]⟩),
 (106,⟨3,16,true,[.int .i32 0,.ff,.int .i64 0],.struct [(0,3,true)]⟩),
 (107,⟨1,8,false,[.raw .nilFunc],.other⟩),
 (108,⟨1,8,false,[.raw .nilFunc],.other⟩),
 (109,⟨1,8,false,[.raw .nilFunc],.other⟩),
 (110,⟨5,80,true,[.int .i64 0,.nils,.nils,.str [],.int .i64 0],.struct [(0,1,false),(1,1,false),(2,1,false),(3,1,false),(4,1,false)]⟩),
 (111,⟨5,80,true,[.int .i64 0,.nils,.nils,.str [],.int .i64 0],.struct [(0,1,false),(1,1,false),(2,1,false),(3,1,false),(4,1,false)]⟩),
 (113,⟨1,8,false,[.raw .nilFunc],.other⟩),
 (115,⟨1,8,false,[.raw .nilFunc],.other⟩),
 (117,⟨1,8,false,[.raw .nilFunc],.other⟩),
 (118,⟨1,8,false,[.raw .nilFunc],.other⟩),
 (119,⟨1,8,false,[.raw .nilFunc],.other⟩),
 (120,⟨1,8,false,[.raw .nilFunc],.other⟩),
 (121,⟨1,24,false,[.nils],.slice 23⟩),
 (122,⟨1,8,false,[.raw .nilFunc],.other⟩),
 (123,⟨1,8,false,[.raw .nilFunc],.other⟩),
 (124,⟨1,8,false,[.raw .nilFunc],.other⟩),
 (125,⟨1,8,false,[.raw (.pointer none)],.other⟩),
 (126,⟨2,16,true,[.int .i32 0,.int .i64 0],.struct [(0,1,false),(1,1,false)]⟩),
 (127,⟨2,16,true,[.int .i32 0,.int .i64 0],.struct [(0,1,false),(1,1,false)]⟩),
 (128,⟨2,16,true,[.int .i32 0,.int .i64 0],.struct [(0,2,true)]⟩),
 (129,⟨2,16,true,[.int .i32 0,.int .i64 0],.struct [(0,2,true)]⟩),
 (130,⟨1,8,false,[.raw .nilFunc],.other⟩),
 (132,⟨1,8,false,[.raw .nilFunc],.other⟩),
 (133,⟨1,8,false,[.raw .nilFunc],.other⟩),
 (134,⟨1,8,false,[.raw .nilFunc],.other⟩),
 (135,⟨1,24,false,[.nils],.slice 62⟩),
 (136,⟨1,8,false,[.raw .nilFunc],.other⟩),
 (137,⟨1,8,false,[.raw (.pointer none)],.other⟩),
 (138,⟨25,288,true,[.str [],.str [],.str [],.ff,.ff,.nils,.nils,.ff,.nils,.nils,.int .i64 0,.int .i64 0,.int .i64 0,.int .i64 0,.int .i64 0,.int .i64 0,.int .i64 0,.int .i64 0,.str [],.ff,.int .i64 0,.ff,.int .i64 0,.int .i32 0,.int .i64 0],.struct [(0,1,false),(1,1,false),(2,1,false),(3,1,false),(4,1,false),(5,20,true)]⟩),
 (139,⟨25,288,true,[.str [],.str [],.str [],.ff,.ff,.nils,.nils,.ff,.nils,.nils,.int .i64 0,.int .i64 0,.int .i64 0,.int .i64 0,.int .i64 0,.int .i64 0,.int .i64 0,.int .i64 0,.str [],.ff,.int .i64 0,.ff,.int .i64 0,.int .i32 0,.int .i64 0],.struct [(0,1,false),(1,1,false),(2,1,false),(3,1,false),(4,1,false),(5,20,true)]⟩),
 (140,⟨1,8,false,[.raw .nilFunc],.other⟩),
 (141,⟨1,8,false,[.raw .nilFunc],.other⟩),
 (142,⟨1,8,false,[.raw .nilFunc],.other⟩),
 (143,⟨1,8,false,[.raw .nilFunc],.other⟩),
 (144,⟨1,24,false,[.nils],.slice 143⟩),
 (145,⟨1,8,false,[.raw .nilFunc],.other⟩),
 (146,⟨1,8,false,[.raw .nilFunc],.other⟩),
 (147,⟨1,8,false,[.raw (.pointer none)],.other⟩),
 (148,⟨2,32,true,[.raw (.pointer none),.nils],.struct [(0,1,false),(1,1,false)]⟩),
 (149,⟨2,32,true,[.raw (.pointer none),.nils],.struct [(0,1,false),(1,1,false)]⟩),
 (151,⟨1,8,false,[.raw .nilFunc],.other⟩),
 (152,⟨1,16,false,[.raw .nilIface],.other⟩),
 (153,⟨1,16,false,[.raw .nilIface],.other⟩),
 (155,⟨1,8,false,[.raw .nilFunc],.other⟩),
 (156,⟨1,8,false,[.raw .nilFunc],.other⟩),
 (157,⟨1,8,false,[.raw .nilFunc],.other⟩),
 (158,⟨1,8,false,[.raw .nilFunc],.other⟩),
 (159,⟨10,80,true,[.int .i64 0,.int .i32 0,.int .i64 0,.int .i32 0,.int .i64 0,.int .i32 0,.int .i64 0,.int .i32 0,.int .i64 0,.int .i32 0],.arr 5 79⟩),
 (161,⟨1,8,false,[.raw .nilFunc],.other⟩),
 (163,⟨1,8,false,[.raw .nilFunc],.other⟩),
 (164,⟨1,8,false,[.raw .nilFunc],.other⟩),
 (166,⟨1,8,false,[.raw .nilFunc],.other⟩),
 (167,⟨1,8,false,[.raw .nilFunc],.other⟩),
 (168,⟨1,8,false,[.raw .nilFunc],.other⟩),
 (169,⟨1,8,false,[.raw .nilFunc],.other⟩),
 (170,⟨1,8,false,[.raw .nilFunc],.other⟩),
 (171,⟨1,8,false,[.raw .nilFunc],.other⟩),
 (172,⟨1,8,false,[.raw .nilFunc],.other⟩),
 (173,⟨1,8,false,[.raw .nilFunc],.other⟩),
 (174,⟨1,8,false,[.raw .nilFunc],.other⟩),
 (175,⟨1,8,false,[.raw .nilFunc],.other⟩),
 (176,⟨1,8,false,[.raw .nilFunc],.other⟩),
 (177,⟨1,8,false,[.raw (.pointer none)],.other⟩),
 (178,⟨1,8,false,[.int .u64 0],.int .u64⟩),
 (180,⟨1,8,false,[.raw .nilFunc],.other⟩),
 (181,⟨1,8,false,[.raw .nilFunc],.other⟩),
 (183,⟨2,2,true,[.int .u8 0,.int .u8 0],.struct [(0,1,false),(1,1,false)]⟩),
 (184,⟨2,2,true,[.int .u8 0,.int .u8 0],.struct [(0,1,false),(1,1,false)]⟩),
 (185,⟨32,32,true,[.int .u8 0,.int .u8 0,.int .u8 0,.int .u8 0,.int .u8 0,.int .u8 0,.int .u8 0,.int .u8 0,.int .u8 0,.int .u8 0,.int .u8 0,.int .u8 0,.int .u8 0,.int .u8 0,.int .u8 0,.int .u8 0,.int .u8 0,.int .u8 0,.int .u8 0,.int .u8 0,.int .u8 0,.int .u8 0,.int .u8 0,.int .u8 0,.int .u8 0,.int .u8 0,.int .u8 0,.int .u8 0,.int .u8 0,.int .u8 0,.int .u8 0,.int .u8 0],.arr 16 184⟩),
 (186,⟨1,24,false,[.nils],.slice 40⟩),
 (187,⟨1,8,false,[.raw .nilFunc],.other⟩),
 (188,⟨1,8,false,[.raw .nilFunc],.other⟩),
 (189,⟨1,8,false,[.raw .nilFunc],.other⟩),
 (190,⟨1,8,false,[.raw .nilFunc],.other⟩),
 (191,⟨1,8,false,[.raw .nilFunc],.other⟩),
 (195,⟨1,8,false,[.raw .nilFunc],.other⟩),
 (196,⟨1,8,false,[.raw .nilFunc],.other⟩),
 (197,⟨1,8,false,[.raw (.pointer none)],.other⟩),
 (199,⟨1,8,false,[.raw .nilFunc],.other⟩),
 (200,⟨1,4,false,[.int .u32 0],.int .u32⟩),
 (202,⟨1,8,false,[.raw .nilFunc],.other⟩),
 (203,⟨1,8,false,[.int .u64 0],.int .u64⟩),
 (205,⟨1,8,false,[.raw .nilFunc],.other⟩),
 (206,⟨1,8,false,[.raw .nilFunc],.other⟩),
 (207,⟨1,8,false,[.raw .nilFunc],.other⟩),
 (208,⟨1,8,false,[.raw .nilFunc],.other⟩),
 (209,⟨1,8,false,[.raw .nilFunc],.other⟩),
 (210,⟨1,8,false,[.raw .nilFunc],.other⟩),
 (211,⟨1,8,false,[.raw .nilFunc],.other⟩),
 (212,⟨4,40,true,[.raw (.pointer none),.raw (.pointer none),.raw (.pointer none),.str []],.struct [(0,1,false),(1,1,false),(2,1,false),(3,1,false)]⟩),
 (213,⟨4,40,true,[.raw (.pointer none),.raw (.pointer none),.raw (.pointer none),.str []],.struct [(0,1,false),(1,1,false),(2,1,false),(3,1,false)]⟩),
 (217,⟨1,1,false,[.int .u8 0],.int .u8⟩),
 (218,⟨1,1,false,[.int .u8 0],.int .u8⟩),
 (219,⟨1,8,false,[.raw .nilFunc],.other⟩),
 (220,⟨1,4,false,[.int .i32 0],.int .i32⟩),
 (221,⟨1,4,false,[.int .i32 0],.int .i32⟩),
 (222,⟨11,48,true,[.int .u64 0,.int .u64 0,.int .u32 0,.int .u8 0,.int .u8 0,.int .u8 0,.int .u8 0,.raw .nilFunc,.raw (.pointer none),.int .i32 0,.int .i32 0],.struct [(0,1,false),(1,1,false),(2,1,false),(3,1,false),(4,1,false),(5,1,false),(6,1,false),(7,1,false),(8,1,false),(9,1,false),(10,1,false)]⟩),
 (223,⟨11,48,true,[.int .u64 0,.int .u64 0,.int .u32 0,.int .u8 0,.int .u8 0,.int .u8 0,.int .u8 0,.raw .nilFunc,.raw (.pointer none),.int .i32 0,.int .i32 0],.struct [(0,1,false),(1,1,false),(2,1,false),(3,1,false),(4,1,false),(5,1,false),(6,1,false),(7,1,false),(8,1,false),(9,1,false),(10,1,false)]⟩)]
theorem T_ok:tblOK Tryz.prog T:=by
 show T.all (tiOK Tryz.prog)=true
 kernel_rfl
end Go.Proofs.YtglfkihckkjniaaGreatDoor.Vx
namespace Go.Proofs.YtglfkihckkjniaaGreatDoor.Vx
open Go Go.RowKit
inductive Pb where
 | int (k:IntKind) (n:Int)
 | str (s:List UInt8)
inductive Pc where
 | int (k:IntKind) (n:Int)
 | bool (b:Bool)
 | str (s:List UInt8)
 | rd (l:Ls)
 | nil
 | iv (x:Iv)
 | fnv (f:Nat) (caps:List (TypeId×Pb))
 | ref (ty:TypeId) (x:Pb)
inductive PV where
 | one (x:Pc)
 | agg (l:List Pc)
 | tup (l:List (Bool×List Pc))
def Pb.sc:Pb→SC
 | .int k n=>.int k n
 | .str s=>.str s
def Pb.val:Pb→Value
 | .int k n=>.int k n
 | .str s=>.string ⟨s.toArray⟩
theorem Pb.den (x:Pb) (ρ:Env):Vx.den ρ x.sc=some x.val:=by cases x<;>rfl
inductive All2 {α β:Type} (R:α→β→Prop):List α→List β→Prop where
 | nil:All2 R [] []
 | cons {a:α} {b:β} {l:List α} {m:List β} (h:R a b) (t:All2 R l m):All2 R (a :: l) (b :: m)
theorem env_set_ne {ρ:Env} {k j:Nat} {v:Value} (h:j≠k):ρ.set k v j=ρ j:=by simp [Env.set,h]
def Reading (w:World) (B:Nat→Prop) (v:Value) (l:Ls):Prop:=∃ A c,v=.slice A l.len c∧l.len≤c∧l.len≤maxLen ∧
   (0<l.len→∃ b o,A=some ⟨b,o,none⟩∧(∀ j,j<l.len*l.sz→w.cell? ⟨b,o+j,none⟩=l.flat[j]?)∧B b)
def Cell1 (w:World) (B:Nat→Prop) (b:Nat) (c:TypeId×Pb):Prop:=w.heap[b]? = some (.cells [c.2.val].toArray c.1 (0,0))∧B b
def at0 (b:Nat):Value:=.pointer (some ⟨b,0,none⟩)
def ReadsC (w:World) (B:Nat→Prop) (v:Value):Pc→Prop
 | .int k n=>v=.int k n
 | .bool b=>v=.bool b
 | .str s=>v=.string ⟨s.toArray⟩
 | .rd l=>Reading w B v l
 | .nil=>v=.slice none 0 0
 | .iv x=>v=x.enc
 | .fnv f caps=>∃ bs:List Nat,v=.func (.func f) #[] (bs.map at0).toArray∧All2 (Cell1 w B) bs caps
 | .ref ty x=>∃ b,v=at0 b∧Cell1 w B b (ty,x)
def ReadsE (w:World) (B:Nat→Prop) (v:Value):Bool×List Pc→Prop
 | (true,l)=>∃ vs:List Value,v=.agg vs.toArray∧All2 (ReadsC w B) vs l
 | (false,[x])=>ReadsC w B v x
 | (false,_)=>False
def ReadsV (w:World) (B:Nat→Prop) (v:Value):PV→Prop
 | .one x=>ReadsC w B v x
 | .agg l=>ReadsE w B v (true,l)
 | .tup l=>∃ vs:List Value,v=.tuple vs.toArray∧All2 (ReadsE w B) vs l
theorem Reading.mono {w w':World} {B B':Nat→Prop} {v:Value} {l:Ls} (h:Reading w B v l) (hb:∀ b,B b→B' b∧(b<w.heap.size→w'.heap[b]? = w.heap[b]?)):Reading w' B' v l:=by
 obtain ⟨A,c,h1,h2,h3,h4⟩:=h
 refine ⟨A,c,h1,h2,h3,fun hn=>?_⟩
 obtain ⟨b,o,e1,e2,e3⟩:=h4 hn
 refine ⟨b,o,e1,fun j hj=>?_,(hb b e3).1⟩
 have hc:=e2 j hj
 have hlt:b<w.heap.size:=by
  have hj':j<l.flat.length:=by rw [l.flat_length]; exact hj
  rw [List.getElem?_eq_getElem hj'] at hc
  exact World.block_lt_of_cell? w _ hc
 rw [World.cell?_of_block (w:=w) (a:=⟨b,o+j,none⟩) ((hb b e3).2 hlt)]
 exact hc
theorem Cell1.mono {w w':World} {B B':Nat→Prop} {b:Nat} {c:TypeId×Pb} (h:Cell1 w B b c) (hb:∀ b,B b→B' b∧(b<w.heap.size→w'.heap[b]? = w.heap[b]?)):Cell1 w' B' b c:=by
 refine ⟨?_,(hb b h.2).1⟩
 rw [(hb b h.2).2 (Array.getElem?_eq_some_iff.1 h.1).1]
 exact h.1
theorem forall2_imp {α β:Type} {R S:α→β→Prop} (h:∀ a b,R a b→S a b):∀ {l:List α} {m:List β},All2 R l m→All2 S l m:=by
 intro l m hh
 induction hh with
 | nil=>exact .nil
 | cons h1 _ ih=>exact .cons (h _ _ h1) ih
theorem ReadsC.mono {w w':World} {B B':Nat→Prop} {v:Value} {x:Pc} (h:ReadsC w B v x) (hb:∀ b,B b→B' b∧(b<w.heap.size→w'.heap[b]? = w.heap[b]?)):ReadsC w' B' v x:=by
 cases x with
 | rd l=>exact Reading.mono h hb
 | fnv f caps =>
  obtain ⟨bs,h1,h2⟩:=h
  exact ⟨bs,h1,forall2_imp (fun _ _ hc=>hc.mono hb) h2⟩
 | ref ty x =>
  obtain ⟨b,h1,h2⟩:=h
  exact ⟨b,h1,h2.mono hb⟩
 | _=>exact h
theorem ReadsE.mono {w w':World} {B B':Nat→Prop} {v:Value} {x:Bool×List Pc} (h:ReadsE w B v x) (hb:∀ b,B b→B' b∧(b<w.heap.size→w'.heap[b]? = w.heap[b]?)):ReadsE w' B' v x:=by
 obtain ⟨b,l⟩:=x
 cases b with
 | true =>
  obtain ⟨vs,h1,h2⟩:=h
  exact ⟨vs,h1,forall2_imp (fun _ _ hc=>ReadsC.mono hc hb) h2⟩
 | false =>
  match l with
  | [x]=>exact ReadsC.mono (x:=x) h hb
  | []=>exact h
  | _ :: _ :: _=>exact h
theorem ReadsV.mono {w w':World} {B B':Nat→Prop} {v:Value} {x:PV} (h:ReadsV w B v x) (hb:∀ b,B b→B' b∧(b<w.heap.size→w'.heap[b]? = w.heap[b]?)):ReadsV w' B' v x:=by
 cases x with
 | one x=>exact ReadsC.mono h hb
 | agg l=>exact ReadsE.mono (x:=(true,l)) h hb
 | tup l =>
  obtain ⟨vs,h1,h2⟩:=h
  exact ⟨vs,h1,forall2_imp (fun _ _ hc=>ReadsE.mono hc hb) h2⟩
def conCaps:Nat→List (TypeId×Pb)→List (Nat×Nat)×List (Nat×Option SB)
 | _,[]=>([],[])
 | n,c :: l=>let r:=conCaps (n+1) l; ((n,0) :: r.1,(n,some (.ro c.1 [c.2.sc])) :: r.2)
def conC (n:Nat):Pc→SC×List (Nat×Option SB)
 | .int k x=>(.int k x,[])
 | .bool b=>(.bool b,[])
 | .str s=>(.str s,[])
 | .rd l=>(.slc n,[(n,some (.read l))])
 | .nil=>(.nils,[])
 | .iv x=>(.iv x,[])
 | .fnv f caps=>let r:=conCaps n caps; (.fn f r.1,r.2)
 | .ref ty x=>(.ptr n 0,[(n,some (.ro ty [x.sc]))])
def conL (n:Nat):List Pc→List SC×List (Nat×Option SB)
 | []=>([],[])
 | x :: l=>let a:=conC n x; let b:=conL (n+a.2.length) l; (a.1 :: b.1,a.2++b.2)
def conT (n:Nat):List (Bool×List Pc)→List (Bool×List SC)×List (Nat×Option SB)
 | []=>([],[])
 | x :: l=>let a:=conL n x.2; let b:=conT (n+a.2.length) l; ((x.1,a.1) :: b.1,a.2++b.2)
def conV (n:Nat):PV→SV×List (Nat×Option SB)
 | .one x=>let a:=conC n x; (.one a.1,a.2)
 | .agg l=>let a:=conL n l; (.agg a.1,a.2)
 | .tup l=>let a:=conT n l; (.tup a.1,a.2)
def conA (n t:Nat):List PV→List (Nat×SV)×List (Nat×Option SB)
 | []=>([],[])
 | x :: l=>let a:=conV n x; let b:=conA (n+a.2.length) (t+1) l; ((t,a.1) :: b.1,a.2++b.2)
structure Con (C:Ctx) (w:World) (n:Nat) (ρ ρ':Env) (m:List (Nat×Option SB)):Prop where
 le:ρ.le ρ'
 dom:∀ k u,ρ' k=some u→ρ k=some u∨(n≤k∧k<n+m.length∧u.oneCell'=true)
 mem:∀ k x,(k,x)∈m→n≤k∧k<n+m.length∧∃ b u,x=some b∧b.mut=false∧ρ' k=some u∧SBok C ρ' w u b
def Free (ρ:Env) (n N:Nat):Prop:=∀ k,n≤k→k<N→ρ k=none
theorem Con.nil {C:Ctx} {w:World} {n:Nat} {ρ:Env}:Con C w n ρ ρ []:=⟨Env.le_refl ρ,fun k u h=>.inl h,fun k x h=>by cases h⟩
theorem Con.free {C:Ctx} {w:World} {n N:Nat} {ρ ρ':Env} {m:List (Nat×Option SB)} (h:Con C w n ρ ρ' m) (hf:Free ρ n N):Free ρ' (n+m.length) N:=by
 intro k h1 h2
 cases hk:ρ' k with
 | none=>rfl
 | some u =>
  rcases h.dom k u hk with h3 | h3
  ·rw [hf k (by omega) h2] at h3; cases h3
  ·omega
theorem Con.trans {C:Ctx} {w:World} {n:Nat} {ρ ρ' ρ'':Env} {m m':List (Nat×Option SB)} (h:Con C w n ρ ρ' m) (h':Con C w (n+m.length) ρ' ρ'' m'):Con C w n ρ ρ'' (m++m') where
 le:=Env.le_trans h.le h'.le
 dom:=by
  intro k u hk
  rw [List.length_append]
  rcases h'.dom k u hk with h1 | ⟨h1,h2,h3⟩
  ·rcases h.dom k u h1 with h4 | ⟨h4,h5,h6⟩
   ·exact .inl h4
   ·exact .inr ⟨h4,by omega,h6⟩
  ·exact .inr ⟨by omega,by omega,h3⟩
 mem:=by
  intro k x hx
  rw [List.length_append]
  rcases List.mem_append.1 hx with hx | hx
  ·obtain ⟨h1,h2,b,u,e1,e2,e3,e4⟩:=h.mem k x hx
   exact ⟨h1,by omega,b,u,e1,e2,h'.le k u e3,e4.fr h'.le (Fr.refl (fun _=>False) w) fun _ _ h=>h⟩
  ·obtain ⟨h1,h2,h3⟩:=h'.mem k x hx
   exact ⟨by omega,by omega,h3⟩
theorem Con.one {C:Ctx} {w:World} {n:Nat} {ρ:Env} {u:Value} {b:SB} (hn:ρ n=none) (hu:u.oneCell'=true) (hm:b.mut=false) (hb:SBok C (ρ.set n u) w u b):Con C w n ρ (ρ.set n u) [(n,some b)] where
 le:=Env.set_le hn u
 dom:=by
  intro k v hk
  simp only [List.length_cons,List.length_nil]
  by_cases h:k=n
  ·subst h
   rw [Env.set_self] at hk
   cases hk
   exact .inr ⟨Nat.le_refl _,by omega,hu⟩
  ·rw [env_set_ne h] at hk
   exact .inl hk
 mem:=by
  intro k x hx
  simp only [List.mem_singleton,Prod.mk.injEq] at hx
  obtain ⟨rfl,rfl⟩:=hx
  exact ⟨Nat.le_refl _,by simp,b,u,rfl,hm,Env.set_self _ _ _,hb⟩
section
variable {C:Ctx} {w:World} {B:Nat→Prop} {N:Nat}
theorem at0_one (b:Nat):(at0 b).oneCell'=true:=rfl
theorem caps_ok (hB:∀ b,B b→C.seen b):∀ (caps:List (TypeId×Pb)) (bs:List Nat) (n:Nat) (ρ:Env),All2 (Cell1 w B) bs caps→Free ρ n N→n+(conCaps n caps).2.length≤N →
  ∃ ρ',Con C w n ρ ρ' (conCaps n caps).2∧(conCaps n caps).1.mapM (fun (p:Nat×Nat)=>denPtr ρ' p.1 p.2)=some (bs.map at0):=by
 intro caps
 induction caps with
 | nil =>
  intro bs n ρ h _ _
  cases h
  exact ⟨ρ,.nil,rfl⟩
 | cons c l ih =>
  intro bs n ρ h hf hN
  cases h with
  | @cons b _ bs' _ h1 h2 =>
   have hlen:(conCaps n (c :: l)).2.length=(conCaps (n+1) l).2.length+1:=by simp [conCaps]
   have c1:Con C w n ρ (ρ.set n (at0 b)) [(n,some (.ro c.1 [c.2.sc]))] :=
    .one (hf n (Nat.le_refl _) (by omega)) (at0_one b) rfl ⟨b,[c.2.val],rfl,by rw [denL_cons,c.2.den]; rfl,h1.1,hB b h1.2⟩
   obtain ⟨ρ',h3,h4⟩:=ih bs' (n+1) (ρ.set n (at0 b)) h2 (c1.free hf) (by omega)
   refine ⟨ρ',c1.trans h3,?_⟩
   simp only [conCaps,List.mapM_cons,h4]
   have:denPtr ρ' n 0=some (at0 b):=by
    have:=h3.le n _ (Env.set_self ρ n (at0 b))
    simp [denPtr,this,at0,baseOf]
   rw [this]; rfl
theorem conC_ok (hB:∀ b,B b→C.seen b) {x:Pc} {v:Value} {n:Nat} {ρ:Env} (h:ReadsC w B v x) (hf:Free ρ n N) (hN:n+(conC n x).2.length≤N) :
  ∃ ρ',Con C w n ρ ρ' (conC n x).2∧den ρ' (conC n x).1=some v:=by
 cases x with
 | int k i=>cases h; exact ⟨ρ,.nil,rfl⟩
 | bool b=>cases h; exact ⟨ρ,.nil,rfl⟩
 | str s=>cases h; exact ⟨ρ,.nil,rfl⟩
 | nil=>cases h; exact ⟨ρ,.nil,rfl⟩
 | iv x=>cases h; exact ⟨ρ,.nil,rfl⟩
 | rd l =>
  simp only [conC,List.length_cons,List.length_nil] at hN
  refine ⟨ρ.set n v,.one (hf n (Nat.le_refl _) (by omega)) ?_ rfl ?_,Env.set_self _ _ _⟩
  ·obtain ⟨A,c,rfl,_⟩:=h; rfl
  ·exact Reading.mono h fun b hb=>⟨hB b hb,fun _=>rfl⟩
 | fnv f caps =>
  obtain ⟨bs,rfl,h2⟩:=h
  obtain ⟨ρ',h3,h4⟩:=caps_ok hB caps bs n ρ h2 hf hN
  refine ⟨ρ',h3,?_⟩
  simp only [conC,den]
  rw [h4]; rfl
 | ref ty x =>
  simp only [conC,List.length_cons,List.length_nil] at hN
  obtain ⟨b,rfl,h2⟩:=h
  refine ⟨ρ.set n (at0 b),.one (hf n (Nat.le_refl _) (by omega)) rfl rfl ⟨b,[x.val],rfl,by rw [denL_cons,x.den]; rfl,h2.1,hB b h2.2⟩,?_⟩
  simp [conC,den,denPtr,Env.set_self,at0,baseOf]
theorem conL_ok (hB:∀ b,B b→C.seen b):∀ (l:List Pc) (vs:List Value) (n:Nat) (ρ:Env),All2 (ReadsC w B) vs l→Free ρ n N→n+(conL n l).2.length≤N →
  ∃ ρ',Con C w n ρ ρ' (conL n l).2∧denL ρ' (conL n l).1=some vs:=by
 intro l
 induction l with
 | nil=>intro vs n ρ h _ _; cases h; exact ⟨ρ,.nil,rfl⟩
 | cons x l ih =>
  intro vs n ρ h hf hN
  cases h with
  | @cons v _ vs' _ h1 h2 =>
   have hlen:(conL n (x :: l)).2.length=(conC n x).2.length+(conL (n+(conC n x).2.length) l).2.length:=by simp [conL]
   obtain ⟨ρ1,g1,g2⟩:=conC_ok hB h1 hf (by omega)
   obtain ⟨ρ2,g3,g4⟩:=ih vs' _ ρ1 h2 (g1.free hf) (by omega)
   exact ⟨ρ2,g1.trans g3,denL_cons_some.2 ⟨v,vs',den_le g3.le g2,g4,rfl⟩⟩
theorem conT_ok (hB:∀ b,B b→C.seen b):∀ (l:List (Bool×List Pc)) (vs:List Value) (n:Nat) (ρ:Env),All2 (ReadsE w B) vs l→Free ρ n N→n+(conT n l).2.length≤N →
  ∃ ρ',Con C w n ρ ρ' (conT n l).2∧(conT n l).1.mapM (denC ρ')=some vs:=by
 intro l
 induction l with
 | nil=>intro vs n ρ h _ _; cases h; exact ⟨ρ,.nil,rfl⟩
 | cons x l ih =>
  intro vs n ρ h hf hN
  cases h with
  | @cons v _ vs' _ h1 h2 =>
   have hlen:(conT n (x :: l)).2.length=(conL n x.2).2.length+(conT (n+(conL n x.2).2.length) l).2.length:=by simp [conT]
   obtain ⟨b,xl⟩:=x
   have first:∃ ρ1,Con C w n ρ ρ1 (conL n xl).2∧denC ρ1 (b,(conL n xl).1)=some v:=by
    cases b with
    | true =>
     obtain ⟨us,rfl,hus⟩:=h1
     obtain ⟨ρ1,g1,g2⟩:=conL_ok hB xl us n ρ hus hf (by simp only at hlen; omega)
     exact ⟨ρ1,g1,by simp only [denC,g2,Option.map_some]⟩
    | false =>
     match xl with
     | []=>exact h1.elim
     | _ :: _ :: _=>exact h1.elim
     | [y] =>
      obtain ⟨ρ1,g1,g2⟩:=conL_ok hB [y] [v] n ρ (.cons h1 .nil) hf (by simp only at hlen; omega)
      refine ⟨ρ1,g1,?_⟩
      obtain ⟨v',us,e1,e2,e3⟩:=denL_cons_some.1 g2
      cases e3
      exact e1
   obtain ⟨ρ1,g1,g2⟩:=first
   obtain ⟨ρ2,g3,g4⟩:=ih vs' _ ρ1 h2 (g1.free hf) (by simp only at hlen; omega)
   refine ⟨ρ2,g1.trans g3,?_⟩
   simp only [conT,List.mapM_cons,g4,denC_le g3.le g2]
   rfl
theorem conV_ok (hB:∀ b,B b→C.seen b) {x:PV} {v:Value} {n:Nat} {ρ:Env} (h:ReadsV w B v x) (hf:Free ρ n N) (hN:n+(conV n x).2.length≤N) :
  ∃ ρ',Con C w n ρ ρ' (conV n x).2∧denV ρ' (conV n x).1=some v:=by
 cases x with
 | one x=>exact conC_ok hB h hf hN
 | agg l =>
  obtain ⟨vs,rfl,h2⟩:=h
  obtain ⟨ρ',g1,g2⟩:=conL_ok hB l vs n ρ h2 hf hN
  exact ⟨ρ',g1,by simp only [conV,denV,g2,Option.map_some]⟩
 | tup l =>
  obtain ⟨vs,rfl,h2⟩:=h
  obtain ⟨ρ',g1,g2⟩:=conT_ok hB l vs n ρ h2 hf hN
  exact ⟨ρ',g1,by simp only [conV,denV,g2,Option.map_some]⟩
theorem conA_ok (hB:∀ b,B b→C.seen b):∀ (l:List PV) (vs:List Value) (n t:Nat) (ρ:Env),All2 (ReadsV w B) vs l→Free ρ n N→n+(conA n t l).2.length≤N →
  ∃ ρ',Con C w n ρ ρ' (conA n t l).2∧∀ j x,look j (conA n t l).1=some x→∃ i v,j=t+i∧vs[i]? = some v∧denV ρ' x=some v:=by
 intro l
 induction l with
 | nil=>intro vs n t ρ h _ _; cases h; exact ⟨ρ,.nil,fun j x h=>by cases h⟩
 | cons x l ih =>
  intro vs n t ρ h hf hN
  cases h with
  | @cons v _ vs' _ h1 h2 =>
   have hlen:(conA n t (x :: l)).2.length=(conV n x).2.length+(conA (n+(conV n x).2.length) (t+1) l).2.length:=by simp [conA]
   obtain ⟨ρ1,g1,g2⟩:=conV_ok hB h1 hf (by omega)
   obtain ⟨ρ2,g3,g4⟩:=ih vs' _ (t+1) ρ1 h2 (g1.free hf) (by omega)
   refine ⟨ρ2,g1.trans g3,fun j y hy=>?_⟩
   simp only [conA,look_cons] at hy
   split at hy
   ·rename_i e
    cases hy
    exact ⟨0,v,by omega,rfl,denV_le g3.le g2⟩
   ·obtain ⟨i,u,e1,e2,e3⟩:=g4 j y hy
    exact ⟨i+1,u,by omega,by simpa using e2,e3⟩
end
end Go.Proofs.YtglfkihckkjniaaGreatDoor.Vx
namespace Go.Proofs.YtglfkihckkjniaaGreatDoor.Vx
open Go Go.RowKit
def pbOf:SC→Option Pb
 | .int k n=>some (.int k n)
 | .str s=>some (.str s)
 | _=>none
def refOf (m:Mem) (k:Nat):Option (TypeId×Pb) :=
 match m k with
 | some (.cells ty [x])=>(pbOf x).map fun p=>(ty,p)
 | some (.ro ty [x])=>(pbOf x).map fun p=>(ty,p)
 | _=>none
def absCaps (m:Mem):List (Nat×Nat)→Option (List (TypeId×Pb))
 | []=>some []
 | (k,off) :: l=>bif Nat.beq off 0 then (refOf m k).bind fun c=>(absCaps m l).map fun r=>c :: r else none
def absC (m:Mem) (t:Pc) (x:SC):Option Pc :=
 match x with
 | .int k n=>some (.int k n)
 | .bool b=>some (.bool b)
 | .tt=>some (.bool true)
 | .ff=>some (.bool false)
 | .str s=>some (.str s)
 | .slc k =>
  match m k with
  | some (.read l)=>some (.rd l)
  | some (.row _ l)=>some (.rd l)
  | some (.lit _ n cs) =>
   match t with
   | .rd l=>bif Nat.beq cs.length (n*l.sz) && Nat.ble n 1000000 then (snocs l.sz n cs l.emptyOf).map fun l'=>.rd l' else none
   | _=>none
  | _=>none
 | .nils =>
  match t with
  | .rd l=>some (.rd l.emptyOf)
  | _=>some .nil
 | .iv x=>some (.iv x)
 | .fn f caps=>(absCaps m caps).map fun r=>.fnv f r
 | .ptr k off=>bif Nat.beq off 0 then (refOf m k).map fun c=>.ref c.1 c.2 else none
 | _=>none
def absL (m:Mem):List Pc→List SC→Option (List Pc)
 | _,[]=>some []
 | [],x :: l=>(absC m .nil x).bind fun p=>(absL m [] l).map fun r=>p :: r
 | t :: ts,x :: l=>(absC m t x).bind fun p=>(absL m ts l).map fun r=>p :: r
def absT (m:Mem):List (Bool×List Pc)→List (Bool×List SC)→Option (List (Bool×List Pc))
 | _,[]=>some []
 | [],x :: l=>(absL m [] x.2).bind fun p=>(absT m [] l).map fun r=>(x.1,p) :: r
 | t :: ts,x :: l=>(absL m t.2 x.2).bind fun p=>(absT m ts l).map fun r=>(x.1,p) :: r
def absV (m:Mem) (t:PV) (x:SV):Option PV :=
 match x with
 | .one x=>(absC m (match t with | .one t=>t | _=>.nil) x).map .one
 | .agg l=>(absL m (match t with | .agg t=>t | _=>[]) l).map .agg
 | .tup l=>(absT m (match t with | .tup t=>t | _=>[]) l).map .tup
def absA (m:Mem):List PV→List SV→Option (List PV)
 | _,[]=>some []
 | [],x :: l=>(absV m (.tup []) x).bind fun p=>(absA m [] l).map fun r=>p :: r
 | t :: ts,x :: l=>(absV m t x).bind fun p=>(absA m ts l).map fun r=>p :: r
def namesA:List SV→List Nat
 | []=>[]
 | x :: l=>namesSV x++namesA l
section
variable {C:Ctx} {ρ:Env} {S:AS} {a:Act} {w:World} {m:Mem} {B:Nat→Prop}
def Covers (ρ:Env) (S:AS) (B:Nat→Prop) (ns:List Nat):Prop:=∀ k∈ns,∀ b u,S.blk k=some b→ρ k=some u→∀ g,foot u b=some g→B g
theorem pbOf_den {x:SC} {p:Pb} (h:pbOf x=some p):den ρ x=some p.val:=by
 cases x<;>cases h<;>rfl
theorem refOf_ok (h:Sat C ρ S a w) (hm:∀ k b,m k=some b→S.blk k=some b) {k:Nat} {c:TypeId×Pb} (hc:refOf m k=some c) (hB:Covers ρ S B [k]) :
  ∃ u b,ρ k=some u∧baseOf u=some b∧Cell1 w B b c:=by
 unfold refOf at hc
 have key:∀ (sb:SB) (ty:TypeId) (x:SC),S.blk k=some sb→(sb=.cells ty [x]∨sb=.ro ty [x])→(pbOf x).map (fun p=>(ty,p))=some c→∃ u b,ρ k=some u∧baseOf u=some b∧Cell1 w B b c:=by
  intro sb ty x hb hs hx
  rw [Option.map_eq_some_iff] at hx
  obtain ⟨p,hp,rfl⟩:=hx
  obtain ⟨u,hu,hok⟩:=h.mem k sb hb
  have hf:foot u sb=blockOf u:=by rcases hs with rfl | rfl<;>rfl
  have:∃ b vs,baseOf u=some b∧denL ρ [x]=some vs∧w.heap[b]? = some (.cells vs.toArray ty (0,0)):=by
   rcases hs with rfl | rfl
   ·obtain ⟨b,vs,h1,h2,h3,_⟩:=hok; exact ⟨b,vs,h1,h2,h3⟩
   ·obtain ⟨b,vs,h1,h2,h3,_⟩:=hok; exact ⟨b,vs,h1,h2,h3⟩
  obtain ⟨b,vs,h1,h2,h3⟩:=this
  obtain ⟨v,us,e1,e2,e3⟩:=denL_cons_some.1 h2
  rw [pbOf_den hp] at e1
  cases e1
  cases e2
  subst e3
  exact ⟨u,b,hu,h1,h3,hB k (by simp) sb u hb hu b (by rw [hf]; exact blockOf_base h1)⟩
 split at hc
 ·rename_i ty x hmk; exact key _ ty x (hm k _ hmk) (.inl rfl) hc
 ·rename_i ty x hmk; exact key _ ty x (hm k _ hmk) (.inr rfl) hc
 ·cases hc
theorem absCaps_ok (h:Sat C ρ S a w) (hm:∀ k b,m k=some b→S.blk k=some b):∀ {l:List (Nat×Nat)} {r:List (TypeId×Pb)} {vs:List Value},absCaps m l=some r→Covers ρ S B (l.map (·.1))→l.mapM (fun (p:Nat×Nat)=>denPtr ρ p.1 p.2)=some vs →
  ∃ bs:List Nat,vs=bs.map at0∧All2 (Cell1 w B) bs r:=by
 intro l
 induction l with
 | nil=>intro r vs hr _ hv; cases hr; cases hv; exact ⟨[],rfl,.nil⟩
 | cons x l ih =>
  obtain ⟨k,off⟩:=x
  intro r vs hr hB hv
  unfold absCaps at hr
  cases ho:Nat.beq off 0 with
  | false=>rw [ho] at hr; cases hr
  | true =>
   have:=Nat.eq_of_beq_eq_true ho
   subst this
   rw [ho,cond_true,Option.bind_eq_some_iff] at hr
   obtain ⟨c,h1,h2⟩:=hr
   rw [Option.map_eq_some_iff] at h2
   obtain ⟨r',h3,rfl⟩:=h2
   obtain ⟨u,b,g1,g2,g3⟩:=refOf_ok h hm h1 (fun j hj=>hB j (by simp at hj; subst hj; simp))
   rw [List.mapM_cons] at hv
   have e1:denPtr ρ k 0=some (at0 b):=by simp [denPtr,g1,g2,at0]
   cases hl:l.mapM (fun (p:Nat×Nat)=>denPtr ρ p.1 p.2) with
   | none=>rw [hl] at hv; simp [e1] at hv
   | some us =>
    rw [hl] at hv
    simp [e1] at hv
    obtain ⟨bs,q1,q2⟩:=ih h3 (fun j hj=>hB j (by simp at hj ⊢; exact .inr hj)) hl
    exact ⟨b :: bs,by rw [← hv,q1]; rfl,.cons g3 q2⟩
theorem reading_of {k:Nat} {l:Ls} (hv:∃ u,ρ k=some u∧SBok C ρ w u (.read l)) {v:Value} (hk:ρ k=some v) (hB:∀ g,foot v (.read l)=some g→B g):Reading w B v l:=by
 obtain ⟨u,h1,A,c,h2,h3,h4,h5⟩:=hv
 rw [hk] at h1; cases h1
 refine ⟨A,c,h2,h3,h4,fun hn=>?_⟩
 obtain ⟨b,o,e1,e2,e3⟩:=h5 hn
 refine ⟨b,o,e1,e2,hB b ?_⟩
 simp only [foot]
 rw [if_neg (by omega),h2,e1]; rfl
theorem absC_ok (h:Sat C ρ S a w) (hm:∀ k b,m k=some b→S.blk k=some b) {t:Pc} {x:SC} {p:Pc} {v:Value} (hB:Covers ρ S B (namesSC x)) (hp:absC m t x=some p) (hv:den ρ x=some v):ReadsC w B v p:=by
 unfold absC at hp
 split at hp
 ·cases hp; cases hv; rfl
 ·cases hp; cases hv; rfl
 ·cases hp; cases hv; rfl
 ·cases hp; cases hv; rfl
 ·cases hp; cases hv; rfl
 ·rename_i k
  split at hp
  ·rename_i l hmk
   cases hp
   have hb:=hm k _ hmk
   exact reading_of (h.mem k _ hb) hv fun g hg=>hB k (by simp [namesSC]) _ v hb hv g hg
  ·rename_i ty l hmk
   cases hp
   have hb:=hm k _ hmk
   obtain ⟨u,h1,h2⟩:=h.mem k _ hb
   refine reading_of ⟨u,h1,read_of_row h2⟩ hv fun g hg=>hB k (by simp [namesSC]) _ v hb hv g ?_
   simp only [foot] at hg ⊢
   split at hg
   ·cases hg
   ·exact hg
  ·rename_i ty n cs hmk
   split at hp
   ·rename_i l
    cases hc:Nat.beq cs.length (n*l.sz) && Nat.ble n 1000000 with
    | false=>rw [hc] at hp; cases hp
    | true =>
     rw [hc,cond_true,Option.map_eq_some_iff] at hp
     obtain ⟨l',h1,rfl⟩:=hp
     simp only [Bool.and_eq_true] at hc
     have c1:=Nat.eq_of_beq_eq_true hc.1
     have c2:=Nat.le_of_ble_eq_true hc.2
     have hb:=hm k _ hmk
     obtain ⟨u,hu,b,vs,g1,g2,g3,g4⟩:=h.mem k _ hb
     have:u=v:=by simp only [den] at hv; rw [hu] at hv; exact Option.some.inj hv
     subst this
     obtain ⟨e1,e2,e3⟩:=l.emptyOf_ok
     rw [← e1] at h1
     obtain ⟨us,q1,q2,q3,q4⟩:=snocs_ok ρ n cs l.emptyOf l' h1 (by rw [e1]; omega)
     rw [e1,← c1,List.take_length,g2] at q1
     cases q1
     rw [e3,List.nil_append] at q2
     rw [e2,Nat.zero_add] at q3
     refine ⟨some ⟨b,0,none⟩,n,by rw [q3]; exact g1,by omega,by rw [q3]; simp only [maxLen]; omega,fun _=>⟨b,0,rfl,fun j hj=>?_,?_⟩⟩
     ·rw [q2,Nat.zero_add]
      simp [World.cell?,g3]
     ·exact hB k (by simp [namesSC]) _ u hb hu b (by subst g1; rfl)
   ·cases hp
  ·cases hp
 ·simp only [den,Option.some.injEq] at hv
  subst hv
  split at hp
  ·rename_i l
   cases hp
   obtain ⟨e1,e2,e3⟩:=l.emptyOf_ok
   refine ⟨none,0,by rw [e2],by omega,by omega,fun hn=>by omega⟩
  ·cases hp; rfl
 ·cases hp; cases hv; rfl
 ·rename_i f caps
  rw [Option.map_eq_some_iff] at hp
  obtain ⟨r,h1,rfl⟩:=hp
  simp only [den,Option.map_eq_some_iff] at hv
  obtain ⟨vs,h2,rfl⟩:=hv
  obtain ⟨bs,h3,h4⟩:=absCaps_ok h hm h1 hB h2
  exact ⟨bs,by rw [h3],h4⟩
 ·rename_i k off
  cases ho:Nat.beq off 0 with
  | false=>rw [ho] at hp; cases hp
  | true =>
   have:=Nat.eq_of_beq_eq_true ho
   subst this
   rw [ho,cond_true,Option.map_eq_some_iff] at hp
   obtain ⟨c,h1,rfl⟩:=hp
   obtain ⟨u,b,g1,g2,g3⟩:=refOf_ok h hm h1 hB
   simp only [den,denPtr,g1,Option.bind_some,g2,Option.map_some,Option.some.injEq] at hv
   exact ⟨b,hv.symm,g3⟩
 ·cases hp
theorem Covers.left {x y:List Nat} (h:Covers ρ S B (x++y)):Covers ρ S B x:=fun k hk=>h k (List.mem_append_left _ hk)
theorem Covers.right {x y:List Nat} (h:Covers ρ S B (x++y)):Covers ρ S B y:=fun k hk=>h k (List.mem_append_right _ hk)
theorem absL_ok (h:Sat C ρ S a w) (hm:∀ k b,m k=some b→S.blk k=some b):∀ {l:List SC} {ts p:List Pc} {vs:List Value},Covers ρ S B (namesL l)→absL m ts l=some p→denL ρ l=some vs→All2 (ReadsC w B) vs p:=by
 intro l
 induction l with
 | nil =>
  intro ts p vs _ hp hv
  cases hv
  cases ts<;>cases hp<;>exact .nil
 | cons x l ih =>
  intro ts p vs hB hp hv
  obtain ⟨v,us,e1,e2,rfl⟩:=denL_cons_some.1 hv
  have key:∃ t ts',(absC m t x).bind (fun p=>(absL m ts' l).map fun r=>p :: r)=some p:=by
   cases ts with
   | nil=>exact ⟨_,_,hp⟩
   | cons t ts=>exact ⟨_,_,hp⟩
  obtain ⟨t,ts',hp⟩:=key
  rw [Option.bind_eq_some_iff] at hp
  obtain ⟨q,h1,h2⟩:=hp
  rw [Option.map_eq_some_iff] at h2
  obtain ⟨r,h3,rfl⟩:=h2
  exact .cons (absC_ok h hm (Covers.left (y:=namesL l) hB) h1 e1) (ih (Covers.right (x:=namesSC x) hB) h3 e2)
theorem absT_ok (h:Sat C ρ S a w) (hm:∀ k b,m k=some b→S.blk k=some b):∀ {l:List (Bool×List SC)} {ts p:List (Bool×List Pc)} {vs:List Value},Covers ρ S B (namesL (l.flatMap (·.2)))→absT m ts l=some p→l.mapM (denC ρ)=some vs→All2 (ReadsE w B) vs p:=by
 intro l
 induction l with
 | nil =>
  intro ts p vs _ hp hv
  cases hv
  cases ts<;>cases hp<;>exact .nil
 | cons x l ih =>
  intro ts p vs hB hp hv
  have hnm:∀ a b:List SC,namesL (a++b)=namesL a++namesL b:=by
   intro a b
   induction a with
   | nil=>rfl
   | cons y a ih=>simp [namesL,ih]
  rw [List.flatMap_cons,hnm] at hB
  have key:∃ t ts',(absL m t x.2).bind (fun p=>(absT m ts' l).map fun r=>(x.1,p) :: r)=some p:=by
   cases ts with
   | nil=>exact ⟨_,_,hp⟩
   | cons t ts=>exact ⟨_,_,hp⟩
  obtain ⟨t,ts',hp⟩:=key
  rw [Option.bind_eq_some_iff] at hp
  obtain ⟨q,h1,h2⟩:=hp
  rw [Option.map_eq_some_iff] at h2
  obtain ⟨r,h3,rfl⟩:=h2
  rw [List.mapM_cons] at hv
  cases hx:denC ρ x with
  | none=>simp [hx] at hv
  | some v =>
   cases hl:l.mapM (denC ρ) with
   | none=>simp [hx,hl] at hv
   | some us =>
    simp [hx,hl] at hv
    subst hv
    refine .cons ?_ (ih hB.right h3 hl)
    obtain ⟨b,xl⟩:=x
    cases b with
    | true =>
     simp only [denC,Option.map_eq_some_iff] at hx
     obtain ⟨vs,g1,rfl⟩:=hx
     exact ⟨vs,rfl,absL_ok h hm hB.left h1 g1⟩
    | false =>
     match xl with
     | []=>cases hx
     | _ :: _ :: _=>cases hx
     | [y] =>
      have:denL ρ [y]=some [v]:=denL_cons_some.2 ⟨v,[],hx,rfl,rfl⟩
      have:=absL_ok h hm hB.left h1 this
      cases this with
      | cons g1 g2=>cases g2; exact g1
theorem absV_ok (h:Sat C ρ S a w) (hm:∀ k b,m k=some b→S.blk k=some b) {t p:PV} {x:SV} {v:Value} (hB:Covers ρ S B (namesSV x)) (hp:absV m t x=some p) (hv:denV ρ x=some v):ReadsV w B v p:=by
 cases x with
 | one x =>
  simp only [absV,Option.map_eq_some_iff] at hp
  obtain ⟨q,h1,rfl⟩:=hp
  exact absC_ok h hm hB h1 hv
 | agg l =>
  simp only [absV,Option.map_eq_some_iff] at hp
  obtain ⟨q,h1,rfl⟩:=hp
  simp only [denV,Option.map_eq_some_iff] at hv
  obtain ⟨vs,h2,rfl⟩:=hv
  exact ⟨vs,rfl,absL_ok h hm hB h1 h2⟩
 | tup l =>
  simp only [absV,Option.map_eq_some_iff] at hp
  obtain ⟨q,h1,rfl⟩:=hp
  simp only [denV,Option.map_eq_some_iff] at hv
  obtain ⟨vs,h2,rfl⟩:=hv
  exact ⟨vs,rfl,absT_ok h hm hB h1 h2⟩
end
end Go.Proofs.YtglfkihckkjniaaGreatDoor.Vx
namespace Go.Proofs.YtglfkihckkjniaaGreatDoor.Vx
open Go Go.RowKit
structure FSpec where
 tmpl:List PV
 spec:List PV→Option (List Prop×PV)
def Glob (Gl:List (Nat×(List Value→Prop))) (w:World):Prop:=∀ p∈Gl,∃ (cs:List Value) (ty:TypeId) (fz:Nat×Nat),w.heap[p.1]? = some (.cells cs.toArray ty fz)∧p.2 cs
structure GC (P:Program) (Gl:List (Nat×(List Value→Prop))) (C:Ctx):Prop where
 prog:C.P=P
 glob:Glob Gl C.w0
 far:∀ p∈Gl,¬ C.F p.1
theorem Glob.fr {Gl:List (Nat×(List Value→Prop))} {G:Nat→Prop} {w w':World} (h:Glob Gl w) (hw:Fr G w w') (hg:∀ p∈Gl,¬ G p.1):Glob Gl w':=by
 intro p hp
 obtain ⟨cs,ty,fz,this,hcs⟩:=h p hp
 refine ⟨cs,ty,fz,?_,hcs⟩
 rw [hw.block p.1 (Array.getElem?_eq_some_iff.1 this).1 (hg p hp)]
 exact this
theorem GC.now {P:Program} {Gl:List (Nat×(List Value→Prop))} {C:Ctx} (h:GC P Gl C) {ρ:Env} {S:AS} {a:Act} {w:World} (hs:Sat C ρ S a w):Glob Gl w:=h.glob.fr hs.frame h.far
structure Pure (P:Program) (Gl:List (Nat×(List Value→Prop))) (f:Nat) (s:FSpec):Prop where
 body:∃ fn c,P.funcs[f]? = some fn∧fn.body=some c∧(fn.name == "runtime.NumGoroutine")=false
 calls:∀ pvs p r,s.spec pvs=some (p,r)→All p→∀ (w:World) (B:Nat→Prop) (args:List Value),Glob Gl w→All2 (ReadsV w B) args pvs →
  Calls P f args.toArray w fun e w'=>∃ v,e=.returned v∧Fr (fun _=>False) w w'∧ReadsV w' (fun b=>w.heap.size≤b∨B b) v r
def eqLs:Ls→Ls→Prop
 | .toks l,.toks l'=>l=l'
 | .items l,.items l'=>l=l'
 | .ivs l,.ivs l'=>l=l'
 | .ints k l,.ints k' l'=>bif decide (k=k') then l=l' else False
 | .strs l,.strs l'=>l=l'
 | .spots l,.spots l'=>l=l'
 | .elms l,.elms l'=>l=l'
 | _,_=>False
theorem eqLs_eq {x y:Ls} (h:eqLs x y):x=y:=by
 cases x<;>cases y<;>first | exact h.elim | skip
 case ints.ints k l k' l' =>
  simp only [eqLs] at h
  by_cases hk:k=k'
  ·subst hk; simp at h; rw [h]
  ·simp [hk] at h
 all_goals exact congrArg _ h
def eqC:Pc→Pc→Prop
 | .int k n,.int k' n'=>bif decide (k=k') then n=n' else False
 | .bool b,.bool b'=>b=b'
 | .str s,.str s'=>s=s'
 | .rd l,.rd l'=>eqLs l l'
 | .nil,.nil=>True
 | .iv x,.iv y=>x=y
 | .fnv f l,.fnv f' l'=>bif Nat.beq f f' then l=l' else False
 | _,_=>False
theorem eqC_eq {x y:Pc} (h:eqC x y):x=y:=by
 cases x<;>cases y<;>first | exact h.elim | skip
 case int.int k l k' l' =>
  simp only [eqC] at h
  by_cases hk:k=k'
  ·subst hk; simp at h; rw [h]
  ·simp [hk] at h
 case rd.rd=>rw [eqLs_eq h]
 case nil.nil=>rfl
 case fnv.fnv f l f' l' =>
  simp only [eqC] at h
  cases hk:Nat.beq f f' with
  | false=>rw [hk] at h; exact h.elim
  | true =>
   rw [hk,cond_true] at h
   rw [Nat.eq_of_beq_eq_true hk,h]
 all_goals exact congrArg _ h
def eqL:List Pc→List Pc→Prop
 | [],[]=>True
 | [x],[y]=>eqC x y
 | x :: l,y :: l'=>eqC x y∧eqL l l'
 | _,_=>False
theorem eqL_eq:∀ {l l':List Pc},eqL l l'→l=l':=by
 intro l
 induction l with
 | nil=>intro l' h; cases l' with | nil=>rfl | cons _ _=>exact h.elim
 | cons x l ih =>
  intro l' h
  cases l' with
  | nil=>cases l<;>exact h.elim
  | cons y l' =>
   cases l with
   | nil =>
    cases l' with
    | nil=>rw [eqC_eq h]
    | cons _ _=>exact absurd h.2 (by simp [eqL])
   | cons z l =>
    have h2:eqC x y∧eqL (z :: l) l':=by cases l'<;>exact h
    rw [eqC_eq h2.1,ih h2.2]
def eqT:List (Bool×List Pc)→List (Bool×List Pc)→Prop
 | [],[]=>True
 | [x],[y]=>bif x.1==y.1 then eqL x.2 y.2 else False
 | x :: l,y :: l'=>bif x.1==y.1 then eqL x.2 y.2∧eqT l l' else False
 | _,_=>False
theorem eqT_eq:∀ {l l':List (Bool×List Pc)},eqT l l'→l=l':=by
 intro l
 induction l with
 | nil=>intro l' h; cases l' with | nil=>rfl | cons _ _=>exact h.elim
 | cons x l ih =>
  intro l' h
  cases l' with
  | nil=>cases l<;>exact h.elim
  | cons y l' =>
   obtain ⟨b,x⟩:=x
   obtain ⟨b',y⟩:=y
   by_cases hb:b=b'
   ·subst hb
    cases l with
    | nil =>
     cases l' with
     | nil =>
      have h2:eqL x y:=by simpa [eqT] using h
      rw [eqL_eq h2]
     | cons y2 l2 =>
      simp [eqT] at h
    | cons z l =>
     have h2:eqL x y∧eqT (z :: l) l':=by
      cases l' with
      | nil=>simp [eqT] at h
      | cons _ _=>simpa [eqT] using h
     rw [eqL_eq h2.1,ih h2.2]
   ·exfalso
    cases l<;>cases l'<;>simp [eqT,hb] at h
def eqV:PV→PV→Prop
 | .one x,.one y=>eqC x y
 | .agg l,.agg l'=>eqL l l'
 | .tup l,.tup l'=>eqT l l'
 | _,_=>False
theorem eqV_eq {x y:PV} (h:eqV x y):x=y:=by
 cases x<;>cases y<;>first | exact h.elim | skip
 ·rw [eqC_eq h]
 ·rw [eqL_eq h]
 ·rw [eqT_eq h]
def Pc.plain:Pc→Bool
 | .ref _ _=>false
 | _=>true
def PV.plain:PV→Bool
 | .one x=>x.plain
 | .agg l=>l.all Pc.plain
 | .tup l=>l.all fun x=>x.2.all Pc.plain
def pureK (k:Kit) (rs:List ResultVar) (r:PV):Ex→AS→Prop:=retK k.tbl rs fun x S'=>match absV S'.blk r x with | some r'=>eqV r' r | none=>False
def vcPure (k:Kit) (c:Code) (rs:List ResultVar) (A:Ann) (pvs:List PV) (r:PV):Prop :=
 bif Nat.ble (conA 0 0 pvs).2.length 16 && Nat.ble pvs.length k.nt then vc k c A ⟨(conA 0 0 pvs).1,(conA 0 0 pvs).2,16⟩ (pureK k rs r) else False
theorem foot_seen {C:Ctx} {ρ:Env} {w:World} {v:Value} {b:SB} (h:SBok C ρ w v b):∀ g,foot v b=some g→C.seen g:=by
 intro g hg
 cases b with
 | read l =>
  obtain ⟨A,c,h1,h2,h3,h4⟩:=h
  simp only [foot] at hg
  split at hg
  ·cases hg
  ·rename_i hn
   obtain ⟨b,o,e1,e2,e3⟩:=h4 (by omega)
   subst h1; subst e1; cases hg
   exact e3
 | ro ty cs =>
  obtain ⟨g',vs,h1,h2,h3,h4⟩:=h
  have:some g'=some g:=(blockOf_base h1).symm.trans hg
  cases this
  exact h4
 | cells ty cs=>exact .inl (h.own rfl g hg)
 | row ty l=>exact .inl (h.own rfl g hg)
 | iter s p=>exact .inl (h.own rfl g hg)
 | lit ty n cs=>exact .inl (h.own rfl g hg)
theorem all2_length {α β:Type} {R:α→β→Prop} {l:List α} {m:List β} (h:All2 R l m):l.length=m.length:=by
 induction h with
 | nil=>rfl
 | cons _ _ ih=>simp [ih]
theorem vx_pure {P:Program} {Gl:List (Nat×(List Value→Prop))} {f:Nat} {k:Kit} (fn:Func) (c:Code) (hf:P.funcs[f]? = some fn) (hb:fn.body=some c) (hn:(fn.name == "runtime.NumGoroutine")=false)
  (hm:P.follows .mixedOrders=true) (hT:tblOK P k.tbl) (hH:HookOK k.tbl (GC P Gl) k.hk) (hnt:fn.ntmps=k.nt) {s:FSpec} (A:List PV→Ann)
  (hv:∀ pvs p r,s.spec pvs=some (p,r)→All p→vcPure k c fn.results.toList (A pvs) pvs r):Pure P Gl f s:=by
 refine ⟨⟨fn,c,hf,hb,hn⟩,fun pvs p r hs hp w B args hg ha=>?_⟩
 have h:=hv pvs p r hs hp
 unfold vcPure at h
 cases hc:Nat.ble (conA 0 0 pvs).2.length 16 && Nat.ble pvs.length k.nt with
 | false=>rw [hc] at h; exact h.elim
 | true =>
  rw [hc,cond_true] at h
  simp only [Bool.and_eq_true] at hc
  have c1:=Nat.le_of_ble_eq_true hc.1
  have c2:=Nat.le_of_ble_eq_true hc.2
  have hB:∀ (C:Ctx),C.A=B→∀ b,B b→C.seen b:=fun C e b hb=>.inr (by rw [e]; exact hb)
  let C0:Ctx:=⟨P,w,fun _=>False,B,k.nt,fun _=>none⟩
  obtain ⟨ρ,g1,g2⟩:=conA_ok (C:=C0) (N:=16) (hB C0 rfl) pvs args 0 0 (fun _=>none) ha (fun _ _ _=>rfl) (by omega)
  let C:Ctx:=⟨P,w,fun _=>False,B,k.nt,ρ⟩
  have hal:=all2_length ha
  have hsat:St C ρ ⟨(conA 0 0 pvs).1,(conA 0 0 pvs).2,16⟩ { tmps:=args.toArray++Array.replicate (fn.ntmps-args.toArray.size) undef,defers:=[] } w:=by
   refine ⟨⟨Fr.refl _ _,?_,rfl,?_,fun _ _=>rfl,?_,?_,?_⟩,?_,Nat.le_refl _⟩
   ·simp [C]; omega
   ·intro j v hj
    rcases g1.dom j v hj with h1 | h1
    ·cases h1
    ·exact h1.2.2
   ·intro t x hx _
    obtain ⟨i,v,e1,e2,e3⟩:=g2 t x hx
    refine ⟨v,e3,?_⟩
    have hi:=(List.getElem?_eq_some_iff.1 e2).1
    rw [e1,Nat.zero_add,Array.getElem?_append_left (by simpa using hi)]
    simpa using e2
   ·intro j b hj
    unfold AS.blk at hj
    cases hl:look j (conA 0 0 pvs).2 with
    | none=>rw [show look j (AS.mk (conA 0 0 pvs).1 (conA 0 0 pvs).2 16).mem=none from hl] at hj; cases hj
    | some x =>
     rw [show look j (AS.mk (conA 0 0 pvs).1 (conA 0 0 pvs).2 16).mem=some x from hl] at hj
     obtain ⟨_,_,b',u,e1,e2,e3,e4⟩:=g1.mem j x (look_mem hl)
     subst e1
     cases hj
     exact ⟨u,e3,e4⟩
   ·intro j j' b b' v v' _ hj _ hmut
    exfalso
    unfold AS.blk at hj
    cases hl:look j (conA 0 0 pvs).2 with
    | none=>rw [show look j (AS.mk (conA 0 0 pvs).1 (conA 0 0 pvs).2 16).mem=none from hl] at hj; cases hj
    | some x =>
     rw [show look j (AS.mk (conA 0 0 pvs).1 (conA 0 0 pvs).2 16).mem=some x from hl] at hj
     obtain ⟨_,_,b',u,e1,e2,e3,e4⟩:=g1.mem j x (look_mem hl)
     subst e1
     cases hj
     rw [e2] at hmut; cases hmut
   ·intro j v hj
    rcases g1.dom j v hj with h1 | h1
    ·cases h1
    ·show j<16
     omega
  have hG:GC P Gl C:=⟨rfl,hg,fun _ _ h=>h⟩
  have:=vc_calls (C:=C) hm hT hH hG rfl (args:=args.toArray) hf hb (A pvs) hsat h
  refine this.mono ?_
  rintro e w' ⟨ρ',S',a',x,v,rfl,h1,h2,h3⟩
  split at h3
  ·rename_i r' hr
   have:=eqV_eq h3
   subst this
   have hrd:=absV_ok h1.sat (fun _ _ h=>h) (B:=C.seen) (fun j _ b u hb hu g hg=>by
    obtain ⟨u',e1,e2⟩:=h1.sat.mem j b hb
    rw [hu] at e1; cases e1
    exact foot_seen e2 g hg) hr h2
   refine ⟨v,rfl,h1.sat.frame,hrd.mono fun b hb=>⟨?_,fun _=>rfl⟩⟩
   rcases hb with (hb | hb) | hb
   ·exact .inl hb
   ·exact hb.elim
   ·exact .inr hb
  ·exact h3.elim
def evAll (ev:Evl):List Operand→Option (List SV)
 | []=>some []
 | x :: l=>(ev x).bind fun v=>(evAll ev l).map fun r=>v :: r
def freeze (m:Mem):List Nat→Option (List (Nat×Option SB))
 | []=>some []
 | k :: l =>
  match m k with
  | some (.read _)=>freeze m l
  | some (.ro _ _)=>freeze m l
  | some (.row _ r)=>(freeze m l).map fun z=>(k,some (.read r)) :: z
  | _=>none
def outPure (fr:Nat) (m:Mem) (xs:List SV) (ps:List Prop) (r:PV):Option Out :=
 let c:=conV fr r
 bif Nat.ble c.2.length 16 then
  match c.2 with
  | []=>some (ps,⟨c.1,[]⟩)
  | mem=>(freeze m (namesA xs)).map fun fz=>(ps,⟨c.1,mem++fz⟩)
 else none
def capSV (l:List (Nat×Nat)):List SV:=l.map fun p=>.one (.ptr p.1 p.2)
def calleeOf (ev:Evl) (x:Operand):Option (Nat×List SV) :=
 match ev x with
 | some (.one (.fn f caps))=>some (f,capSV caps)
 | _=>none
def pureHook (cs:List (Nat×FSpec)):Hook:=fun fr o ev m =>
 match o.op with
 | .call ⟨.value x,args,_⟩ =>
  (calleeOf ev x).bind fun c=>(look c.1 cs).bind fun s=>(evAll ev args.toList).bind fun xs=>(absA m s.tmpl (xs++c.2)).bind fun pvs=>(s.spec pvs).bind fun q=>outPure fr m (xs++c.2) q.1 q.2
 | _=>none
section
variable {C:Ctx} {tbl:Tbl} {ρ:Env} {S:AS} {a:Act} {w:World} {fr:Nat} {o:Oper} {ev:Evl} {m:Mem} {B:Nat→Prop}
theorem evAll_ok (H:Here C tbl ρ S a w fr o ev m):∀ {l:List Operand} {xs:List SV},evAll ev l=some xs→All2 (fun u x=>denV ρ x=some u) (l.map a.eval) xs:=by
 intro l
 induction l with
 | nil=>intro xs h; cases h; exact .nil
 | cons x l ih =>
  intro xs h
  simp only [evAll,Option.bind_eq_some_iff,Option.map_eq_some_iff] at h
  obtain ⟨v,h1,r,h2,rfl⟩:=h
  obtain ⟨u,h3,h4⟩:=H.val h1
  exact .cons (by rw [h4]; exact h3) (ih h2)
theorem absA_ok (h:Sat C ρ S a w) (hm:∀ k b,m k=some b→S.blk k=some b):∀ {l:List SV} {ts p:List PV} {vs:List Value},Covers ρ S B (namesA l)→absA m ts l=some p→All2 (fun u x=>denV ρ x=some u) vs l→All2 (ReadsV w B) vs p:=by
 intro l
 induction l with
 | nil =>
  intro ts p vs _ hp hv
  cases hv
  cases ts<;>cases hp<;>exact .nil
 | cons x l ih =>
  intro ts p vs hB hp hv
  have key:∃ t ts',(absV m t x).bind (fun p=>(absA m ts' l).map fun r=>p :: r)=some p:=by
   cases ts with
   | nil=>exact ⟨_,_,hp⟩
   | cons t ts=>exact ⟨_,_,hp⟩
  obtain ⟨t,ts',hp⟩:=key
  rw [Option.bind_eq_some_iff] at hp
  obtain ⟨q,h1,h2⟩:=hp
  rw [Option.map_eq_some_iff] at h2
  obtain ⟨r,h3,rfl⟩:=h2
  cases hv with
  | cons e1 e2=>exact .cons (absV_ok h hm (Covers.left (y:=namesA l) hB) h1 e1) (ih (Covers.right (x:=namesSV x) hB) h3 e2)
theorem freeze_ok:∀ {l:List Nat} {fz:List (Nat×Option SB)},freeze m l=some fz→(∀ k∈l,∃ b,m k=some b∧(b.mut=false∨∃ ty r,b=.row ty r∧(k,some (.read r))∈fz))∧∀ k x,(k,x)∈fz→∃ ty r,m k=some (.row ty r)∧x=some (.read r):=by
 intro l
 induction l with
 | nil=>intro fz h; cases h; exact ⟨(fun k hk=>by cases hk),fun k x hx=>by cases hx⟩
 | cons j l ih =>
  intro fz h
  unfold freeze at h
  split at h
  ·rename_i r hj
   obtain ⟨h1,h2⟩:=ih h
   refine ⟨fun k hk=>?_,h2⟩
   rcases List.mem_cons.1 hk with rfl | hk
   ·exact ⟨_,hj,.inl rfl⟩
   ·exact h1 k hk
  ·rename_i ty r hj
   obtain ⟨h1,h2⟩:=ih h
   refine ⟨fun k hk=>?_,h2⟩
   rcases List.mem_cons.1 hk with rfl | hk
   ·exact ⟨_,hj,.inl rfl⟩
   ·exact h1 k hk
  ·rename_i ty r hj
   rw [Option.map_eq_some_iff] at h
   obtain ⟨z,hz,rfl⟩:=h
   obtain ⟨h1,h2⟩:=ih hz
   refine ⟨fun k hk=>?_,fun k x hx=>?_⟩
   ·rcases List.mem_cons.1 hk with rfl | hk
    ·exact ⟨_,hj,.inr ⟨ty,r,rfl,List.mem_cons_self ..⟩⟩
    ·obtain ⟨b,e1,e2⟩:=h1 k hk
     exact ⟨b,e1,e2.imp id fun ⟨ty,r,e3,e4⟩=>⟨ty,r,e3,List.mem_cons_of_mem _ e4⟩⟩
   ·rcases List.mem_cons.1 hx with e | hx
    ·cases e; exact ⟨ty,r,hj,rfl⟩
    ·exact h2 k x hx
  ·cases h
theorem run_enter {P:Program} {f:Nat} {fn:Func} {c:Code} (hf:P.funcs[f]? = some fn) (hb:fn.body=some c) (hn:(fn.name == "runtime.NumGoroutine")=false) (args:Array Value) (w:World) :
  (callFunc f args).run P w=.ok (.enter f args) w:=by
 have hn':¬ fn.name = "runtime.NumGoroutine":=by simpa using hn
 simp [callFunc,go_sem,hf,hb,hn']
theorem sbok_seen {C C':Ctx} {ρ:Env} {w:World} {v:Value} {b:SB} (hm:b.mut=false) (h:SBok C ρ w v b) (hs:∀ g,C.seen g→C'.seen g):SBok C' ρ w v b:=by
 cases b with
 | read l =>
  obtain ⟨A,c,h1,h2,h3,h4⟩:=h
  refine ⟨A,c,h1,h2,h3,fun hn=>?_⟩
  obtain ⟨b,o,e1,e2,e3⟩:=h4 hn
  exact ⟨b,o,e1,e2,hs b e3⟩
 | ro ty cs =>
  obtain ⟨b,vs,h1,h2,h3,h4⟩:=h
  exact ⟨b,vs,h1,h2,h3,hs b h4⟩
 | _=>cases hm
theorem in_look {α:Type} {k:Nat} {x:α} {l:List (Nat×α)} (h:(k,x)∈l):look k l≠none:=by
 intro e
 obtain ⟨y,hy⟩:=look_in (List.mem_map.2 ⟨(k,x),h,rfl⟩)
 rw [e] at hy; cases hy
theorem all2_append {α β:Type} {R:α→β→Prop} {l:List α} {m:List β} {l':List α} {m':List β} (h:All2 R l m) (h':All2 R l' m'):All2 R (l++l') (m++m'):=by
 induction h with
 | nil=>exact h'
 | cons h1 _ ih=>exact .cons h1 ih
theorem capSV_den:∀ {caps:List (Nat×Nat)} {vs:List Value},caps.mapM (fun (p:Nat×Nat)=>denPtr ρ p.1 p.2)=some vs→All2 (fun u x=>denV ρ x=some u) vs (capSV caps):=by
 intro caps
 induction caps with
 | nil=>intro vs h; cases h; exact .nil
 | cons p l ih =>
  intro vs h
  rw [List.mapM_cons] at h
  cases h1:denPtr ρ p.1 p.2 with
  | none=>simp [h1] at h
  | some u =>
   cases h2:l.mapM (fun (p:Nat×Nat)=>denPtr ρ p.1 p.2) with
   | none=>simp [h1,h2] at h
   | some us =>
    simp [h1,h2] at h
    subst h
    exact .cons h1 (ih h2)
theorem callee_run (H:Here C tbl ρ S a w fr o ev m) {x:Operand} {args:Array Operand} {ts:Array TypeId} (ho:o.op=.call ⟨.value x,args,ts⟩) {f:Nat} {caps:List SV} (hc:calleeOf ev x=some (f,caps)) :
  ∃ cvs,All2 (fun u x=>denV ρ x=some u) cvs caps∧(execOp a.eval o).run C.P w=(callFunc f (args.toList.map a.eval++cvs).toArray).run C.P w:=by
 unfold calleeOf at hc
 split at hc
 ·rename_i f' cs hev
  cases hc
  obtain ⟨u,h1,h2⟩:=H.val hev
  simp only [denV,den,Option.map_eq_some_iff] at h1
  obtain ⟨vs,h3,h4⟩:=h1
  refine ⟨vs,capSV_den h3,?_⟩
  unfold execOp
  simp only [ho,resolve,h2,← h4,Deferred.ofValue,Sem.run_bind,Sem.run_pure,Result.andThen_ok,invoke]
  have:(#[]++Array.map a.eval args++vs.toArray:Array Value)=(List.map a.eval args.toList++vs).toArray:=by
   apply Array.toList_inj.1
   simp
  rw [this]
 ·cases hc
theorem pure_does (H:Here C tbl ρ S a w fr o ev m) {P:Program} {Gl:List (Nat×(List Value→Prop))} (hG:GC P Gl C) {f:Nat} {s:FSpec} (hP:Pure P Gl f s) {x:Operand} {args:Array Operand} {ts:Array TypeId} (ho:o.op=.call ⟨.value x,args,ts⟩) {caps:List SV} (hc:calleeOf ev x=some (f,caps))
  {xs0 xs:List SV} (hx:evAll ev args.toList=some xs0) (hxs:xs=xs0++caps) {pvs:List PV} (ha:absA m s.tmpl xs=some pvs) {q:List Prop×PV} (hq:s.spec pvs=some q) {ps:List Prop} {e:Eff} (hout:outPure fr m xs q.1 q.2=some (ps,e)) (hp:All ps):Does C ρ S a w fr o e:=by
 obtain ⟨q1,r⟩:=q
 let B:Nat→Prop:=fun g=>∃ k b u,k∈namesA xs∧S.blk k=some b∧ρ k=some u∧foot u b=some g
 have hcov:Covers ρ S B (namesA xs):=fun k hk b u hb hu g hg=>⟨k,b,u,hk,hb,hu,hg⟩
 obtain ⟨cvs,hcv,hrun0⟩:=callee_run H ho hc
 have hargs:All2 (fun u x=>denV ρ x=some u) (args.toList.map a.eval++cvs) xs:=by rw [hxs]; exact all2_append (evAll_ok H hx) hcv
 have hreads:=absA_ok (B:=B) H.sat H.mem hcov ha hargs
 obtain ⟨⟨fn,c,hf,hb,hn⟩,hcalls⟩:=hP
 have hrun:(execOp a.eval o).run C.P w=.ok (.enter f (args.toList.map a.eval++cvs).toArray) w:=by
  rw [hrun0,hG.prog]
  exact run_enter hf hb hn _ w
 have hqp:ps=q1∧(e=⟨(conV fr r).1,[]⟩∧(conV fr r).2=[]∨∃ fz,freeze m (namesA xs)=some fz∧e=⟨(conV fr r).1,(conV fr r).2++fz⟩)∧(conV fr r).2.length≤16:=by
  unfold outPure at hout
  simp only at hout
  cases hc:Nat.ble (conV fr r).2.length 16 with
  | false=>rw [hc] at hout; cases hout
  | true =>
   rw [hc,cond_true] at hout
   split at hout
   ·rename_i hnil; cases hout; exact ⟨rfl,.inl ⟨rfl,hnil⟩,by rw [hnil]; simp⟩
   ·rw [Option.map_eq_some_iff] at hout
    obtain ⟨fz,h1,h2⟩:=hout
    cases h2
    exact ⟨rfl,.inr ⟨fz,h1,rfl⟩,Nat.le_of_ble_eq_true hc⟩
 obtain ⟨rfl,hcase,hlen⟩:=hqp
 intro K Q hK
 unfold Oper.wp
 rw [hrun,Oper.upon_enter,hG.prog]
 refine (hcalls pvs ps r hq hp w B _ (hG.now H.sat) hreads).mono ?_
 rintro en w' ⟨v,rfl,hfr,hrd⟩
 have hfrF:Fr (fun _=>False) w w':=hfr
 have hsz0:C.w0.heap.size≤w.heap.size:=H.sat.frame.size
 have hBseen:∀ b,(w.heap.size≤b∨B b)→C.seen b:=by
  rintro b (hb | ⟨k,sb,u,_,h1,h2,h3⟩)
  ·exact .inl (.inl (Nat.le_trans hsz0 hb))
  ·obtain ⟨u',e1,e2⟩:=H.sat.mem k sb h1
   rw [h2] at e1; cases e1
   exact foot_seen e2 b h3
 let C2:Ctx:=⟨C.P,w,B,fun _=>False,0,fun _=>none⟩
 have hC2:∀ g,C2.seen g→w.heap.size≤g∨B g:=by
  rintro g ((h1 | h1) | h1)
  ·exact .inl h1
  ·exact .inr h1
  ·exact h1.elim
 obtain ⟨ρ',hcon,hden⟩:=conV_ok (C:=C2) (N:=fr+16) (fun b hb=>.inl hb) hrd (n:=fr) (ρ:=ρ) (fun k h1 h2=>H.fresh k h1 h2) (by omega)
 have hdom:Dom ρ ρ' fr:=fun k u hk=>by
  rcases hcon.dom k u hk with h1 | h1
  ·exact .inl ⟨u,h1⟩
  ·exact .inr ⟨h1.1,by omega⟩
 refine hK ρ' _ w' hcon.le hdom ?_
 have hdst:e.dst=(conV fr r).1:=by
  rcases hcase with ⟨rfl,_⟩ | ⟨fz,_,rfl⟩<;>rfl
 have hnew:∀ k b,look k e.mem=some (some b)→b.mut=false∧((fr≤k∧∃ u,ρ' k=some u∧SBok C2 ρ' w' u b)∨∃ ty l,b=.read l∧m k=some (.row ty l)):=by
  intro k b hl
  rcases hcase with ⟨rfl,_⟩ | ⟨fz,h1,rfl⟩
  ·cases hl
  ·rcases List.mem_append.1 (look_mem hl) with hmem | hmem
   ·obtain ⟨g1,g2,b',u,e1,e2,e3,e4⟩:=hcon.mem k _ hmem
    cases e1
    exact ⟨e2,.inl ⟨g1,u,e3,e4⟩⟩
   ·obtain ⟨ty,l,g1,g2⟩:=(freeze_ok h1).2 k _ hmem
    cases g2
    exact ⟨rfl,.inr ⟨ty,l,rfl,g1⟩⟩
 have hold:∀ k b u,S.blk k=some b→ρ k=some u→SBok C ρ' w' u b:=fun k b u hb hu=>by
  obtain ⟨u',e1,e2⟩:=H.sat.mem k b hb
  rw [hu] at e1; cases e1
  exact e2.fr hcon.le hfrF fun _ _ h=>h
 have hnone:∀ k x,look k e.mem=some x→x≠none:=by
  intro k x hl hx
  subst hx
  rcases hcase with ⟨rfl,_⟩ | ⟨fz,h1,rfl⟩
  ·cases hl
  ·rcases List.mem_append.1 (look_mem hl) with hmem | hmem
   ·obtain ⟨g1,g2,b',u,e1,_⟩:=hcon.mem k _ hmem
    cases e1
   ·obtain ⟨ty,l,g1,g2⟩:=(freeze_ok h1).2 k _ hmem
    cases g2
 refine H.sat.step (G:=fun _=>False) o.dst e v hcon.le ?_ ?_ hfrF (fun _ h=>h.elim) (fun _ _=>by rw [hdst]; exact hden) H.dst (fun _ _ _ _ _ _ _ _ h=>h) ?_ ?_
 ·intro k u hk
  rcases hcon.dom k u hk with h1 | h1
  ·exact H.sat.one k u h1
  ·exact h1.2.2
 ·intro k hk
  cases hr:ρ k with
  | some u=>exact hcon.le k u hr
  | none =>
   cases hr':ρ' k with
   | none=>rfl
   | some u =>
    rcases hcon.dom k u hr' with h1 | h1
    ·rw [hr] at h1; cases h1
    ·have:=H.fr16; omega
 ·intro k b hl
  rcases (hnew k b hl).2 with ⟨_,u,h1,h2⟩ | ⟨ty,l,rfl,h1⟩
  ·exact ⟨u,h1,sbok_seen (hnew k b hl).1 h2 fun g hg=>hBseen g (hC2 g hg)⟩
  ·obtain ⟨u,e1,e2⟩:=H.sat.mem k _ (H.mem k _ h1)
   exact ⟨u,hcon.le k u e1,read_of_row (hold k _ u (H.mem k _ h1) e1)⟩
 ·intro k b u k' b' u' hl hu hne hk' hu' hmut
  obtain ⟨hbm,hcases⟩:=hnew k b hl
  rcases hmut with hmut | hmut
  ·rw [hbm] at hmut; cases hmut
  rcases hk' with hk' | ⟨hk1,hk2⟩
  ·rw [(hnew k' b' hk').1] at hmut; cases hmut
  obtain ⟨u1,e1,e2⟩:=H.sat.mem k' b' hk2
  have:u1=u':=by have:=hcon.le k' u1 e1; rw [hu'] at this; exact (Option.some.inj this).symm
  subst this
  rcases hcases with ⟨hkfr,u2,f1,f2⟩ | ⟨ty,l,rfl,h1⟩
  ·rw [hu] at f1; cases f1
   intro g hg hg'
   have hlt:=e2.lt g hg'
   have hrd':w.heap.size≤g∨B g:=hC2 g (foot_seen f2 g hg)
   rcases hrd' with h1 | ⟨k2,b2,u2,q1,q2,q3,q4⟩
   ·omega
   ·by_cases hk2k:k2=k'
    ·subst hk2k
     rw [hk2] at q2; cases q2
     rcases hcase with ⟨rfl,_⟩ | ⟨fz,h1,rfl⟩
     ·cases hl
     ·obtain ⟨b3,r1,r2⟩:=(freeze_ok h1).1 k2 q1
      have:=H.mem k2 b3 r1
      rw [hk2] at this; cases this
      rcases r2 with r2 | ⟨ty,rr,rfl,r3⟩
      ·rw [r2] at hmut; cases hmut
      ·exact in_look (List.mem_append_right _ r3) hk1
    ·exact H.sat.apart k' k2 b' b2 u1 u2 (Ne.symm hk2k) hk2 q2 hmut e1 q3 g hg' q4
  ·have hb:=H.mem k _ h1
   obtain ⟨u2,f1,f2⟩:=H.sat.mem k _ hb
   have:u2=u:=by have:=hcon.le k u2 f1; rw [hu] at this; exact (Option.some.inj this).symm
   subst this
   intro g hg hg'
   refine H.sat.apart k' k b' _ u1 u2 hne hk2 hb hmut e1 f1 g hg' ?_
   simp only [foot] at hg ⊢
   split at hg
   ·cases hg
   ·exact hg
theorem pureHook_ok {P:Program} {Gl:List (Nat×(List Value→Prop))} {cs:List (Nat×FSpec)} (h:∀ f s,look f cs=some s→Pure P Gl f s):HookOK tbl (GC P Gl) (pureHook cs):=by
 intro C ρ S a w fr o ev m H hG ps e hk hp
 unfold pureHook at hk
 split at hk
 ·rename_i x args ts ho
  simp only [Option.bind_eq_some_iff] at hk
  obtain ⟨c,h0,s,h1,xs,h2,pvs,h3,q,h4,h5⟩:=hk
  exact pure_does H hG (h c.1 s h1) ho h0 h2 rfl h3 h4 h5 hp
 ·cases hk
end
end Go.Proofs.YtglfkihckkjniaaGreatDoor.Vx
namespace Go.Proofs.YtglfkihckkjniaaGreatDoor.Vx
open Go Go.RowKit
abbrev Rn:=Nat→Option Nat
def mpCaps (g:Rn):List (Nat×Nat)→Option (List (Nat×Nat))
 | []=>some []
 | (k,f) :: l=>(g k).bind fun j=>(mpCaps g l).map fun r=>(j,f) :: r
def mpSC (g:Rn) (x:SC):Option SC :=
 match x with
 | .ptr k f=>(g k).map fun j=>.ptr j f
 | .slc k=>(g k).map fun j=>.slc j
 | .ept k i sz f=>(g k).map fun j=>.ept j i sz f
 | .mp k b=>(g k).map fun j=>.mp j b
 | .fn f l=>(mpCaps g l).map fun r=>.fn f r
 | .und=>none
 | x=>some x
def mpL (g:Rn):List SC→Option (List SC)
 | []=>some []
 | x :: l=>(mpSC g x).bind fun y=>(mpL g l).map fun r=>y :: r
def mpT (g:Rn):List (Bool×List SC)→Option (List (Bool×List SC))
 | []=>some []
 | x :: l=>(mpL g x.2).bind fun y=>(mpT g l).map fun r=>(x.1,y) :: r
def mpSV (g:Rn) (x:SV):Option SV :=
 match x with
 | .one x=>(mpSC g x).map .one
 | .agg l=>(mpL g l).map .agg
 | .tup l=>(mpT g l).map .tup
def mpAll (g:Rn):List SV→Option (List SV)
 | []=>some []
 | x :: l=>(mpSV g x).bind fun y=>(mpAll g l).map fun r=>y :: r
def mpSB (g:Rn) (x:SB):Option SB :=
 match x with
 | .cells ty cs=>(mpL g cs).map fun r=>.cells ty r
 | .lit ty n cs=>(mpL g cs).map fun r=>.lit ty n r
 | .ro ty cs=>(mpL g cs).map fun r=>.ro ty r
 | x=>some x
def Over (g:Rn) (ρ ρ':Env):Prop:=∀ k j v,g k=some j→ρ k=some v→ρ' j=some v
section
variable {g:Rn} {ρ ρ':Env}
theorem mpCaps_ok (h:Over g ρ ρ'):∀ {l r:List (Nat×Nat)} {vs:List Value},mpCaps g l=some r→l.mapM (fun (p:Nat×Nat)=>denPtr ρ p.1 p.2)=some vs→r.mapM (fun (p:Nat×Nat)=>denPtr ρ' p.1 p.2)=some vs:=by
 intro l
 induction l with
 | nil=>intro r vs h1 h2; cases h1; exact h2
 | cons x l ih =>
  obtain ⟨k,f⟩:=x
  intro r vs h1 h2
  simp only [mpCaps,Option.bind_eq_some_iff,Option.map_eq_some_iff] at h1
  obtain ⟨j,hj,r',hr,rfl⟩:=h1
  rw [List.mapM_cons] at h2 ⊢
  cases hk:ρ k with
  | none=>simp [denPtr,hk] at h2
  | some u =>
   have e1:denPtr ρ' j f=denPtr ρ k f:=by simp only [denPtr,hk,h k j u hj hk]
   simp only [e1]
   cases h3:denPtr ρ k f with
   | none=>simp [h3] at h2
   | some v =>
    cases h4:l.mapM (fun (p:Nat×Nat)=>denPtr ρ p.1 p.2) with
    | none=>simp [h3,h4] at h2
    | some us =>
     rw [ih hr h4]
     simp [h3,h4] at h2
     simp [h2]
theorem mpSC_ok (h:Over g ρ ρ') {x y:SC} {v:Value} (hx:mpSC g x=some y) (hv:den ρ x=some v):den ρ' y=some v:=by
 have one:∀ (k j:Nat) (F:Option Value→Option Value),F none=none→g k=some j→F (ρ k)=some v→F (ρ' j)=some v:=by
  intro k j F h0 hj hf
  cases hk:ρ k with
  | none=>rw [hk,h0] at hf; cases hf
  | some u=>rw [h k j u hj hk,← hk]; exact hf
 cases x with
 | ptr k f =>
  simp only [mpSC,Option.map_eq_some_iff] at hx
  obtain ⟨j,hj,rfl⟩:=hx
  exact one k j (fun q=>(q.bind baseOf).map fun b=>Value.pointer (some ⟨b,f,none⟩)) rfl hj hv
 | slc k =>
  simp only [mpSC,Option.map_eq_some_iff] at hx
  obtain ⟨j,hj,rfl⟩:=hx
  exact one k j id rfl hj hv
 | ept k i sz f =>
  simp only [mpSC,Option.map_eq_some_iff] at hx
  obtain ⟨j,hj,rfl⟩:=hx
  exact one k j (fun q=>(q.bind elemBase).map fun (a:Addr)=>Value.pointer (some ⟨a.block,a.off+(i*sz+f),none⟩)) rfl hj hv
 | mp k b =>
  simp only [mpSC,Option.map_eq_some_iff] at hx
  obtain ⟨j,hj,rfl⟩:=hx
  cases b with
  | false=>exact hv
  | true=>exact one k j (fun q=>(q.bind baseOf).map fun b=>Value.pointer (some ⟨b,0,none⟩)) rfl hj hv
 | fn f l =>
  simp only [mpSC,Option.map_eq_some_iff] at hx
  obtain ⟨r,hr,rfl⟩:=hx
  simp only [den,Option.map_eq_some_iff] at hv ⊢
  obtain ⟨vs,h1,h2⟩:=hv
  exact ⟨vs,mpCaps_ok h hr h1,h2⟩
 | und=>cases hx
 | _=>cases hx; exact hv
theorem mpL_ok (h:Over g ρ ρ'):∀ {l r:List SC} {vs:List Value},mpL g l=some r→denL ρ l=some vs→denL ρ' r=some vs:=by
 intro l
 induction l with
 | nil=>intro r vs h1 h2; cases h1; exact h2
 | cons x l ih =>
  intro r vs h1 h2
  simp only [mpL,Option.bind_eq_some_iff,Option.map_eq_some_iff] at h1
  obtain ⟨y,hy,r',hr,rfl⟩:=h1
  obtain ⟨v,us,e1,e2,rfl⟩:=denL_cons_some.1 h2
  exact denL_cons_some.2 ⟨v,us,mpSC_ok h hy e1,ih hr e2,rfl⟩
theorem mpT_ok (h:Over g ρ ρ'):∀ {l r:List (Bool×List SC)} {vs:List Value},mpT g l=some r→l.mapM (denC ρ)=some vs→r.mapM (denC ρ')=some vs:=by
 intro l
 induction l with
 | nil=>intro r vs h1 h2; cases h1; exact h2
 | cons x l ih =>
  obtain ⟨b,xl⟩:=x
  intro r vs h1 h2
  simp only [mpT,Option.bind_eq_some_iff,Option.map_eq_some_iff] at h1
  obtain ⟨y,hy,r',hr,rfl⟩:=h1
  rw [List.mapM_cons] at h2 ⊢
  cases hx:denC ρ (b,xl) with
  | none=>simp [hx] at h2
  | some v =>
   cases h4:l.mapM (denC ρ) with
   | none=>simp [hx,h4] at h2
   | some us =>
    have e1:denC ρ' (b,y)=some v:=by
     cases b with
     | true =>
      simp only [denC,Option.map_eq_some_iff] at hx ⊢
      obtain ⟨ws,g1,g2⟩:=hx
      exact ⟨ws,mpL_ok h hy g1,g2⟩
     | false =>
      match xl with
      | []=>cases hx
      | _ :: _ :: _=>cases hx
      | [z] =>
       simp only [mpL,Option.bind_eq_some_iff,Option.map_eq_some_iff] at hy
       obtain ⟨z',hz,r2,hr2,rfl⟩:=hy
       cases hr2
       exact mpSC_ok h hz hx
    rw [ih hr h4,e1]
    simp [hx,h4] at h2
    simp [h2]
theorem mpSV_ok (h:Over g ρ ρ') {x y:SV} {v:Value} (hx:mpSV g x=some y) (hv:denV ρ x=some v):denV ρ' y=some v:=by
 cases x with
 | one x =>
  simp only [mpSV,Option.map_eq_some_iff] at hx
  obtain ⟨z,hz,rfl⟩:=hx
  exact mpSC_ok h hz hv
 | agg l =>
  simp only [mpSV,Option.map_eq_some_iff] at hx
  obtain ⟨z,hz,rfl⟩:=hx
  simp only [denV,Option.map_eq_some_iff] at hv ⊢
  obtain ⟨vs,h1,h2⟩:=hv
  exact ⟨vs,mpL_ok h hz h1,h2⟩
 | tup l =>
  simp only [mpSV,Option.map_eq_some_iff] at hx
  obtain ⟨z,hz,rfl⟩:=hx
  simp only [denV,Option.map_eq_some_iff] at hv ⊢
  obtain ⟨vs,h1,h2⟩:=hv
  exact ⟨vs,mpT_ok h hz h1,h2⟩
theorem mpAll_ok (h:Over g ρ ρ'):∀ {l r:List SV} {vs:List Value},mpAll g l=some r→All2 (fun u x=>denV ρ x=some u) vs l→All2 (fun u x=>denV ρ' x=some u) vs r:=by
 intro l
 induction l with
 | nil=>intro r vs h1 h2; cases h1; cases h2; exact .nil
 | cons x l ih =>
  intro r vs h1 h2
  simp only [mpAll,Option.bind_eq_some_iff,Option.map_eq_some_iff] at h1
  obtain ⟨y,hy,r',hr,rfl⟩:=h1
  cases h2 with
  | cons a b=>exact .cons (mpSV_ok h hy a) (ih hr b)
theorem mpSB_mut {x y:SB} (h:mpSB g x=some y):y.mut=x.mut∧∀ v,foot v y=foot v x:=by
 cases x<;>simp only [mpSB,Option.map_eq_some_iff,Option.some.injEq] at h
 case cells=>obtain ⟨_,_,rfl⟩:=h; exact ⟨rfl,fun _=>rfl⟩
 case lit=>obtain ⟨_,_,rfl⟩:=h; exact ⟨rfl,fun _=>rfl⟩
 case ro=>obtain ⟨_,_,rfl⟩:=h; exact ⟨rfl,fun _=>rfl⟩
 all_goals (subst h; exact ⟨rfl,fun _=>rfl⟩)
theorem mpSB_ok (h:Over g ρ ρ') {C C':Ctx} {w:World} {v:Value} {x y:SB} (hx:mpSB g x=some y) (hb:SBok C ρ w v x) (ho:x.mut=true→∀ i,foot v x=some i→C'.own i) (hs:∀ i,foot v x=some i→C'.seen i):SBok C' ρ' w v y:=by
 cases x with
 | cells ty cs =>
  simp only [mpSB,Option.map_eq_some_iff] at hx
  obtain ⟨r,hr,rfl⟩:=hx
  obtain ⟨b,vs,h1,h2,h3,h4⟩:=hb
  exact ⟨b,vs,h1,mpL_ok h hr h2,h3,ho rfl b (blockOf_base h1)⟩
 | lit ty n cs =>
  simp only [mpSB,Option.map_eq_some_iff] at hx
  obtain ⟨r,hr,rfl⟩:=hx
  obtain ⟨b,vs,h1,h2,h3,h4⟩:=hb
  exact ⟨b,vs,h1,mpL_ok h hr h2,h3,ho rfl b (by subst h1; rfl)⟩
 | ro ty cs =>
  simp only [mpSB,Option.map_eq_some_iff] at hx
  obtain ⟨r,hr,rfl⟩:=hx
  obtain ⟨b,vs,h1,h2,h3,h4⟩:=hb
  exact ⟨b,vs,h1,mpL_ok h hr h2,h3,hs b (blockOf_base h1)⟩
 | row ty l =>
  cases hx
  exact ⟨hb.1,fun i hi=>ho rfl i (own_blockOf hi)⟩
 | read l =>
  cases hx
  obtain ⟨A,c,h1,h2,h3,h4⟩:=hb
  refine ⟨A,c,h1,h2,h3,fun hn=>?_⟩
  obtain ⟨b,o,e1,e2,e3⟩:=h4 hn
  refine ⟨b,o,e1,e2,hs b ?_⟩
  simp only [foot]
  rw [if_neg (by omega),h1,e1]; rfl
 | iter s pos =>
  cases hx
  obtain ⟨b,h1,h2,h3⟩:=hb
  exact ⟨b,h1,h2,ho rfl b (by subst h1; rfl)⟩
end
structure ASpec where
 spec:List SV→List (Nat×Option SB)→Option (List Prop×SV×List (Nat×Option SB))
structure MS (C:Ctx) (ρ:Env) (m:List (Nat×Option SB)) (w:World):Prop where
 one:∀ k v,ρ k=some v→v.oneCell'=true
 pin:∀ k,k<16→ρ k=C.pin k
 mem:∀ k b,look k m=some (some b)→∃ v,ρ k=some v∧SBok C ρ w v b
 apart:∀ k k' b b' v v',k≠k'→look k m=some (some b)→look k' m=some (some b')→b.mut=true→ρ k=some v→ρ k'=some v'→Apart (foot v b) (foot v' b')
structure Acts (P:Program) (Gl:List (Nat×(List Value→Prop))) (f:Nat) (s:ASpec):Prop where
 body:∃ fn c,P.funcs[f]? = some fn∧fn.body=some c∧(fn.name == "runtime.NumGoroutine")=false
 calls:∀ args mem p r post,s.spec args mem=some (p,r,post)→All p→∀ (C:Ctx) (ρ:Env) (w:World) (vs:List Value),C.P=P→C.w0=w→Glob Gl w→(∀ q∈Gl,¬ C.F q.1)→MS C ρ mem w→DomLt ρ 16 →
  All2 (fun u x=>denV ρ x=some u) vs args →
  Calls P f vs.toArray w fun e w'=>∃ v ρ',e=.returned v∧Fr C.F w w'∧MS C ρ' post w'∧DomLt ρ' 32∧denV ρ' r=some v
def Ctx.bare (C:Ctx):Ctx:=⟨C.P,C.w0,C.F,C.A,0,C.pin⟩
theorem sat_of_ms {C:Ctx} {ρ:Env} {m:List (Nat×Option SB)} {w:World} (h:MS C ρ m w) (hw:C.w0=w) (n:Nat):Sat C.bare ρ ⟨[],m,n⟩ { tmps:=#[],defers:=[] } w where
 frame:=by show Fr C.F C.w0 w; rw [hw]; exact Fr.refl _ _
 tsize:=rfl
 defers:=rfl
 one:=h.one
 pin:=h.pin
 slots:=fun t x hx=>by cases hx
 mem:=fun k b hb=>h.mem k b (Option.join_eq_some_iff.1 hb)
 apart:=fun k k' b b' v v' hne h1 h2=>h.apart k k' b b' v v' hne (Option.join_eq_some_iff.1 h1) (Option.join_eq_some_iff.1 h2)
theorem ms_of_sat {C:Ctx} {ρ:Env} {S:AS} {a:Act} {w:World} (h:Sat C.bare ρ S a w) {m:List (Nat×Option SB)} (hm:∀ k b,look k m=some (some b)→S.blk k=some b):MS C ρ m w where
 one:=h.one
 pin:=h.pin
 mem:=fun k b hb=>h.mem k b (hm k b hb)
 apart:=fun k k' b b' v v' hne h1 h2=>h.apart k k' b b' v v' hne (hm k b h1) (hm k' b' h2)
def argSlots (t:Nat):List SV→List (Nat×SV)
 | []=>[]
 | x :: l=>(t,x) :: argSlots (t+1) l
def pinSlots:List (Nat×Option SB)→List (Nat×SV)
 | []=>[]
 | (k,_) :: l=>bif Nat.blt k 16 then (k+1,.one (.slc k)) :: pinSlots l else pinSlots l
def pinsIn (n:Nat):List (Nat×Option SB)→Bool
 | []=>true
 | (k,_) :: l=>(Nat.blt k n || Nat.ble 16 k) && pinsIn n l
def actK (k:Kit) (rs:List ResultVar) (r:SV) (post:List (Nat×Option SB)):Ex→AS→Prop :=
 retK k.tbl rs fun x S'=>Ent ⟨(0,x) :: pinSlots post,S'.mem,S'.next⟩ ⟨(0,r) :: pinSlots post,post,32⟩
def hasNames:Nat→Nat→List (Nat×Option SB)→Bool
 | 0,_,_=>true
 | n+1,k,m=>(match look k m with | some (some _)=>true | _=>false) && hasNames n (k+1) m
def notUnd:SV→Bool
 | .one .und=>false
 | _=>true
def vcActs (k:Kit) (c:Code) (rs:List ResultVar) (A:Ann) (args:List SV) (mem:List (Nat×Option SB)) (r:SV) (post:List (Nat×Option SB)):Prop :=
 bif Nat.ble args.length k.nt && Nat.ble mem.length 15 && hasNames mem.length 0 mem && notUnd r && pinsIn mem.length post then vc k c A ⟨argSlots 0 args,mem,16⟩ (actK k rs r post) else False
theorem hasNames_get:∀ {n k:Nat} {m:List (Nat×Option SB)},hasNames n k m=true→∀ j,k≤j→j<k+n→∃ b,look j m=some (some b):=by
 intro n
 induction n with
 | zero=>intro k m _ j h1 h2; omega
 | succ n ih =>
  intro k m h j h1 h2
  simp only [hasNames,Bool.and_eq_true] at h
  by_cases hj:j=k
  ·subst hj
   have:=h.1
   split at this
   ·rename_i b hb; exact ⟨b,hb⟩
   ·cases this
  ·exact ih h.2 j (by omega) (by omega)
theorem argSlots_get:∀ {args:List SV} {t j:Nat} {x:SV},look j (argSlots t args)=some x→∃ i,j=t+i∧args[i]? = some x:=by
 intro args
 induction args with
 | nil=>intro t j x h; cases h
 | cons y l ih =>
  intro t j x h
  simp only [argSlots,look_cons] at h
  split at h
  ·cases h; exact ⟨0,by omega,rfl⟩
  ·obtain ⟨i,h1,h2⟩:=ih h
   exact ⟨i+1,by omega,by simpa using h2⟩
theorem pinSlots_get {n:Nat}:∀ {l:List (Nat×Option SB)} {j:Nat} {x:SV},pinsIn n l=true→look j (pinSlots l)=some x→∃ i,i<n∧i<16∧j=i+1∧x=.one (.slc i):=by
 intro l
 induction l with
 | nil=>intro j x _ h; cases h
 | cons y l ih =>
  obtain ⟨k,b⟩:=y
  intro j x hp h
  simp only [pinsIn,Bool.and_eq_true,Bool.or_eq_true] at hp
  unfold pinSlots at h
  cases hk:Nat.blt k 16 with
  | false=>rw [hk,cond_false] at h; exact ih hp.2 h
  | true =>
   rw [hk,cond_true,look_cons] at h
   have hk':k<16:=Nat.le_of_ble_eq_true hk
   split at h
   ·cases h
    refine ⟨k,?_,hk',by omega,rfl⟩
    rcases hp.1 with h1 | h1
    ·exact Nat.le_of_ble_eq_true h1
    ·have:=Nat.le_of_ble_eq_true h1; omega
   ·exact ih hp.2 h
theorem all2_get {α β:Type} {R:α→β→Prop}:∀ {l:List α} {m:List β},All2 R l m→∀ {i:Nat} {b:β},m[i]? = some b→∃ a,l[i]? = some a∧R a b:=by
 intro l m h
 induction h with
 | nil=>intro i b hb; simp at hb
 | cons h1 _ ih =>
  intro i b hb
  cases i with
  | zero=>simp at hb; subst hb; exact ⟨_,rfl,h1⟩
  | succ i=>simp at hb; obtain ⟨a,h2,h3⟩:=ih hb; exact ⟨a,by simpa using h2,h3⟩
theorem vx_acts {P:Program} {Gl:List (Nat×(List Value→Prop))} {f:Nat} {k:Kit} (fn:Func) (c:Code) (hf:P.funcs[f]? = some fn) (hb:fn.body=some c) (hn:(fn.name == "runtime.NumGoroutine")=false)
  (hm:P.follows .mixedOrders=true) (hT:tblOK P k.tbl) (hH:HookOK k.tbl (GC P Gl) k.hk) (hnt:fn.ntmps=k.nt) {s:ASpec} (A:List SV→List (Nat×Option SB)→Ann)
  (hv:∀ args mem p r post,s.spec args mem=some (p,r,post)→All p→vcActs k c fn.results.toList (A args mem) args mem r post):Acts P Gl f s:=by
 refine ⟨⟨fn,c,hf,hb,hn⟩,fun args mem p r post hs hp C ρ w vs hP hw hg hgf hms hdom hargs=>?_⟩
 have h:=hv args mem p r post hs hp
 unfold vcActs at h
 cases hc:Nat.ble args.length k.nt && Nat.ble mem.length 15 && hasNames mem.length 0 mem && notUnd r && pinsIn mem.length post with
 | false=>rw [hc] at h; exact h.elim
 | true =>
  rw [hc,cond_true] at h
  simp only [Bool.and_eq_true] at hc
  have c1:=Nat.le_of_ble_eq_true hc.1.1.1.1
  have c2:=Nat.le_of_ble_eq_true hc.1.1.1.2
  have c3:=hc.1.1.2
  have c4:r≠.one .und:=by rintro rfl; cases hc.1.2
  have c5:=hc.2
  let C1:Ctx:=⟨C.P,C.w0,C.F,C.A,k.nt,C.pin⟩
  have hal:=all2_length hargs
  have hsat:St C1 ρ ⟨argSlots 0 args,mem,16⟩ { tmps:=vs.toArray++Array.replicate (fn.ntmps-vs.toArray.size) undef,defers:=[] } w:=by
   refine ⟨⟨by rw [← hw]; exact Fr.refl _ _,?_,rfl,hms.one,hms.pin,?_,?_,?_⟩,hdom,Nat.le_refl _⟩
   ·simp [C1]; omega
   ·intro t x hx _
    obtain ⟨i,e1,e2⟩:=argSlots_get hx
    obtain ⟨v,e3,e4⟩:=all2_get hargs e2
    refine ⟨v,e4,?_⟩
    have hi:=(List.getElem?_eq_some_iff.1 e3).1
    rw [e1,Nat.zero_add,Array.getElem?_append_left (by simpa using hi)]
    simpa using e3
   ·intro j b hj
    exact hms.mem j b (by unfold AS.blk at hj; exact Option.join_eq_some_iff.1 hj)
   ·intro j j' b b' v v' hne h1 h2
    exact hms.apart j j' b b' v v' hne (Option.join_eq_some_iff.1 h1) (Option.join_eq_some_iff.1 h2)
  have hG:GC P Gl C1:=⟨hP,by show Glob Gl C.w0; rw [hw]; exact hg,hgf⟩
  have:=vc_calls (C:=C1) (by show C.P.follows _=true; rw [hP]; exact hm) (by show tblOK C.P _; rw [hP]; exact hT) hH hG rfl (args:=vs.toArray) (by show C.P.funcs[f]? = _; rw [hP]; exact hf) hb (A args mem) hsat h
  rw [show C1.P=P from hP] at this
  refine this.mono ?_
  rintro e w' ⟨ρ',S',a',x,v,rfl,h1,h2,h3⟩
  have hpins:∀ j,j<mem.length→∃ u,ρ' j=some u:=by
   intro j hj
   obtain ⟨b,hb⟩:=hasNames_get c3 j (Nat.zero_le _) (by omega)
   obtain ⟨u,e1,_⟩:=hms.mem j b hb
   refine ⟨u,?_⟩
   rw [h1.sat.pin j (by omega)]
   show C.pin j=_
   rw [← hms.pin j (by omega)]; exact e1
  let C2:Ctx:=⟨C.P,C.w0,C.F,C.A,mem.length+1,C.pin⟩
  let tm:List Value:=v :: (List.range mem.length).map fun j=>(ρ' j).getD undef
  have hsat2:Sat C2 ρ' ⟨(0,x) :: pinSlots post,S'.mem,S'.next⟩ { tmps:=tm.toArray,defers:=[] } w':=by
   refine ⟨h1.sat.frame,?_,rfl,h1.sat.one,h1.sat.pin,?_,h1.sat.mem,h1.sat.apart⟩
   ·simp [tm,C2]
   ·intro t y hy _
    unfold AS.slot at hy
    rw [look_cons] at hy
    split at hy
    ·subst_vars
     cases hy
     exact ⟨v,h2,by simp [tm]⟩
    ·obtain ⟨i,i1,i2,rfl,rfl⟩:=pinSlots_get c5 hy
     obtain ⟨u,hu⟩:=hpins i i1
     refine ⟨u,hu,?_⟩
     simp only [tm,List.getElem?_toArray,List.getElem?_cons_succ,List.getElem?_map]
     rw [List.getElem?_range (by omega)]
     simp [hu]
  obtain ⟨ρ2,g1,g2⟩:=Ent_sound hsat2 h3 (by show 16≤32; omega)
  obtain ⟨v2,q1,q2⟩:=g1.slots 0 r (by unfold AS.slot; rw [look_cons,if_pos rfl]) c4
  have q2:v2=v:=by
   simp [tm] at q2
   exact q2.symm
  subst q2
  refine ⟨v2,ρ2,rfl,?_,⟨g1.one,g1.pin,?_,?_⟩,g2,q1⟩
  ·have:=h1.sat.frame
   rw [show C1.w0=w from hw] at this
   exact this
  ·intro j b hj
   exact g1.mem j b (by unfold AS.blk; rw [hj]; rfl)
  ·intro j j' b b' u u' hne e1 e2
   exact g1.apart j j' b b' u u' hne (by unfold AS.blk; rw [e1]; rfl) (by unfold AS.blk; rw [e2]; rfl)
def firstIdx (k:Nat):List Nat→Nat→Option Nat
 | [],_=>none
 | j :: l,i=>bif Nat.beq j k then some i else firstIdx k l (i+1)
def addN (σ:List Nat):List Nat→List Nat
 | []=>σ
 | k :: l=>addN (bif elemN k σ then σ else σ++[k]) l
def closeN (m:Mem):Nat→Nat→List Nat→List Nat
 | 0,_,σ=>σ
 | n+1,i,σ =>
  match σ[i]? with
  | none=>σ
  | some k=>closeN m n (i+1) (addN σ (match m k with | some b=>namesSB b | none=>[]))
def nodupN:List Nat→Bool
 | []=>true
 | k :: l=>!elemN k l && nodupN l
def canonMem (g:Rn) (m:Mem):Nat→List Nat→Option (List (Nat×Option SB))
 | _,[]=>some []
 | i,k :: l=>(m k).bind fun b=>(mpSB g b).bind fun b'=>(canonMem g m (i+1) l).map fun r=>(i,some b') :: r
def bkN (σ:List Nat) (fr j:Nat):Option Nat:=bif Nat.blt j 16 then σ[j]? else bif Nat.blt j 32 then some (fr+(j-16)) else none
def postMem (g:Rn):List (Nat×Option SB)→Option (List (Nat×Option SB))
 | []=>some []
 | (j,some b) :: l=>(g j).bind fun k=>(mpSB g b).bind fun b'=>(postMem g l).map fun r=>(k,some b') :: r
 | (_,none) :: _=>none
def hasKey {α:Type} (i:Nat):List (Nat×α)→Bool
 | []=>false
 | (j,_) :: l=>Nat.beq j i || hasKey i l
def mutOf:Option SB→Bool
 | some b=>b.mut
 | none=>true
def killsOf (m:Mem) (post:List (Nat×Option SB)):Nat→List Nat→List (Nat×Option SB)
 | _,[]=>[]
 | i,k :: l=>bif hasKey i post || !mutOf (m k) then killsOf m post (i+1) l else (k,none) :: killsOf m post (i+1) l
def actOn (s:ASpec) (fr:Nat) (m:Mem) (xs:List SV):Option Out :=
 let σ:=closeN m 16 0 (addN [] (namesA xs))
 bif Nat.ble σ.length 15 && nodupN σ then
  (mpAll (fun k=>firstIdx k σ 0) xs).bind fun axs=>(canonMem (fun k=>firstIdx k σ 0) m 0 σ).bind fun am =>
   (s.spec axs am).bind fun q=>(mpSV (bkN σ fr) q.2.1).bind fun r=>(postMem (bkN σ fr) q.2.2).map fun pm=>(q.1,⟨r,pm++killsOf m q.2.2 0 σ⟩)
 else none
def actHook (cs:List (Nat×ASpec)):Hook:=fun fr o ev m =>
 match o.op with
 | .call ⟨.value x,args,_⟩=>(calleeOf ev x).bind fun c=>(look c.1 cs).bind fun s=>(evAll ev args.toList).bind fun xs=>actOn s fr m (xs++c.2)
 | _=>none
theorem firstIdx_get {k:Nat}:∀ {l:List Nat} {n i:Nat},firstIdx k l n=some i→∃ j,i=n+j∧l[j]? = some k:=by
 intro l
 induction l with
 | nil=>intro n i h; cases h
 | cons x l ih =>
  intro n i h
  unfold firstIdx at h
  cases hb:Nat.beq x k with
  | true=>rw [hb,cond_true] at h; cases h; exact ⟨0,rfl,by rw [Nat.eq_of_beq_eq_true hb]; rfl⟩
  | false =>
   rw [hb,cond_false] at h
   obtain ⟨j,h1,h2⟩:=ih h
   exact ⟨j+1,by omega,by simpa using h2⟩
theorem nodupN_inj:∀ {l:List Nat},nodupN l=true→∀ {i j k:Nat},l[i]? = some k→l[j]? = some k→i=j:=by
 intro l
 induction l with
 | nil=>intro _ i j k h; simp at h
 | cons x l ih =>
  intro h i j k hi hj
  simp only [nodupN,Bool.and_eq_true,Bool.not_eq_true'] at h
  have hx:x ∉ l:=fun hm=>by rw [elemN_mem.2 hm] at h; cases h.1
  cases i with
  | zero =>
   cases j with
   | zero=>rfl
   | succ j =>
    simp at hi hj
    subst hi
    exact absurd (List.mem_of_getElem? hj) hx
  | succ i =>
   cases j with
   | zero =>
    simp at hi hj
    subst hj
    exact absurd (List.mem_of_getElem? hi) hx
   | succ j =>
    simp at hi hj
    rw [ih h.2 hi hj]
theorem canonMem_get {g:Rn} {m:Mem}:∀ {l:List Nat} {n:Nat} {am:List (Nat×Option SB)},canonMem g m n l=some am →
  (∀ i b,look i am=some (some b)→∃ j k b0,i=n+j∧l[j]? = some k∧m k=some b0∧mpSB g b0=some b)∧∀ k∈l,∃ b,m k=some b:=by
 intro l
 induction l with
 | nil=>intro n am h; cases h; exact ⟨fun i b hb=>(by cases hb),fun k hk=>(by cases hk)⟩
 | cons x l ih =>
  intro n am h
  simp only [canonMem,Option.bind_eq_some_iff,Option.map_eq_some_iff] at h
  obtain ⟨b,h1,b',h2,r,h3,rfl⟩:=h
  obtain ⟨g1,g2⟩:=ih h3
  refine ⟨fun i c hc=>?_,fun k hk=>?_⟩
  ·rw [look_cons] at hc
   split at hc
   ·subst_vars; cases hc; exact ⟨0,x,b,rfl,rfl,h1,h2⟩
   ·obtain ⟨j,k,b0,e1,e2,e3,e4⟩:=g1 i c hc
    exact ⟨j+1,k,b0,by omega,by simpa using e2,e3,e4⟩
  ·rcases List.mem_cons.1 hk with rfl | hk
   ·exact ⟨b,h1⟩
   ·exact g2 k hk
theorem postMem_get {g:Rn} (hg:∀ j j' k,g j=some k→g j'=some k→j=j'):∀ {l pm:List (Nat×Option SB)},postMem g l=some pm →
  (∀ k b,look k pm=some (some b)→∃ j b0,g j=some k∧look j l=some (some b0)∧mpSB g b0=some b)∧(∀ k,look k pm≠some none)∧∀ i k,hasKey i l=true→g i=some k→look k pm≠none:=by
 intro l
 induction l with
 | nil=>intro pm h; cases h; exact ⟨fun k b hb=>(by cases hb),fun k hk=>(by cases hk),fun i k hk=>(by cases hk)⟩
 | cons x l ih =>
  obtain ⟨j,b⟩:=x
  intro pm h
  cases b with
  | none=>cases h
  | some b =>
   simp only [postMem,Option.bind_eq_some_iff,Option.map_eq_some_iff] at h
   obtain ⟨k0,h1,b',h2,r,h3,rfl⟩:=h
   obtain ⟨g1,g2,g3⟩:=ih h3
   refine ⟨fun k c hc=>?_,fun k hk=>?_,fun i k hi hk=>?_⟩
   ·rw [look_cons] at hc
    split at hc
    ·subst_vars; cases hc; exact ⟨j,b,h1,by rw [look_cons,if_pos rfl],h2⟩
    ·rename_i hne
     obtain ⟨j',b0,e1,e2,e3⟩:=g1 k c hc
     refine ⟨j',b0,e1,?_,e3⟩
     rw [look_cons,if_neg]
     ·exact e2
     ·rintro rfl
      rw [h1] at e1; cases e1
      exact hne rfl
   ·rw [look_cons] at hk
    split at hk
    ·cases hk
    ·exact g2 k hk
   ·rw [look_cons]
    split
    ·simp
    ·rename_i hne
     refine g3 i k ?_ hk
     simp only [hasKey,Bool.or_eq_true] at hi
     rcases hi with hi | hi
     ·have:=Nat.eq_of_beq_eq_true hi
      subst this
      rw [h1] at hk; cases hk
      exact absurd rfl hne
     ·exact hi
theorem killsOf_get {m:Mem} {post:List (Nat×Option SB)}:∀ {l:List Nat} {n:Nat},(∀ k b,look k (killsOf m post n l)≠some (some b))∧∀ j k,l[j]? = some k→hasKey (n+j) post=false→mutOf (m k)=true→look k (killsOf m post n l)≠none:=by
 intro l
 induction l with
 | nil=>intro n; exact ⟨fun k b h=>(by cases h),fun j k h=>(by simp at h)⟩
 | cons x l ih =>
  intro n
  obtain ⟨g1,g2⟩:=ih (n:=n+1)
  unfold killsOf
  cases hb:hasKey n post || !mutOf (m x) with
  | true =>
   rw [cond_true]
   refine ⟨g1,fun j k hj hk hm=>?_⟩
   cases j with
   | zero =>
    simp at hj
    subst hj
    rw [Nat.add_zero] at hk
    rw [hk,hm] at hb; cases hb
   | succ j=>exact g2 j k (by simpa using hj) (by rw [← hk]; congr 1; omega) hm
  | false =>
   rw [cond_false]
   refine ⟨fun k b h=>?_,fun j k hj hk hm=>?_⟩
   ·rw [look_cons] at h
    split at h
    ·cases h
    ·exact g1 k b h
   ·rw [look_cons]
    split
    ·simp
    ·rename_i hne
     cases j with
     | zero=>simp at hj; exact absurd hj hne
     | succ j=>exact g2 j k (by simpa using hj) (by rw [← hk]; congr 1; omega) hm
section
variable {C:Ctx} {tbl:Tbl} {ρ:Env} {S:AS} {a:Act} {w:World} {fr:Nat} {o:Oper} {ev:Evl} {m:Mem}
theorem act_does (H:Here C tbl ρ S a w fr o ev m) {P:Program} {Gl:List (Nat×(List Value→Prop))} (hG:GC P Gl C) {f:Nat} {s:ASpec} (hA:Acts P Gl f s) {x:Operand} {args:Array Operand} {ts:Array TypeId} (ho:o.op=.call ⟨.value x,args,ts⟩) {caps:List SV} (hc:calleeOf ev x=some (f,caps))
  {xs0:List SV} (hx:evAll ev args.toList=some xs0) {ps:List Prop} {e:Eff} (hact:actOn s fr m (xs0++caps)=some (ps,e)) (hp:All ps):Does C ρ S a w fr o e:=by
 unfold actOn at hact
 simp only at hact
 generalize hσ:closeN m 16 0 (addN [] (namesA (xs0++caps)))=σ at hact
 cases hck:Nat.ble σ.length 15 && nodupN σ with
 | false=>rw [hck] at hact; cases hact
 | true =>
 rw [hck,cond_true] at hact
 simp only [Option.bind_eq_some_iff,Option.map_eq_some_iff,Prod.mk.injEq] at hact
 obtain ⟨axs,h1,am,h2,⟨q1,r0,post⟩,h3,r,h4,pm,h5,rfl,rfl⟩:=hact
 simp only [Bool.and_eq_true] at hck
 have hlen:=Nat.le_of_ble_eq_true hck.1
 have hnd:=hck.2
 obtain ⟨cvs,hcv,hrun0⟩:=callee_run H ho hc
 have hargs:All2 (fun u x=>denV ρ x=some u) (args.toList.map a.eval++cvs) (xs0++caps):=all2_append (evAll_ok H hx) hcv
 obtain ⟨⟨fn,c,hf,hb,hn⟩,hcalls⟩:=hA
 have hrun:(execOp a.eval o).run C.P w=.ok (.enter f (args.toList.map a.eval++cvs).toArray) w:=by
  rw [hrun0,hG.prog]
  exact run_enter hf hb hn _ w
 obtain ⟨hcm1,hcm2⟩:=canonMem_get h2
 have hsz0:C.w0.heap.size≤w.heap.size:=H.sat.frame.size
 let ρc:Env:=fun i=>if i<16 then (σ[i]?).bind ρ else none
 let F:Nat→Prop:=fun q=>∃ k b u,k∈σ∧S.blk k=some b∧b.mut=true∧ρ k=some u∧foot u b=some q
 let A:Nat→Prop:=fun q=>∃ k b u,k∈σ∧S.blk k=some b∧ρ k=some u∧foot u b=some q
 let C':Ctx:=⟨P,w,F,A,0,ρc⟩
 have hover:Over (fun k=>firstIdx k σ 0) ρ ρc:=by
  intro k i v hk hv
  obtain ⟨j,e1,e2⟩:=firstIdx_get hk
  have hj:=(List.getElem?_eq_some_iff.1 e2).1
  rw [Nat.zero_add] at e1
  subst e1
  show (if i<16 then (σ[i]?).bind ρ else none)=some v
  rw [if_pos (by omega),e2]
  exact hv
 have hFown:∀ q,F q→C.own q:=by
  rintro q ⟨k,b,u,_,g2,g3,g4,g5⟩
  obtain ⟨u',e1,e2⟩:=H.sat.mem k b g2
  rw [g4] at e1; cases e1
  exact e2.own g3 q g5
 have hAseen:∀ q,A q→C.seen q:=by
  rintro q ⟨k,b,u,_,g2,g4,g5⟩
  obtain ⟨u',e1,e2⟩:=H.sat.mem k b g2
  rw [g4] at e1; cases e1
  exact foot_seen e2 q g5
 have hown':∀ q,C'.own q→C.own q:=fun q hq=>hq.elim (fun h=>.inl (Nat.le_trans hsz0 h)) (hFown q)
 have hseen':∀ q,C'.seen q→C.seen q:=fun q hq=>hq.elim (fun h=>.inl (hown' q h)) (hAseen q)
 have hρc:∀ i v,ρc i=some v→∃ k,σ[i]? = some k∧ρ k=some v:=by
  intro i v hi
  have hi:(if i<16 then (σ[i]?).bind ρ else none)=some v:=hi
  split at hi
  ·rw [Option.bind_eq_some_iff] at hi; exact hi
  ·cases hi
 have hms:MS C' ρc am w:=by
  refine ⟨fun i v hi=>?_,fun _ _=>rfl,fun i b hi=>?_,fun i i' b b' v v' hne hi hi' hm hv hv'=>?_⟩
  ·obtain ⟨k,_,e2⟩:=hρc i v hi
   exact H.sat.one k v e2
  ·obtain ⟨j,k,b0,e1,e2,e3,e4⟩:=hcm1 i b hi
   rw [Nat.zero_add] at e1; subst e1
   have hbk:=H.mem k b0 e3
   obtain ⟨u,f1,f2⟩:=H.sat.mem k b0 hbk
   have hj:=(List.getElem?_eq_some_iff.1 e2).1
   refine ⟨u,?_,mpSB_ok hover e4 f2 (fun hm q hq=>.inr ⟨k,b0,u,List.mem_of_getElem? e2,hbk,hm,f1,hq⟩) (fun q hq=>.inr ⟨k,b0,u,List.mem_of_getElem? e2,hbk,f1,hq⟩)⟩
   show (if i<16 then (σ[i]?).bind ρ else none)=some u
   rw [if_pos (by omega),e2]; exact f1
  ·obtain ⟨j,k,b0,e1,e2,e3,e4⟩:=hcm1 i b hi
   obtain ⟨j',k',b0',e1',e2',e3',e4'⟩:=hcm1 i' b' hi'
   rw [Nat.zero_add] at e1 e1'; subst e1; subst e1'
   obtain ⟨m1,m2⟩:=mpSB_mut e4
   obtain ⟨m1',m2'⟩:=mpSB_mut e4'
   obtain ⟨k1,x1,x2⟩:=hρc i v hv
   obtain ⟨k1',x1',x2'⟩:=hρc i' v' hv'
   rw [e2] at x1; cases x1
   rw [e2'] at x1'; cases x1'
   rw [m2,m2']
   refine H.sat.apart k k' b0 b0' v v' ?_ (H.mem k _ e3) (H.mem k' _ e3') (by rw [← m1]; exact hm) x2 x2'
   rintro rfl
   exact hne (nodupN_inj hnd e2 e2')
 have hdomc:DomLt ρc 16:=by
  intro i v hi
  have hi:(if i<16 then (σ[i]?).bind ρ else none)=some v:=hi
  split at hi
  ·assumption
  ·cases hi
 have hgl:∀ q∈Gl,¬ F q.1:=by
  intro q hq hF
  rcases hFown _ hF with h | h
  ·obtain ⟨_,_,_,this,_⟩:=hG.glob q hq
   have:=(Array.getElem?_eq_some_iff.1 this).1
   omega
  ·exact hG.far q hq h
 intro K Q hK
 unfold Oper.wp
 rw [hrun,Oper.upon_enter,hG.prog]
 refine (hcalls axs am q1 r0 post h3 hp C' ρc w _ rfl rfl (hG.now H.sat) hgl hms hdomc (mpAll_ok hover h1 hargs)).mono ?_
 rintro en w' ⟨v,ρ1,rfl,hfr,hms',hdom',hden⟩
 let ρn:Env:=fun k=>if fr≤k∧k<fr+16 then ρ1 (k-fr+16) else ρ k
 have hin:∀ k u,ρ k=some u→¬ (fr≤k∧k<fr+16):=fun k u hk hr=>by
  rw [H.fresh k hr.1 hr.2] at hk; cases hk
 have hle:ρ.le ρn:=by
  intro k u hk
  show (if fr≤k∧k<fr+16 then ρ1 (k-fr+16) else ρ k)=some u
  rw [if_neg (hin k u hk)]; exact hk
 have hbk:∀ j k,bkN σ fr j=some k→(j<16∧σ[j]? = some k)∨(16≤j∧j<32∧k=fr+(j-16)):=by
  intro j k h
  unfold bkN at h
  cases hb:Nat.blt j 16 with
  | true=>rw [hb,cond_true] at h; exact .inl ⟨Nat.le_of_ble_eq_true hb,h⟩
  | false =>
   rw [hb,cond_false] at h
   have hj:¬ j<16:=fun hlt=>by
    have h6:Nat.blt j 16=true:=Nat.ble_eq_true_of_le hlt
    rw [h6] at hb; cases hb
   cases hb2:Nat.blt j 32 with
   | true=>rw [hb2,cond_true] at h; cases h; exact .inr ⟨by omega,Nat.le_of_ble_eq_true hb2,rfl⟩
   | false=>rw [hb2] at h; cases h
 have hover':Over (bkN σ fr) ρ1 ρn:=by
  intro j k u hj hu
  rcases hbk j k hj with ⟨g1,g2⟩ | ⟨g1,g2,rfl⟩
  ·have:=hms'.pin j g1
   rw [hu] at this
   have h7:ρc j=some u:=this.symm
   obtain ⟨k',e1,e2⟩:=hρc j u h7
   rw [g2] at e1; cases e1
   exact hle k u e2
  ·show (if fr≤fr+(j-16)∧fr+(j-16)<fr+16 then ρ1 (fr+(j-16)-fr+16) else ρ (fr+(j-16)))=some u
   rw [if_pos ⟨by omega,by omega⟩,show fr+(j-16)-fr+16=j by omega]; exact hu
 have hσρ:∀ k∈σ,∃ u,ρ k=some u:=by
  intro k hk
  obtain ⟨b,hb⟩:=hcm2 k hk
  obtain ⟨u,e1,_⟩:=H.sat.mem k b (H.mem k b hb)
  exact ⟨u,e1⟩
 have hinj:∀ j j' k,bkN σ fr j=some k→bkN σ fr j'=some k→j=j':=by
  intro j j' k hj hj'
  rcases hbk j k hj with ⟨g1,g2⟩ | ⟨g1,g2,g3⟩
  ·rcases hbk j' k hj' with ⟨g1',g2'⟩ | ⟨g1',g2',g3'⟩
   ·exact nodupN_inj hnd g2 g2'
   ·obtain ⟨u,hu⟩:=hσρ k (List.mem_of_getElem? g2)
    exact absurd ⟨by omega,by omega⟩ (hin k u hu)
  ·rcases hbk j' k hj' with ⟨g1',g2'⟩ | ⟨g1',g2',g3'⟩
   ·obtain ⟨u,hu⟩:=hσρ k (List.mem_of_getElem? g2')
    exact absurd ⟨by omega,by omega⟩ (hin k u hu)
   ·omega
 obtain ⟨hpm1,hpm2,hpm3⟩:=postMem_get hinj h5
 obtain ⟨hk1,hk2⟩:=killsOf_get (m:=m) (post:=post) (l:=σ) (n:=0)
 have hlook:∀ k b,look k (pm++killsOf m post 0 σ)=some (some b)→∃ j b0,bkN σ fr j=some k∧look j post=some (some b0)∧mpSB (bkN σ fr) b0=some b:=by
  intro k b hk
  rw [look_append] at hk
  cases hpk:look k pm with
  | none=>rw [hpk,Option.none_or] at hk; exact absurd hk (hk1 k b)
  | some y=>rw [hpk,Option.some_or] at hk; cases hk; exact hpm1 k b hpk
 have hgone:∀ k b,k∈σ→S.blk k=some b→b.mut=true→look k (pm++killsOf m post 0 σ)≠none:=by
  intro k b hk hb hm hl
  rw [look_append] at hl
  cases hpk:look k pm with
  | some y=>rw [hpk] at hl; cases hl
  | none =>
   rw [hpk,Option.none_or] at hl
   obtain ⟨j,hj⟩:=List.getElem?_of_mem hk
   obtain ⟨b0,hb0⟩:=hcm2 k hk
   have:=H.mem k b0 hb0
   rw [hb] at this; cases this
   cases hkey:hasKey j post with
   | true =>
    refine hpm3 j k hkey ?_ hpk
    have hjl:=(List.getElem?_eq_some_iff.1 hj).1
    unfold bkN
    have h6:Nat.blt j 16=true:=Nat.ble_eq_true_of_le (by omega)
    rw [h6,cond_true]; exact hj
   | false=>exact hk2 j k hj (by rw [Nat.zero_add]; exact hkey) (by rw [hb0]; exact hm) hl
 refine hK ρn _ w' hle ?_ ?_
 ·intro k u hk
  have hk:(if fr≤k∧k<fr+16 then ρ1 (k-fr+16) else ρ k)=some u:=hk
  split at hk
  ·rename_i hr; exact .inr hr
  ·exact .inl ⟨u,hk⟩
 refine H.sat.step (G:=F) o.dst _ v hle ?_ ?_ hfr (fun i hi=>hFown i hi) (fun _ _=>mpSV_ok hover' h4 hden) H.dst ?_ ?_ ?_
 ·intro k u hk
  have hk:(if fr≤k∧k<fr+16 then ρ1 (k-fr+16) else ρ k)=some u:=hk
  split at hk
  ·exact hms'.one _ u hk
  ·exact H.sat.one k u hk
 ·intro k hk
  show (if fr≤k∧k<fr+16 then ρ1 (k-fr+16) else ρ k)=ρ k
  rw [if_neg (by have:=H.fr16; omega)]
 ·rintro k b u hl hkb hu q hq ⟨k2,b2,u2,g1,g2,g3,g4,g5⟩
  by_cases hk:k2=k
  ·subst hk
   exact hgone k2 b2 g1 g2 g3 hl
  ·exact H.sat.apart k2 k b2 b u2 u hk g2 hkb g3 g4 hu q g5 hq
 ·intro k b hl
  obtain ⟨j,b0,e1,e2,e3⟩:=hlook k b hl
  obtain ⟨u,f1,f2⟩:=hms'.mem j b0 e2
  exact ⟨u,hover' j k u e1 f1,mpSB_ok hover' e3 f2 (fun hm q hq=>hown' q (f2.own hm q hq)) (fun q hq=>hseen' q (foot_seen f2 q hq))⟩
 ·intro k b u k' b' u' hl hu hne hk' hu' hmut
  obtain ⟨j,b0,e1,e2,e3⟩:=hlook k b hl
  obtain ⟨y,f1,f2⟩:=hms'.mem j b0 e2
  have:y=u:=by have:=hover' j k y e1 f1; rw [hu] at this; exact (Option.some.inj this).symm
  subst this
  obtain ⟨m1,m2⟩:=mpSB_mut e3
  rcases hk' with hk' | ⟨hl',hkb'⟩
  ·obtain ⟨j',b0',e1',e2',e3'⟩:=hlook k' b' hk'
   obtain ⟨y',f1',f2'⟩:=hms'.mem j' b0' e2'
   have:y'=u':=by have:=hover' j' k' y' e1' f1'; rw [hu'] at this; exact (Option.some.inj this).symm
   subst this
   obtain ⟨m1',m2'⟩:=mpSB_mut e3'
   rw [m2,m2']
   have hjj:j≠j':=by
    rintro rfl
    rw [e1] at e1'; cases e1'
    exact hne rfl
   rcases hmut with hmut | hmut
   ·exact hms'.apart j j' b0 b0' y y' hjj e2 e2' (by rw [← m1]; exact hmut) f1 f1'
   ·exact (hms'.apart j' j b0' b0 y' y (Ne.symm hjj) e2' e2 (by rw [← m1']; exact hmut) f1' f1).symm
  ·obtain ⟨y',f1',f2'⟩:=H.sat.mem k' b' hkb'
   have:y'=u':=by have:=hle k' y' f1'; rw [hu'] at this; exact (Option.some.inj this).symm
   subst this
   rw [m2]
   intro q hq hq'
   have hlt:=f2'.lt q hq'
   have fromF:¬ F q:=by
    rintro ⟨k2,b2,u2,g1,g2,g3,g4,g5⟩
    by_cases hk:k2=k'
    ·subst hk; exact hgone k2 b2 g1 g2 g3 hl'
    ·exact H.sat.apart k2 k' b2 b' u2 y' hk g2 hkb' g3 g4 f1' q g5 hq'
   rcases hmut with hmut | hmut
   ·rcases f2.own (by rw [← m1]; exact hmut) q hq with h | h
    ·have h:w.heap.size≤q:=h
     omega
    ·exact fromF h
   ·rcases foot_seen f2 q hq with (h | h) | h
    ·have h:w.heap.size≤q:=h
     omega
    ·exact fromF h
    ·obtain ⟨k2,b2,u2,g1,g2,g4,g5⟩:=h
     by_cases hk:k2=k'
     ·subst hk
      rw [hkb'] at g2; cases g2
      exact hgone k2 b' g1 hkb' hmut hl'
     ·exact H.sat.apart k' k2 b' b2 y' u2 (Ne.symm hk) hkb' g2 hmut f1' g4 q hq' g5
theorem actHook_ok {P:Program} {Gl:List (Nat×(List Value→Prop))} {cs:List (Nat×ASpec)} (h:∀ f s,look f cs=some s→Acts P Gl f s):HookOK tbl (GC P Gl) (actHook cs):=by
 intro C ρ S a w fr o ev m H hG ps e hk hp
 unfold actHook at hk
 split at hk
 ·rename_i x args ts ho
  simp only [Option.bind_eq_some_iff] at hk
  obtain ⟨c,h0,s,h1,xs,h2,h3⟩:=hk
  exact act_does H hG (h c.1 s h1) ho h0 h2 h3 hp
 ·cases hk
end
end Go.Proofs.YtglfkihckkjniaaGreatDoor.Vx
namespace Go.Proofs.YtglfkihckkjniaaGreatDoor.Vx
open Go Go.RowKit
def orHook (x y:Hook):Hook:=fun fr o ev m=>match x fr o ev m with | some r=>some r | none=>y fr o ev m
theorem orHook_ok {tbl:Tbl} {G:Ctx→Prop} {x y:Hook} (hx:HookOK tbl G x) (hy:HookOK tbl G y):HookOK tbl G (orHook x y):=by
 intro C ρ S a w fr o ev m H hG ps e hk hp
 unfold orHook at hk
 split at hk
 ·rename_i r hr; cases hk; exact hx H hG hr hp
 ·exact hy H hG hk hp
section
variable {C:Ctx} {tbl:Tbl} {ρ:Env} {S:AS} {a:Act} {w:World} {fr:Nat} {o:Oper} {ev:Evl} {m:Mem}
theorem Here.reads (H:Here C tbl ρ S a w fr o ev m) {x:Operand} {y:SC} (hx:ev x=some (.one y)) {t p:Pc} (hp:absC m t y=some p):ReadsC w (fun _=>True) (a.eval x) p:=by
 obtain ⟨u,h1,h2⟩:=H.val hx
 rw [h2]
 exact absC_ok H.sat H.mem (fun _ _ _ _ _ _ _ _=>trivial) hp h1
def pairOf (a b:IntKind):Option SV→Option (Int×Int)
 | some (.agg [.int k x,.int k' y])=>bif decide (k=a) && decide (k'=b) then some (x,y) else none
 | _=>none
def eqHook (T:TypeId) (a b:IntKind):Hook:=fun fr o ev m =>
 match o.op with
 | .binOp op T' x y _ =>
  bif Nat.beq T' T then
   match pairOf a b (ev x),pairOf a b (ev y) with
   | some (x1,x2),some (y1,y2) =>
    match op with
    | .eql=>some ([],⟨.one (.bool (decide (x1=y1) && decide (x2=y2))),[]⟩)
    | .neq=>some ([],⟨.one (.bool (!(decide (x1=y1) && decide (x2=y2)))),[]⟩)
    | _=>none
   | _,_=>none
  else none
 | _=>none
def PairEq (P:Program) (T:TypeId) (a b:IntKind):Prop:=∀ (x1 x2 y1 y2:Int) (w:World),(Op.equal T (.agg #[.int a x1,.int b x2]) (.agg #[.int a y1,.int b y2])).run P w=.ok (decide (x1=y1) && decide (x2=y2)) w
theorem pairOf_val {k1 k2:IntKind} (H:Here C tbl ρ S a w fr o ev m) {x:Operand} {x1 x2:Int} (h:pairOf k1 k2 (ev x)=some (x1,x2)):a.eval x=.agg #[.int k1 x1,.int k2 x2]:=by
 unfold pairOf at h
 split at h
 ·rename_i k y k' y' he
  cases hb:decide (k=k1) && decide (k'=k2) with
  | false=>rw [hb] at h; cases h
  | true =>
   rw [hb,cond_true] at h
   cases h
   simp only [Bool.and_eq_true,decide_eq_true_eq] at hb
   obtain ⟨rfl,rfl⟩:=hb
   obtain ⟨u,h1,h2⟩:=H.val he
   rw [h2]
   cases h1
   rfl
 ·cases h
theorem eqHook_ok {P:Program} {Gl:List (Nat×(List Value→Prop))} {T:TypeId} {k1 k2:IntKind} (hT:PairEq P T k1 k2) (hg:∀ (op:BinOp) (X Y:Operand) (x1 x2 y1 y2:Int) (w:World),(eqGuard op T X Y (.agg #[.int k1 x1,.int k2 x2]) (.agg #[.int k1 y1,.int k2 y2])).run P w=.ok () w):HookOK tbl (GC P Gl) (eqHook T k1 k2):=by
 intro C ρ S a w fr o ev m H hG ps e hk hp
 unfold eqHook at hk
 split at hk
 ·rename_i op T' x y z ho
  cases hb:Nat.beq T' T with
  | false=>rw [hb] at hk; cases hk
  | true =>
   have:=Nat.eq_of_beq_eq_true hb
   subst this
   rw [hb,cond_true] at hk
   split at hk
   ·rename_i x1 x2 y1 y2 hx hy
    have ex:=pairOf_val H hx
    have ey:=pairOf_val H hy
    have hTw:=hT x1 x2 y1 y2 w
    rw [← hG.prog] at hTw
    have hgw:=hg op x y x1 x2 y1 y2 w
    rw [← hG.prog] at hgw
    split at hk
    ·cases hk
     refine H.pure (v:=.bool (decide (x1=y1) && decide (x2=y2))) ?_ rfl
     unfold execOp
     simp [ho,ex,ey,hgw,binOp,hTw]
    ·cases hk
     refine H.pure (v:=.bool (!(decide (x1=y1) && decide (x2=y2)))) ?_ rfl
     unfold execOp
     simp [ho,ex,ey,hgw,binOp,hTw]
    ·cases hk
   ·cases hk
 ·cases hk
def isU8 (tbl:Tbl) (T:TypeId):Bool:=match sliceOf tbl T with | some e=>(match intOf' tbl e with | some .u8=>true | _=>false) | none=>false
def b2sHook (tbl:Tbl):Hook:=fun fr o ev m =>
 match o.op with
 | .convert T U x =>
  bif isU8 tbl T && isStr tbl U then
   match ev x with
   | some (.one y) =>
    match absC m (.rd (.ints .u8 [])) y with
    | some (.rd (.ints .u8 l))=>some ([],⟨.one (.str (l.map fun n=>UInt8.ofNat n.toNat)),[]⟩)
    | _=>none
   | _=>none
  else none
 | _=>none
theorem foldl_push (l:List Int):∀ (b:ByteArray),l.foldl (fun r n=>r.push (UInt8.ofNat n.toNat)) b=⟨b.data++(l.map fun n=>UInt8.ofNat n.toNat).toArray⟩:=by
 induction l with
 | nil=>intro b; simp
 | cons n l ih =>
  intro b
  simp only [List.foldl_cons,ih,List.map_cons]
  congr 1
  simp [ByteArray.push]
theorem b2sHook_ok {G:Ctx→Prop}:HookOK tbl G (b2sHook tbl):=by
 intro C ρ S a w fr o ev m H hG ps e hk hp
 unfold b2sHook at hk
 split at hk
 ·rename_i T U x ho
  cases hb:isU8 tbl T && isStr tbl U with
  | false=>rw [hb] at hk; cases hk
  | true =>
   rw [hb,cond_true] at hk
   simp only [Bool.and_eq_true] at hb
   obtain ⟨hb1,hb2⟩:=hb
   split at hk
   ·rename_i y hy
    split at hk
    ·rename_i l hl
     cases hk
     have hr:=H.reads hy hl
     have hU:=isStr_get H.tbl hb2
     have hT:∃ el,C.P.underlying T=some (.slice el)∧C.P.underlying el=some (.int .u8):=by
      unfold isU8 at hb1
      split at hb1
      ·rename_i el hel
       split at hb1
       ·rename_i hi
        exact ⟨el,sliceOf_get H.tbl hel,intOf_get H.tbl hi⟩
       ·cases hb1
      ·cases hb1
     obtain ⟨el,hT1,hT2⟩:=hT
     obtain ⟨A,c,h1,h2,h3,h4⟩:=hr
     refine H.pure (v:=.string ⟨(l.map fun n=>UInt8.ofNat n.toNat).toArray⟩) ?_ rfl
     have hcv:(Conv.bytesToString (a.eval x)).run C.P w=.ok (.string ⟨(l.map fun n=>UInt8.ofNat n.toNat).toArray⟩) w:=by
      rw [h1]
      cases A with
      | none =>
       have:l=[]:=by
        cases l with
        | nil=>rfl
        | cons n l=>exact absurd (h4 (by simp [Ls.len])) (by simp)
       subst this
       rfl
      | some ad =>
       have hload:(loadCells ad (Ls.len (.ints .u8 l))).run C.P w=.ok (l.map (Value.int .u8)).toArray w:=by
        have:Ls.len (.ints .u8 l)=(l.map (Value.int .u8)).length:=by simp [Ls.len]
        rw [this]
        refine run_loadCells_list w ad _ fun j v hv=>?_
        have hj:j<l.length:=by have:=(List.getElem?_eq_some_iff.1 hv).1; simpa using this
        obtain ⟨b,off,e1,e2,_⟩:=h4 (by simp only [Ls.len]; omega)
        cases e1
        have:=e2 j (by simp only [Ls.len,Ls.sz]; omega)
        rw [Addr.add_lit,this]
        simp only [Ls.flat,Ls.rows]
        rw [← hv]
        have hfl:∀ l:List Int,(l.map fun n=>[Value.int IntKind.u8 n]).flatten=l.map (Value.int .u8):=by
         intro l
         induction l with
         | nil=>rfl
         | cons n l ih=>simp [ih]
        rw [hfl]
       rw [run_bytesToString w ad _ c l hload,foldl_push]
       simp
     unfold execOp
     simp [ho,convert,run_underlying hT1,run_underlying hU,run_underlying hT2,h1] at hcv ⊢
     simp [hcv]
    ·cases hk
   ·cases hk
 ·cases hk
theorem does_enter (H:Here C tbl ρ S a w fr o ev m) {f:Nat} {args:Array Value} {u:Value} {x:SV} (hr:(execOp a.eval o).run C.P w=.ok (.enter f args) w)
  (hc:Calls C.P f args w fun e w'=>e=.returned u∧Fr (fun _=>False) w w') (hx:∀ ρ',ρ.le ρ'→denV ρ' x=some u):Does C ρ S a w fr o ⟨x,[]⟩:=by
 intro K Q hK
 unfold Oper.wp
 rw [hr,Oper.upon_enter]
 refine hc.mono ?_
 rintro en w' ⟨rfl,hfr⟩
 refine hK ρ _ w' (Env.le_refl ρ) (Dom.refl ρ fr) ?_
 exact H.sat.step (G:=fun _=>False) o.dst ⟨x,[]⟩ u (Env.le_refl ρ) H.sat.one (fun _ _=>rfl) hfr (fun _ hg=>hg.elim) (fun _ _=>hx ρ (Env.le_refl ρ)) H.dst (fun _ _ _ _ _ _ _ _ hg=>hg)
  (fun _ _ hl=>by simp [look] at hl) (fun _ _ _ _ _ _ hl=>by simp [look] at hl)
def Iv.at_:Iv→Int
 | .single _ _ p=>p
 | .padding _ p=>p
 | .plain _ p=>p
 | .quoted _ p=>p
def Iv.isE:Iv→Bool
 | .single ..=>true
 | .padding ..=>true
 | _=>false
def Iv.isT:Iv→Bool
 | .plain ..=>true
 | .quoted ..=>true
 | _=>false
def placeHook (nmE nmT:String):Hook:=fun fr o ev m =>
 match o.op with
 | .call ⟨.invoke x name,args,_⟩ =>
  match args.toList,ev x with
  | [],some (.one (.iv y)) =>
   bif name==nmE then some ([y.isE=true],⟨.one (.int .i64 y.at_),[]⟩)
   else bif name==nmT then some ([y.isT=true],⟨.one (.int .i64 y.at_),[]⟩) else none
  | _,_=>none
 | _=>none
def PlaceOK (P:Program) (Gl:List (Nat×(List Value→Prop))) (nm:String) (ok:Iv→Bool):Prop :=
 ∀ y:Iv,ok y=true→∀ w:World,Glob Gl w→∃ f args,(callMethod y.enc nm #[]).run P w=.ok (.enter f args) w∧Calls P f args w fun e w'=>e=.returned (.int .i64 y.at_)∧Fr (fun _=>False) w w'
theorem placeHook_ok {P:Program} {Gl:List (Nat×(List Value→Prop))} {nmE nmT:String} (hE:PlaceOK P Gl nmE Iv.isE) (hT:PlaceOK P Gl nmT Iv.isT):HookOK tbl (GC P Gl) (placeHook nmE nmT):=by
 intro C ρ S a w fr o ev m H hG ps e hk hp
 have go:∀ (nm:String) (ok:Iv→Bool) (x:Operand) (args:Array Operand) (ts:Array TypeId) (y:Iv),PlaceOK P Gl nm ok→o.op=.call ⟨.invoke x nm,args,ts⟩→args.toList=[]→ev x=some (.one (.iv y))→ok y=true →
   Does C ρ S a w fr o ⟨.one (.int .i64 y.at_),[]⟩:=by
  intro nm ok x args ts y hpl ho ha hx hok
  obtain ⟨u,h1,h2⟩:=H.val hx
  simp only [denV,den,Option.some.injEq] at h1
  subst h1
  obtain ⟨f,fargs,h3,h4⟩:=hpl y hok w (hG.now H.sat)
  have ha':args = #[]:=by apply Array.toList_inj.1; rw [ha]
  subst ha'
  refine does_enter H (f:=f) (args:=fargs) (u:=.int .i64 y.at_) ?_ (by rw [hG.prog]; exact h4) (fun _ _=>rfl)
  unfold execOp
  simp only [ho,resolve,h2,Sem.run_bind,Sem.run_pure,Result.andThen_ok,invoke]
  rw [hG.prog]
  simpa using h3
 unfold placeHook at hk
 split at hk
 ·rename_i x name args ts ho
  split at hk
  ·rename_i y ha hx
   cases hb:name==nmE with
   | true =>
    rw [hb,cond_true] at hk
    cases hk
    have:=eq_of_beq hb
    subst this
    exact go _ _ x args ts y hE ho ha hx hp
   | false =>
    rw [hb,cond_false] at hk
    cases hb2:name==nmT with
    | true =>
     rw [hb2,cond_true] at hk
     cases hk
     have:=eq_of_beq hb2
     subst this
     exact go _ _ x args ts y hT ho ha hx hp
    | false=>rw [hb2] at hk; cases hk
  ·cases hk
 ·cases hk
def makeHook (tbl:Tbl):Hook:=fun fr o ev m =>
 match o.op with
 | .makeSlice T x y =>
  match sliceOf tbl T,ev x,ev y with
  | some e,some (.one (.int _ n)),some (.one (.int _ c)) =>
   match look e tbl,initLs e with
   | some t,some l=>bif Nat.beq t.size l.sz then some ([n=0,0≤c∧c≤140737488355327∧t.bytes*c.toNat≤281474976710656],⟨.one (.slc fr),[(fr,some (.row e l))]⟩) else none
   | _,_=>none
  | _,_,_=>none
 | _=>none
theorem makeHook_ok {G:Ctx→Prop}:HookOK tbl G (makeHook tbl):=by
 intro C ρ S a w fr o ev m H hG ps e hk hp
 unfold makeHook at hk
 split at hk
 ·rename_i T x y ho
  split at hk
  ·rename_i ee k1 n k2 c hT hx hy
   split at hk
   ·rename_i t l ht hl
    cases hb:Nat.beq t.size l.sz with
    | false=>rw [hb] at hk; cases hk
    | true =>
     rw [hb,cond_true] at hk
     cases hk
     obtain ⟨rfl,hc0,hc1,hc2⟩:=hp
     obtain ⟨inf,d,z,tt⟩:=tbl_get H.tbl ht
     obtain ⟨u,h1,h2⟩:=H.val hx
     obtain ⟨u',h3,h4⟩:=H.val hy
     simp only [denV,den,Option.some.injEq] at h1 h3
     subst h1; subst h3
     obtain ⟨z1,z2⟩:=initLs_len hl
     have hsz:=Nat.eq_of_beq_eq_true hb
     obtain ⟨w',r1,r2,r3⟩:=run_make_own (P:=C.P) w w.heap.size T ee inf z l.sz (sliceOf_get H.tbl hT) tt.info tt.zero (by rw [tt.size,hsz]) k1 k2 c.toNat (by rw [tt.bytes]; exact hc2) (by simp only [maxLen]; omega) (Nat.le_refl _)
     rw [Int.toNat_of_nonneg hc0] at r1
     have hrun:(execOp a.eval o).run C.P w=.ok (.value (.slice (some ⟨w.heap.size,0,none⟩) 0 c.toNat)) w':=by
      unfold execOp
      simp only [ho,h2,h4,Sem.run_bind,r1,Result.andThen_ok,Sem.run_pure]
     have r4:=World.ownsRowF_of r2
     have r5:w'.ownsRowF 0 ee l.sz (.slice (some ⟨w.heap.size,0,none⟩) 0 c.toNat) l.len l.flat:=by
      rw [z1,z2]
      refine ⟨r4.1,?_⟩
      rcases r4.2 with h0 | ⟨g,cap,cur,fz,e1,hbg,rest⟩
      ·exact .inl h0
      ·exact .inr ⟨g,cap,cur,fz,e1,Nat.zero_le _,rest⟩
     have:=append_does H (v:=.slice none 0 0) (l':=l) (e:=ee) (fun g hg=>by simp [Value.ownBlock] at hg)
      ⟨_,w',hrun,r5,r3,fun g hg=>.inr (by simp [Value.ownBlock] at hg; omega)⟩ [] (fun k b hk=>by simp [look] at hk) (fun k b u _ _ _ g _ hg=>by simp [Value.ownBlock] at hg)
     exact this
   ·cases hk
  ·cases hk
 ·cases hk
abbrev GSyms:=List (Nat×List SC)
def rawGlob:Option SV→Option Nat
 | some (.one (.raw (.pointer (some ⟨g,0,none⟩))))=>some g
 | _=>none
def globHook (tbl:Tbl) (Gs:GSyms):Hook:=fun fr o ev m =>
 match o.op with
 | .indexAddr T x i =>
  match rawGlob (ev x),ev i,arrOf tbl T with
  | some g,some (.one (.int _ n)),some (c,e)=>(look e tbl).map fun t=>([0≤n∧n<c],⟨.one (.gpt g n.toNat t.size 0),[]⟩)
  | _,_,_=>none
 | .fieldAddr T x f =>
  match (fieldsOf tbl T).bind fun fs=>fs[f]?,ev x with
  | some fl,some (.one (.gpt g i sz k))=>some ([],⟨.one (.gpt g i sz (k+fl.1)),[]⟩)
  | _,_=>none
 | .load T x =>
  match look T tbl,ev x with
  | some i,some (.one (.gpt g n sz k)) =>
   (look g Gs).bind fun cs=>bif Nat.ble 1 sz && Nat.ble (k+i.size) sz then ((pickCells cs sz (cs.length / sz) n i.size k).bind (svOf i.agg)).map fun v=>([n<cs.length / sz],⟨v,[]⟩) else none
  | some i,y =>
   (rawGlob y).bind fun g=>(look g Gs).bind fun cs=>bif Nat.beq i.size cs.length then (svOf i.agg cs).map fun v=>([],⟨v,[]⟩) else none
  | _,_=>none
 | _=>none
def GsOK (Gs:GSyms) (Gl:List (Nat×(List Value→Prop))):Prop:=∀ g cs,look g Gs=some cs→∃ q vs,(g,q)∈Gl∧(∀ l,q l→l=vs)∧denL (fun _=>none) cs=some vs
theorem rawGlob_val (H:Here C tbl ρ S a w fr o ev m) {x:Operand} {g:Nat} (h:rawGlob (ev x)=some g):a.eval x=.pointer (some ⟨g,0,none⟩):=by
 unfold rawGlob at h
 split at h
 ·rename_i hx
  cases h
  obtain ⟨u,h1,h2⟩:=H.val hx
  simp only [denV,den,Value.oneCell',if_true,Option.some.injEq] at h1
  rw [h2,← h1]
 ·cases h
theorem globHook_ok {P:Program} {Gl:List (Nat×(List Value→Prop))} {Gs:GSyms} (hGs:GsOK Gs Gl):HookOK tbl (GC P Gl) (globHook tbl Gs):=by
 intro C ρ S a w fr o ev m H hG ps e hk hp
 have cells:∀ g cs,look g Gs=some cs→∃ vs,denL ρ cs=some vs∧∀ j v,vs[j]? = some v→w.cell? ⟨g,j,none⟩=some v:=by
  intro g cs h
  obtain ⟨q,vs,h1,hq,h2⟩:=hGs g cs h
  obtain ⟨cs',ty,fz,h3,h4⟩:=hG.now H.sat _ h1
  rw [hq cs' h4] at h3
  refine ⟨vs,denL_le (fun k v hk=>by cases hk) h2,fun j v hj=>?_⟩
  simp [World.cell?,h3,hj]
 unfold globHook at hk
 split at hk
 ·rename_i T x i ho
  split at hk
  ·rename_i g kd n c ee hg hi ha
   rw [Option.map_eq_some_iff] at hk
   obtain ⟨t,ht,hk⟩:=hk
   cases hk
   have hp:0≤n∧n<(c:Int):=hp
   have e1:=rawGlob_val H hg
   obtain ⟨u,h1,h2⟩:=H.val hi
   simp only [denV,den,Option.some.injEq] at h1
   subst h1
   have hu:=arrOf_get H.tbl ha
   refine H.pure (v:=.pointer (some ⟨g,n.toNat*t.size,none⟩)) ?_ (by simp [denV,den])
   unfold execOp
   have hn:¬ (n<0∨(c:Int)≤n):=by omega
   simp [ho,e1,h2,Instr.indexAt,asIntOf,run_underlying hu,Instr.sureAddr,sizeIs H.tbl ht,Addr.add_lit,hp.1,hp.2]
  ·cases hk
 ·rename_i T x f ho
  split at hk
  ·rename_i fl g i sz k hfl hx
   cases hk
   rw [Option.bind_eq_some_iff] at hfl
   obtain ⟨fs,hfs,hf⟩:=hfl
   obtain ⟨u,h1,h2⟩:=H.val hx
   simp only [denV,den,Option.some.injEq] at h1
   subst h1
   obtain ⟨fields,q1,q2⟩:=fieldsOf_get H.tbl hfs
   obtain ⟨fll,inf,d,r1,r2,r3,r4,r5,r6,r7⟩:=fieldsOK_get q2 hf
   refine H.pure (v:=.pointer (some ⟨g,i*sz+(k+fl.1),none⟩)) ?_ (by simp [denV,den])
   unfold execOp
   have hsz:(sizeOf fll.type).run C.P w=.ok fl.2.1 w:=by simp [sizeOf,typeInfo,r3,r4]
   rw [Array.getElem?_toList] at r1
   simp only [ho,Instr.fieldAt,Sem.run_bind,run_underlying q1,Result.andThen_ok,r1,Instr.sureAddr,h2,Sem.run_pure,fieldPlace,hsz]
   rw [if_neg (by omega)]
   simp only [Sem.run_pure,Result.andThen_ok,Addr.add_lit,r2,Nat.add_assoc]
  ·cases hk
 ·rename_i T x ho
  split at hk
  ·rename_i i g n sz k hi hx
   rw [Option.bind_eq_some_iff] at hk
   obtain ⟨cs,h3,hk⟩:=hk
   cases hc:Nat.ble 1 sz && Nat.ble (k+i.size) sz with
   | false=>rw [hc] at hk; cases hk
   | true =>
    rw [hc,cond_true,Option.map_eq_some_iff] at hk
    obtain ⟨v,hv,hk⟩:=hk
    cases hk
    rw [Option.bind_eq_some_iff] at hv
    obtain ⟨r,hr,hs⟩:=hv
    have hp:n<cs.length / sz:=hp
    obtain ⟨u,h1,h2⟩:=H.val hx
    simp only [denV,den,Option.some.injEq] at h1
    obtain ⟨vs,f1,f2⟩:=cells g cs h3
    obtain ⟨us,q1,q2,q3⟩:=pickCells_den hp f1 hr
    refine load_at H ho hi h2 (b:=g) (off:=n*sz+k) h1.symm hs q1 q2 fun j w hj=>?_
    have:=f2 _ _ (q3 j w hj)
    rw [show n*sz+k+j=n*sz+(k+j) by omega]
    exact this
  ·rename_i i hi _
   rw [Option.bind_eq_some_iff] at hk
   obtain ⟨g,hg,hk⟩:=hk
   rw [Option.bind_eq_some_iff] at hk
   obtain ⟨cs,h3,hk⟩:=hk
   cases hc:Nat.beq i.size cs.length with
   | false=>rw [hc] at hk; cases hk
   | true =>
    rw [hc,cond_true,Option.map_eq_some_iff] at hk
    obtain ⟨v,hv,hk⟩:=hk
    cases hk
    obtain ⟨vs,f1,f2⟩:=cells g cs h3
    refine load_at H ho hi rfl (b:=g) (off:=0) (rawGlob_val H hg) hv f1 (by rw [denL_length f1]; exact (Nat.eq_of_beq_eq_true hc).symm) fun j w hj=>?_
    rw [Nat.zero_add]
    exact f2 j w hj
  ·cases hk
 ·cases hk
def encB (r:Int):List UInt8:=(Utf8.encode r).data.toList
def r2sHook (tbl:Tbl):Hook:=fun fr o ev m =>
 match o.op with
 | .convert T U x =>
  bif isStr tbl U && (match sliceOf tbl T with | some e=>(match intOf' tbl e with | some .i32=>true | _=>false) | none=>false) then
   match ev x with
   | some (.one y) =>
    match absC m (.rd (.ints .i32 [])) y with
    | some (.rd (.ints .i32 [r]))=>some ([],⟨.one (.str (encB r)),[]⟩)
    | _=>none
   | _=>none
  else none
 | _=>none
theorem r2sHook_ok {G:Ctx→Prop}:HookOK tbl G (r2sHook tbl):=by
 intro C ρ S a w fr o ev m H hG ps e hk hp
 unfold r2sHook at hk
 split at hk
 ·rename_i T U x ho
  cases hb:isStr tbl U && (match sliceOf tbl T with | some e=>(match intOf' tbl e with | some .i32=>true | _=>false) | none=>false) with
  | false=>rw [hb] at hk; cases hk
  | true =>
   rw [hb,cond_true] at hk
   simp only [Bool.and_eq_true] at hb
   obtain ⟨hb2,hb1⟩:=hb
   split at hk
   ·rename_i y hy
    split at hk
    ·rename_i r hl
     cases hk
     have hr:=H.reads hy hl
     have hU:=isStr_get H.tbl hb2
     have hT:∃ el,C.P.underlying T=some (.slice el)∧C.P.underlying el=some (.int .i32):=by
      split at hb1
      ·rename_i el hel
       split at hb1
       ·rename_i hi
        exact ⟨el,sliceOf_get H.tbl hel,intOf_get H.tbl hi⟩
       ·cases hb1
      ·cases hb1
     obtain ⟨el,hT1,hT2⟩:=hT
     obtain ⟨A,c,h1,h2,h3,h4⟩:=hr
     obtain ⟨b,off,e1,e2,_⟩:=h4 (by simp [Ls.len])
     subst e1
     refine H.pure (v:=.string (Utf8.encode r)) ?_ (by simp [denV,den,encB])
     have hload:(loadCells ⟨b,off,none⟩ 1).run C.P w=.ok [Value.int .i32 r].toArray w:=by
      refine run_loadCells_list w ⟨b,off,none⟩ [Value.int .i32 r] fun j v hv=>?_
      have hj:j<1:=by have:=(List.getElem?_eq_some_iff.1 hv).1; simpa using this
      have:=e2 j (by simp only [Ls.len,Ls.sz,List.length_singleton]; omega)
      rw [Addr.add_lit,this]
      simp only [Ls.flat,Ls.rows]
      rw [← hv]
      rfl
     have hempty:(ByteArray.empty++Utf8.encode r)=Utf8.encode r:=by
      apply ByteArray.ext
      simp
     have hcv:(Conv.runesToString (a.eval x)).run C.P w=.ok (.string (Utf8.encode r)) w:=by
      rw [h1]
      simp only [Ls.len,List.length_singleton] at hload ⊢
      simp [Conv.runesToString,hload,hempty]
     unfold execOp
     simp [ho,convert,run_underlying hT1,run_underlying hU,run_underlying hT2,h1] at hcv ⊢
     simp [hcv]
    ·cases hk
   ·cases hk
 ·cases hk
def wrapHook (tbl:Tbl):Hook:=fun fr o ev m =>
 match o.op with
 | .convert T U x =>
  match intOf' tbl T,intOf' tbl U,ev x with
  | some _,some k,some (.one (.int _ n))=>some ([],⟨.one (.int k (k.wrap n)),[]⟩)
  | _,_,_=>none
 | _=>none
theorem wrapHook_ok {G:Ctx→Prop}:HookOK tbl G (wrapHook tbl):=by
 intro C ρ S a w fr o ev m H hG ps e hk hp
 unfold wrapHook at hk
 split at hk
 ·rename_i T U x ho
  split at hk
  ·rename_i k1 k j n hT hU hev
   cases hk
   obtain ⟨u,h1,h2⟩:=H.val hev
   simp only [denV,den,Option.some.injEq] at h1
   subst h1
   refine H.pure (v:=.int k (k.wrap n)) ?_ rfl
   unfold execOp
   simp [ho,h2,convert,run_underlying (intOf_get H.tbl hT),run_underlying (intOf_get H.tbl hU),Conv.intToInt]
  ·cases hk
 ·cases hk
end
end Go.Proofs.YtglfkihckkjniaaGreatDoor.Vx
namespace Go.Proofs.YtglfkihckkjniaaGreatDoor.Vx
open Go Go.RowKit
def bodyOf (f:Func):Code:=match f.body with | some c=>c | none=>.skip
theorem mixed:Tryz.prog.follows .mixedOrders=true:=by kernel_rfl
def signCells:List SC:=[.int .i64 2,.int .i32 45,.int .i64 3,.int .i32 43,.int .i64 4,.int .i32 37,.int .i64 5,.int .i32 8240,.int .i64 6,.int .i32 164]
def signVals:List Value:=[.int .i64 2,.int .i32 45,.int .i64 3,.int .i32 43,.int .i64 4,.int .i32 37,.int .i64 5,.int .i32 8240,.int .i64 6,.int .i32 164]
def firstVals:List Value:=(List.range 256).map fun c=>.int .u8 (Lib.firstT c)
def rangeVals:List Value:=(List.range 16).flatMap fun i=>[.int .u8 (Lib.accLo i),.int .u8 (Lib.accHi i)]
def Gl:List (Nat×(List Value→Prop)):=[(0,(·=signVals)),(1,(·=firstVals)),(2,(·=rangeVals)),(3,fun cs=>∃ m,cs=[.int .i64 m])]
def Gs:GSyms:=[(0,signCells)]
theorem Gs_ok:GsOK Gs Gl:=by
 intro g cs h
 unfold Gs at h
 rw [look_cons] at h
 split at h
 ·rename_i e
  cases h
  subst e
  exact ⟨(·=signVals),signVals,List.mem_cons_self ..,fun _ h=>h,rfl⟩
 ·cases h
theorem fault_struct:Tryz.prog.underlying 28=some (.struct (Tryz.prog.fieldsOf 28)):=by kernel_rfl
theorem fault_held:Tryz.prog.stoodInHeld 28=false:=by kernel_rfl
theorem fault_fields:(Tryz.prog.fieldsOf 28).toList=[{ name := "E",type:=26,offset:=0,embedded:=false,tag := "",pkgPath := "",byteOffset:=0 },{ name := "At",type:=3,offset:=1,embedded:=false,tag := "",pkgPath := "",byteOffset:=8 }]:=by kernel_rfl
theorem fault_eq:PairEq Tryz.prog 28 .i64 .i64:=by
 intro x1 x2 y1 y2 w
 show (Op.equalIn (9999+1) _ _ _).run _ _=_
 rw [run_equalIn_agg (w:=w) 9999 28 _ _ fault_struct fault_held,fault_fields]
 simp [go_sem,Op.eqFields]
 by_cases h1:x1=y1<;>by_cases h2:x2=y2<;>simp [h1,h2]
theorem fault_guard (op:BinOp) (X Y:Operand) (x1 x2 y1 y2:Int) (w:World):(eqGuard op 28 X Y (.agg #[.int .i64 x1,.int .i64 x2]) (.agg #[.int .i64 y1,.int .i64 y2])).run Tryz.prog w=.ok () w:=run_eqGuard_agg w op _ X Y _ _ (by kernel_rfl)
theorem item_struct:Tryz.prog.underlying 79=some (.struct (Tryz.prog.fieldsOf 79)):=by kernel_rfl
theorem item_held:Tryz.prog.stoodInHeld 79=false:=by kernel_rfl
theorem item_fields:(Tryz.prog.fieldsOf 79).toList=[{ name := "Kind",type:=3,offset:=0,embedded:=false,tag := "",pkgPath := "",byteOffset:=0 },{ name := "R",type:=21,offset:=1,embedded:=false,tag := "",pkgPath := "",byteOffset:=8 }]:=by kernel_rfl
theorem item_eq:PairEq Tryz.prog 79 .i64 .i32:=by
 intro x1 x2 y1 y2 w
 show (Op.equalIn (9999+1) _ _ _).run _ _=_
 rw [run_equalIn_agg (w:=w) 9999 79 _ _ item_struct item_held,item_fields]
 simp [go_sem,Op.eqFields]
 by_cases h1:x1=y1<;>by_cases h2:x2=y2<;>simp [h1,h2]
theorem item_guard (op:BinOp) (X Y:Operand) (x1 x2 y1 y2:Int) (w:World):(eqGuard op 79 X Y (.agg #[.int .i64 x1,.int .i32 x2]) (.agg #[.int .i64 y1,.int .i32 y2])).run Tryz.prog w=.ok () w:=run_eqGuard_agg w op _ X Y _ _ (by kernel_rfl)
def misc0:Hook:=orHook (eqHook 28 .i64 .i64) (orHook (eqHook 79 .i64 .i32) (orHook (b2sHook T) (orHook (r2sHook T) (orHook (makeHook T) (globHook T Gs)))))
theorem misc0_ok:HookOK T (GC Tryz.prog Gl) misc0:=orHook_ok (eqHook_ok fault_eq fault_guard) (orHook_ok (eqHook_ok item_eq item_guard) (orHook_ok b2sHook_ok (orHook_ok r2sHook_ok (orHook_ok makeHook_ok (globHook_ok Gs_ok)))))
def HKd (cs:List (Nat×FSpec)) (cas:List (Nat×ASpec)) (ms:Hook):Hook:=orHook (pureHook cs) (orHook (actHook cas) ms)
abbrev FnP (f:Nat) (s:FSpec):Prop:=Pure Tryz.prog Gl f s
abbrev FnA (f:Nat) (s:ASpec):Prop:=Acts Tryz.prog Gl f s
def OKP (cs:List (Nat×FSpec)):Prop:=∀ f s,look f cs=some s→FnP f s
def OKA (cas:List (Nat×ASpec)):Prop:=∀ f s,look f cas=some s→FnA f s
theorem OKP.nil:OKP []:=fun f s h=>by cases h
theorem OKP.cons {f:Nat} {s:FSpec} {cs:List (Nat×FSpec)} (h:FnP f s) (hs:OKP cs):OKP ((f,s) :: cs):=by
 intro g t ht
 rw [look_cons] at ht
 split at ht
 ·rename_i e; subst e; cases ht; exact h
 ·exact hs g t ht
theorem OKA.nil:OKA []:=fun f s h=>by cases h
theorem OKA.cons {f:Nat} {s:ASpec} {cs:List (Nat×ASpec)} (h:FnA f s) (hs:OKA cs):OKA ((f,s) :: cs):=by
 intro g t ht
 rw [look_cons] at ht
 split at ht
 ·rename_i e; subst e; cases ht; exact h
 ·exact hs g t ht
theorem HKd_ok {cs:List (Nat×FSpec)} {cas:List (Nat×ASpec)} {ms:Hook} (hc:OKP cs) (ha:OKA cas) (hm:HookOK T (GC Tryz.prog Gl) ms):HookOK T (GC Tryz.prog Gl) (HKd cs cas ms) :=
 orHook_ok (pureHook_ok hc) (orHook_ok (actHook_ok ha) hm)
def vcP (cs:List (Nat×FSpec)) (cas:List (Nat×ASpec)) (ms:Hook) (f:Func) (A:Ann) (pvs:List PV) (r:PV):Prop:=vcPure ⟨T,HKd cs cas ms,f.ntmps⟩ (bodyOf f) f.results.toList A pvs r
def vcA (cs:List (Nat×FSpec)) (cas:List (Nat×ASpec)) (ms:Hook) (f:Func) (A:Ann) (args:List SV) (mem:List (Nat×Option SB)) (r:SV) (post:List (Nat×Option SB)):Prop:=vcActs ⟨T,HKd cs cas ms,f.ntmps⟩ (bodyOf f) f.results.toList A args mem r post
theorem fnP_ok {cs:List (Nat×FSpec)} {cas:List (Nat×ASpec)} {ms:Hook} (hc:OKP cs) (ha:OKA cas) (hm:HookOK T (GC Tryz.prog Gl) ms) (k:Nat) (fn:Func) (hf:Tryz.prog.funcs[k]? = some fn) (hb:fn.body.isSome=true) (hn:(fn.name == "runtime.NumGoroutine")=false) {s:FSpec} (A:List PV→Ann)
  (hv:∀ pvs p r,s.spec pvs=some (p,r)→All p→vcP cs cas ms fn (A pvs) pvs r):FnP k s:=by
 obtain ⟨c,hc'⟩:=Option.isSome_iff_exists.1 hb
 refine vx_pure (k:=⟨T,HKd cs cas ms,fn.ntmps⟩) fn c hf hc' hn mixed T_ok (HKd_ok hc ha hm) rfl A ?_
 intro pvs p r hs hp
 have:=hv pvs p r hs hp
 unfold vcP bodyOf at this
 rw [hc'] at this
 exact this
theorem fnA_ok {cs:List (Nat×FSpec)} {cas:List (Nat×ASpec)} {ms:Hook} (hc:OKP cs) (ha:OKA cas) (hm:HookOK T (GC Tryz.prog Gl) ms) (k:Nat) (fn:Func) (hf:Tryz.prog.funcs[k]? = some fn) (hb:fn.body.isSome=true) (hn:(fn.name == "runtime.NumGoroutine")=false) {s:ASpec} (A:List SV→List (Nat×Option SB)→Ann)
  (hv:∀ args mem p r post,s.spec args mem=some (p,r,post)→All p→vcA cs cas ms fn (A args mem) args mem r post):FnA k s:=by
 obtain ⟨c,hc'⟩:=Option.isSome_iff_exists.1 hb
 refine vx_acts (k:=⟨T,HKd cs cas ms,fn.ntmps⟩) fn c hf hc' hn mixed T_ok (HKd_ok hc ha hm) rfl A ?_
 intro args mem p r post hs hp
 have:=hv args mem p r post hs hp
 unfold vcA bodyOf at this
 rw [hc'] at this
 exact this
end Go.Proofs.YtglfkihckkjniaaGreatDoor.Vx
namespace Go.Proofs.YtglfkihckkjniaaGreatDoor.Vx
open Go Go.RowKit
def sp_placeS:FSpec:=⟨[],fun | [.agg [.int .i32 r,.bool q,.int .i64 p]]=>some ([],.one (.int .i64 p)) | _=>none⟩
theorem vc_placeS (r:Int) (q:Bool) (p:Int):vcP [] [] misc0 Tryz.f184 (.nil) [.agg [.int .i32 r,.bool q,.int .i64 p]] (.one (.int .i64 p))=((p=p)):=by kernel_rfl
set_option maxHeartbeats 4000000 in
theorem of_placeS (h:∀ (r:Int) (q:Bool) (p:Int),vcP [] [] misc0 Tryz.f184 (.nil) [.agg [.int .i32 r,.bool q,.int .i64 p]] (.one (.int .i64 p))):FnP 184 sp_placeS:=by
 refine fnP_ok (cs:=[]) (cas:=[]) (ms:=misc0) .nil .nil misc0_ok 184 Tryz.f184 (by kernel_rfl) (by kernel_rfl) (by kernel_rfl) (fun _=>.nil) ?_
 intro pvs p r hs hp
 unfold sp_placeS at hs
 simp only at hs
 split at hs
 ·rename_i r q p
  cases hs
  refine h r q p
 ·cases hs
def sp_placeP:FSpec:=⟨[],fun | [.agg [.int .i32 r,.int .i64 p]]=>some ([],.one (.int .i64 p)) | _=>none⟩
theorem vc_placeP (r:Int) (p:Int):vcP [] [] misc0 Tryz.f183 (.nil) [.agg [.int .i32 r,.int .i64 p]] (.one (.int .i64 p))=((p=p)):=by kernel_rfl
set_option maxHeartbeats 4000000 in
theorem of_placeP (h:∀ (r:Int) (p:Int),vcP [] [] misc0 Tryz.f183 (.nil) [.agg [.int .i32 r,.int .i64 p]] (.one (.int .i64 p))):FnP 183 sp_placeP:=by
 refine fnP_ok (cs:=[]) (cas:=[]) (ms:=misc0) .nil .nil misc0_ok 183 Tryz.f183 (by kernel_rfl) (by kernel_rfl) (by kernel_rfl) (fun _=>.nil) ?_
 intro pvs p r hs hp
 unfold sp_placeP at hs
 simp only at hs
 split at hs
 ·rename_i r p
  cases hs
  refine h r p
 ·cases hs
def sp_placeL:FSpec:=⟨[],fun | [.agg [.int .i32 r,.int .i64 p]]=>some ([],.one (.int .i64 p)) | _=>none⟩
theorem vc_placeL (r:Int) (p:Int):vcP [] [] misc0 Tryz.f185 (.nil) [.agg [.int .i32 r,.int .i64 p]] (.one (.int .i64 p))=((p=p)):=by kernel_rfl
set_option maxHeartbeats 4000000 in
theorem of_placeL (h:∀ (r:Int) (p:Int),vcP [] [] misc0 Tryz.f185 (.nil) [.agg [.int .i32 r,.int .i64 p]] (.one (.int .i64 p))):FnP 185 sp_placeL:=by
 refine fnP_ok (cs:=[]) (cas:=[]) (ms:=misc0) .nil .nil misc0_ok 185 Tryz.f185 (by kernel_rfl) (by kernel_rfl) (by kernel_rfl) (fun _=>.nil) ?_
 intro pvs p r hs hp
 unfold sp_placeL at hs
 simp only at hs
 split at hs
 ·rename_i r p
  cases hs
  refine h r p
 ·cases hs
theorem ok_placeS:FnP 184 sp_placeS:=of_placeS (by intros; rw [vc_placeS])
theorem ok_placeP:FnP 183 sp_placeP:=of_placeP (by intros; rw [vc_placeP])
theorem ok_placeL:FnP 185 sp_placeL:=of_placeL (by intros; rw [vc_placeL])
theorem place_calls {f:Nat} {s:FSpec} (h:FnP f s) {l:List Pc} {vs:List Value} {p:Int} (hs:s.spec [.agg l]=some ([],.one (.int .i64 p))) (w:World) (hg:Glob Gl w) (hv:All2 (ReadsC w fun _=>False) vs l) :
  Calls Tryz.prog f #[.agg vs.toArray] w fun e w'=>e=.returned (.int .i64 p)∧Fr (fun _=>False) w w':=by
 refine (h.calls _ _ _ hs trivial w (fun _=>False) [.agg vs.toArray] hg (.cons ⟨vs,rfl,hv⟩ .nil)).mono ?_
 rintro e w' ⟨v,rfl,h1,h2⟩
 exact ⟨by rw [show v=.int .i64 p from h2],h1⟩
theorem placeE:PlaceOK Tryz.prog Gl "figurehead/pattern.place" Iv.isE:=by
 intro y hy w hg
 cases y with
 | single r q p=>exact ⟨184,#[.agg #[.int .i32 r,.bool q,.int .i64 p]],by kernel_rfl,place_calls (l:=[.int .i32 r,.bool q,.int .i64 p]) (vs:=[.int .i32 r,.bool q,.int .i64 p]) ok_placeS rfl w hg (.cons rfl (.cons rfl (.cons rfl .nil)))⟩
 | padding r p=>exact ⟨183,#[.agg #[.int .i32 r,.int .i64 p]],by kernel_rfl,place_calls (l:=[.int .i32 r,.int .i64 p]) (vs:=[.int .i32 r,.int .i64 p]) ok_placeP rfl w hg (.cons rfl (.cons rfl .nil))⟩
 | plain r p=>cases hy
 | quoted r p=>cases hy
theorem placeT:PlaceOK Tryz.prog Gl "figurehead/token.place" Iv.isT:=by
 intro y hy w hg
 cases y with
 | single r q p=>cases hy
 | padding r p=>cases hy
 | plain r p=>exact ⟨185,#[.agg #[.int .i32 r,.int .i64 p]],by kernel_rfl,place_calls (l:=[.int .i32 r,.int .i64 p]) (vs:=[.int .i32 r,.int .i64 p]) ok_placeL rfl w hg (.cons rfl (.cons rfl .nil))⟩
 | quoted r p=>exact ⟨185,#[.agg #[.int .i32 r,.int .i64 p]],by kernel_rfl,place_calls (l:=[.int .i32 r,.int .i64 p]) (vs:=[.int .i32 r,.int .i64 p]) ok_placeL rfl w hg (.cons rfl (.cons rfl .nil))⟩
def misc:Hook:=orHook misc0 (placeHook "figurehead/pattern.place" "figurehead/token.place")
theorem misc_ok:HookOK T (GC Tryz.prog Gl) misc:=orHook_ok misc0_ok (placeHook_ok placeE placeT)
end Go.Proofs.YtglfkihckkjniaaGreatDoor.Vx
namespace Go.Proofs.YtglfkihckkjniaaGreatDoor.Vx
open Go
def scalar (r:Int):Bool:=decide (0≤r∧r≤1114111∧(r<55296∨r>57343))
theorem scalar_iff {r:Int}:scalar r=true↔0≤r∧r≤1114111∧(r<55296∨r>57343):=by simp [scalar]
def bt (s:List UInt8) (i:Nat):Nat:=(s.getD i 0).toNat
theorem bt_lt (s:List UInt8) (i:Nat):bt s i<256:=(s.getD i 0).toNat_lt
def decL (s:List UInt8):Nat×Nat:=Lib.decodeN s.length (bt s 0) (bt s 1) (bt s 2) (bt s 3)
theorem get_bytes (s:List UInt8) (i:Nat):((⟨s.toArray⟩:ByteArray).get! i)=s.getD i 0:=by
 show (s.toArray[i]!)=_
 simp [List.getElem!_eq_getElem?_getD,List.getD_eq_getElem?_getD]
 rfl
theorem getD_drop (s:List UInt8) (p i:Nat):(s.drop p).getD i 0=s.getD (p+i) 0:=by
 simp [List.getD_eq_getElem?_getD,List.getElem?_drop]
theorem decode_drop (s:List UInt8) (p:Nat):Utf8.decode ⟨s.toArray⟩ p=decL (s.drop p):=by
 rw [Lib.decode_at]
 unfold decL bt
 simp only [get_bytes,getD_drop,List.length_drop,Nat.add_zero]
 rfl
def enc (r:Int):List UInt8:=(Lib.encodeRuneZ r).map fun n=>UInt8.ofNat n.toNat
theorem ofNat_toNat {n:Int} (h0:0≤n) (h1:n<256):((UInt8.ofNat n.toNat).toNat:Int)=n:=by
 rw [UInt8.toNat_ofNat']
 omega
theorem u8_eq {n:Int} {c:UInt8} (h0:0≤n) (h1:n<256):c=UInt8.ofNat n.toNat↔(c.toNat:Int)=n:=by
 constructor
 ·rintro rfl; exact ofNat_toNat h0 h1
 ·intro h
  apply UInt8.toNat_inj.1
  rw [UInt8.toNat_ofNat']
  omega
theorem enc1 {r:Int} (h0:0≤r) (h1:r<128):enc r=[UInt8.ofNat r.toNat]:=by
 unfold enc; rw [Lib.encodeRuneZ_one h0 (by omega)]; rfl
theorem enc2 {r:Int} (h0:128≤r) (h1:r<2048):enc r=[UInt8.ofNat (192+r / 64).toNat,UInt8.ofNat (128+r % 64).toNat]:=by
 unfold enc; rw [Lib.encodeRuneZ_two h0 (by omega)]; rfl
theorem enc3 {r:Int} (h:(2048≤r∧r<55296)∨(57343<r∧r≤65535)):enc r=[UInt8.ofNat (224+r / 4096).toNat,UInt8.ofNat (128+r / 64 % 64).toNat,UInt8.ofNat (128+r % 64).toNat]:=by
 unfold enc; rw [Lib.encodeRuneZ_three h]; rfl
theorem enc4 {r:Int} (h0:65536≤r) (h1:r≤1114111):enc r=[UInt8.ofNat (240+r / 262144).toNat,UInt8.ofNat (128+r / 4096 % 64).toNat,UInt8.ofNat (128+r / 64 % 64).toNat,UInt8.ofNat (128+r % 64).toNat]:=by
 unfold enc; rw [Lib.encodeRuneZ_four h0 h1]; rfl
def Starts (s:List UInt8) (r:Int):Prop:=scalar r=true∧enc r <+: s
theorem pre_cons {s l:List UInt8} {a:Int} (ha:0≤a∧a<256):(UInt8.ofNat a.toNat :: l) <+: s↔1≤s.length∧(bt s 0:Int)=a∧l <+: s.drop 1:=by
 cases s with
 | nil=>simp
 | cons x s =>
  rw [List.cons_prefix_cons,eq_comm,u8_eq ha.1 ha.2]
  simp [bt]
theorem pre1 {s:List UInt8} {a:Int} (ha:0≤a∧a<256):[UInt8.ofNat a.toNat] <+: s↔1≤s.length∧(bt s 0:Int)=a:=by
 rw [pre_cons ha]; simp
theorem bt_drop (s:List UInt8) (p i:Nat):bt (s.drop p) i=bt s (p+i):=by unfold bt; rw [getD_drop]
theorem pre2 {s:List UInt8} {a b:Int} (ha:0≤a∧a<256) (hb:0≤b∧b<256):[UInt8.ofNat a.toNat,UInt8.ofNat b.toNat] <+: s↔2≤s.length∧(bt s 0:Int)=a∧(bt s 1:Int)=b:=by
 rw [pre_cons ha,pre1 hb,bt_drop,List.length_drop]
 constructor
 ·rintro ⟨h1,h2,h3,h4⟩; exact ⟨by omega,h2,h4⟩
 ·rintro ⟨h1,h2,h3⟩; exact ⟨by omega,h2,by omega,h3⟩
theorem pre3 {s:List UInt8} {a b c:Int} (ha:0≤a∧a<256) (hb:0≤b∧b<256) (hc:0≤c∧c<256):[UInt8.ofNat a.toNat,UInt8.ofNat b.toNat,UInt8.ofNat c.toNat] <+: s↔3≤s.length∧(bt s 0:Int)=a∧(bt s 1:Int)=b∧(bt s 2:Int)=c:=by
 rw [pre_cons ha,pre2 hb hc,bt_drop,bt_drop,List.length_drop]
 constructor
 ·rintro ⟨h1,h2,h3,h4,h5⟩; exact ⟨by omega,h2,h4,h5⟩
 ·rintro ⟨h1,h2,h3,h4⟩; exact ⟨by omega,h2,by omega,h3,h4⟩
theorem pre4 {s:List UInt8} {a b c d:Int} (ha:0≤a∧a<256) (hb:0≤b∧b<256) (hc:0≤c∧c<256) (hd:0≤d∧d<256):[UInt8.ofNat a.toNat,UInt8.ofNat b.toNat,UInt8.ofNat c.toNat,UInt8.ofNat d.toNat] <+: s↔4≤s.length∧(bt s 0:Int)=a∧(bt s 1:Int)=b∧(bt s 2:Int)=c∧(bt s 3:Int)=d:=by
 rw [pre_cons ha,pre3 hb hc hd,bt_drop,bt_drop,bt_drop,List.length_drop]
 constructor
 ·rintro ⟨h1,h2,h3,h4,h5,h6⟩; exact ⟨by omega,h2,h4,h5,h6⟩
 ·rintro ⟨h1,h2,h3,h4,h5⟩; exact ⟨by omega,h2,by omega,h3,h4,h5⟩
def Cls (s:List UInt8) (r:Int) (k:Nat):Prop :=
 (k=1∧0≤r∧r<128∧1≤s.length∧(bt s 0:Int)=r) ∨
 (k=2∧128≤r∧r<2048∧2≤s.length∧(bt s 0:Int)=192+r / 64∧(bt s 1:Int)=128+r % 64) ∨
 (k=3∧((2048≤r∧r<55296)∨(57343<r∧r≤65535))∧3≤s.length∧(bt s 0:Int)=224+r / 4096∧(bt s 1:Int)=128+r / 64 % 64∧(bt s 2:Int)=128+r % 64) ∨
 (k=4∧65536≤r∧r≤1114111∧4≤s.length∧(bt s 0:Int)=240+r / 262144∧(bt s 1:Int)=128+r / 4096 % 64∧(bt s 2:Int)=128+r / 64 % 64∧(bt s 3:Int)=128+r % 64)
theorem cls_iff {s:List UInt8} {r:Int} {k:Nat}:Cls s r k↔Starts s r∧k=(enc r).length:=by
 unfold Cls Starts
 rw [scalar_iff]
 constructor
 ·rintro (⟨rfl,h1,h2,h3,h4⟩ | ⟨rfl,h1,h2,h3,h4,h5⟩ | ⟨rfl,h1,h3,h4,h5,h6⟩ | ⟨rfl,h1,h2,h3,h4,h5,h6,h7⟩)
  ·rw [enc1 h1 h2,pre1 (by omega)]; exact ⟨⟨by omega,h3,h4⟩,rfl⟩
  ·rw [enc2 h1 h2,pre2 (by omega) (by omega)]; exact ⟨⟨by omega,h3,h4,h5⟩,rfl⟩
  ·rw [enc3 h1,pre3 (by omega) (by omega) (by omega)]; exact ⟨⟨by omega,h3,h4,h5,h6⟩,rfl⟩
  ·rw [enc4 h1 h2,pre4 (by omega) (by omega) (by omega) (by omega)]; exact ⟨⟨by omega,h3,h4,h5,h6,h7⟩,rfl⟩
 ·rintro ⟨⟨h0,h1⟩,h2⟩
  by_cases c1:r<128
  ·rw [enc1 h0.1 c1,pre1 (by omega)] at h1; rw [enc1 h0.1 c1] at h2; exact .inl ⟨h2,h0.1,c1,h1⟩
  ·by_cases c2:r<2048
   ·rw [enc2 (by omega) c2,pre2 (by omega) (by omega)] at h1; rw [enc2 (by omega) c2] at h2; exact .inr (.inl ⟨h2,by omega,c2,h1⟩)
   ·by_cases c3:r≤65535
    ·have c:(2048≤r∧r<55296)∨(57343<r∧r≤65535):=by omega
     rw [enc3 c,pre3 (by omega) (by omega) (by omega)] at h1; rw [enc3 c] at h2; exact .inr (.inr (.inl ⟨h2,c,h1⟩))
    ·rw [enc4 (by omega) (by omega),pre4 (by omega) (by omega) (by omega) (by omega)] at h1; rw [enc4 (by omega) (by omega)] at h2; exact .inr (.inr (.inr ⟨h2,by omega,by omega,h1⟩))
theorem enc_len (r:Int):1≤(enc r).length∧(enc r).length≤4:=by
 have:=Lib.encodeRuneZ_length r
 simpa [enc] using this
theorem two_of {x0 x1:Nat} (h0:x0 / 32=6) (h1:x1 / 64=2):((x0:Int)=192+((x0 % 32*64+x1 % 64:Nat):Int) / 64)∧((x1:Int)=128+((x0 % 32*64+x1 % 64:Nat):Int) % 64)∧x0 % 32*64+x1 % 64<2048:=by
 obtain ⟨a,rfl,ha⟩:∃ a,x0=192+a∧a<32:=⟨x0-192,by omega,by omega⟩
 obtain ⟨b,rfl,hb⟩:∃ b,x1=128+b∧b<64:=⟨x1-128,by omega,by omega⟩
 have e0:(192+a) % 32=a:=by omega
 have e1:(128+b) % 64=b:=by omega
 rw [e0,e1]
 omega
theorem three_of {x0 x1 x2:Nat} (h0:x0 / 16=14) (h1:x1 / 64=2) (h2:x2 / 64=2):((x0:Int)=224+((x0 % 16*4096+x1 % 64*64+x2 % 64:Nat):Int) / 4096)∧((x1:Int)=128+((x0 % 16*4096+x1 % 64*64+x2 % 64:Nat):Int) / 64 % 64) ∧
  ((x2:Int)=128+((x0 % 16*4096+x1 % 64*64+x2 % 64:Nat):Int) % 64)∧x0 % 16*4096+x1 % 64*64+x2 % 64<65536:=by
 obtain ⟨a,rfl,ha⟩:∃ a,x0=224+a∧a<16:=⟨x0-224,by omega,by omega⟩
 obtain ⟨b,rfl,hb⟩:∃ b,x1=128+b∧b<64:=⟨x1-128,by omega,by omega⟩
 obtain ⟨c,rfl,hc⟩:∃ b,x2=128+b∧b<64:=⟨x2-128,by omega,by omega⟩
 have e0:(224+a) % 16=a:=by omega
 have e1:(128+b) % 64=b:=by omega
 have e2:(128+c) % 64=c:=by omega
 rw [e0,e1,e2]
 omega
theorem four_of {x0 x1 x2 x3:Nat} (h0:x0 / 8=30) (h1:x1 / 64=2) (h2:x2 / 64=2) (h3:x3 / 64=2):((x0:Int)=240+((x0 % 8*262144+x1 % 64*4096+x2 % 64*64+x3 % 64:Nat):Int) / 262144)∧((x1:Int)=128+((x0 % 8*262144+x1 % 64*4096+x2 % 64*64+x3 % 64:Nat):Int) / 4096 % 64) ∧
  ((x2:Int)=128+((x0 % 8*262144+x1 % 64*4096+x2 % 64*64+x3 % 64:Nat):Int) / 64 % 64)∧((x3:Int)=128+((x0 % 8*262144+x1 % 64*4096+x2 % 64*64+x3 % 64:Nat):Int) % 64):=by
 obtain ⟨a,rfl,ha⟩:∃ a,x0=240+a∧a<8:=⟨x0-240,by omega,by omega⟩
 obtain ⟨b,rfl,hb⟩:∃ b,x1=128+b∧b<64:=⟨x1-128,by omega,by omega⟩
 obtain ⟨c,rfl,hc⟩:∃ b,x2=128+b∧b<64:=⟨x2-128,by omega,by omega⟩
 obtain ⟨d,rfl,hd⟩:∃ b,x3=128+b∧b<64:=⟨x3-128,by omega,by omega⟩
 have e0:(240+a) % 8=a:=by omega
 have e1:(128+b) % 64=b:=by omega
 have e2:(128+c) % 64=c:=by omega
 have e3:(128+d) % 64=d:=by omega
 rw [e0,e1,e2,e3]
 omega
theorem two_to {x0 x1 r:Nat} (h:r<2048) (h0:(x0:Int)=192+(r:Int) / 64) (h1:(x1:Int)=128+(r:Int) % 64):x0 / 32=6∧x1 / 64=2∧x0 % 32*64+x1 % 64=r∧128≤x0:=by
 obtain ⟨a,b,rfl,hb⟩:∃ a b,r=a*64+b∧b<64:=⟨r / 64,r % 64,by omega,by omega⟩
 have e0:x0=192+a:=by omega
 have e1:x1=128+b:=by omega
 subst e0; subst e1
 omega
theorem three_to {x0 x1 x2 r:Nat} (h:r<65536) (h0:(x0:Int)=224+(r:Int) / 4096) (h1:(x1:Int)=128+(r:Int) / 64 % 64) (h2:(x2:Int)=128+(r:Int) % 64):x0 / 16=14∧x1 / 64=2∧x2 / 64=2∧x0 % 16*4096+x1 % 64*64+x2 % 64=r:=by
 obtain ⟨a,b,c,rfl,ha,hb,hc⟩:∃ a b c,r=a*4096+b*64+c∧a<16∧b<64∧c<64:=⟨r / 4096,r / 64 % 64,r % 64,by omega,by omega,by omega,by omega⟩
 have e0:x0=224+a:=by omega
 have e1:x1=128+b:=by omega
 have e2:x2=128+c:=by omega
 subst e0; subst e1; subst e2
 omega
theorem four_to {x0 x1 x2 x3 r:Nat} (h:r≤1114111) (h0:(x0:Int)=240+(r:Int) / 262144) (h1:(x1:Int)=128+(r:Int) / 4096 % 64) (h2:(x2:Int)=128+(r:Int) / 64 % 64) (h3:(x3:Int)=128+(r:Int) % 64):x0 / 8=30∧x1 / 64=2∧x2 / 64=2∧x3 / 64=2∧x0 % 8*262144+x1 % 64*4096+x2 % 64*64+x3 % 64=r:=by
 obtain ⟨a,b,c,d,rfl,ha,hb,hc,hd⟩:∃ a b c d,r=a*262144+b*4096+c*64+d∧a<5∧b<64∧c<64∧d<64:=⟨r / 262144,r / 4096 % 64,r / 64 % 64,r % 64,by omega,by omega,by omega,by omega,by omega⟩
 have e0:x0=240+a:=by omega
 have e1:x1=128+b:=by omega
 have e2:x2=128+c:=by omega
 have e3:x3=128+d:=by omega
 subst e0; subst e1; subst e2; subst e3
 omega
theorem decN_iff {n x0 x1 x2 x3 r k:Nat} (hl:1≤n):(Lib.decodeN n x0 x1 x2 x3=(r,k)∧¬ (r=65533∧k=1)) ↔
  ((k=1∧r<128∧x0=r)∨(k=2∧128≤r∧r<2048∧2≤n∧(x0:Int)=192+(r:Int) / 64∧(x1:Int)=128+(r:Int) % 64) ∨
  (k=3∧((2048≤r∧r<55296)∨(57343<r∧r≤65535))∧3≤n∧(x0:Int)=224+(r:Int) / 4096∧(x1:Int)=128+(r:Int) / 64 % 64∧(x2:Int)=128+(r:Int) % 64) ∨
  (k=4∧65536≤r∧r≤1114111∧4≤n∧(x0:Int)=240+(r:Int) / 262144∧(x1:Int)=128+(r:Int) / 4096 % 64∧(x2:Int)=128+(r:Int) / 64 % 64∧(x3:Int)=128+(r:Int) % 64)):=by
 constructor
 ·rintro ⟨h1,h2⟩
  unfold Lib.decodeN at h1
  split at h1
  ·cases h1; exact .inl ⟨rfl,by assumption,rfl⟩
  ·split at h1
   ·rename_i c1 c2
    obtain ⟨q1,q2,q3⟩:=two_of c2.1 c2.2.2
    split at h1
    ·rename_i c3
     cases h1
     exact .inr (.inl ⟨rfl,c3,q3,c2.2.1,q1,q2⟩)
    ·cases h1; exact absurd ⟨rfl,rfl⟩ h2
   ·split at h1
    ·rename_i c1 _ c2
     obtain ⟨q1,q2,q3,q4⟩:=three_of c2.1 c2.2.1.2 c2.2.2.2
     split at h1
     ·rename_i c3
      cases h1
      exact .inr (.inr (.inl ⟨rfl,by omega,c2.2.2.1,q1,q2,q3⟩))
     ·cases h1; exact absurd ⟨rfl,rfl⟩ h2
    ·split at h1
     ·rename_i c1 _ _ c2
      obtain ⟨q1,q2,q3,q4⟩:=four_of c2.1 c2.2.1.2 c2.2.2.1.2 c2.2.2.2.2
      split at h1
      ·rename_i c3
       cases h1
       exact .inr (.inr (.inr ⟨rfl,c3.1,by omega,c2.2.2.2.1,q1,q2,q3,q4⟩))
      ·cases h1; exact absurd ⟨rfl,rfl⟩ h2
     ·cases h1; exact absurd ⟨rfl,rfl⟩ h2
 ·rintro (⟨rfl,h1,rfl⟩ | ⟨rfl,h1,h2,h3,h4,h5⟩ | ⟨rfl,h1,h3,h4,h5,h6⟩ | ⟨rfl,h1,h2,h3,h4,h5,h6,h7⟩)
  ·unfold Lib.decodeN
   rw [if_pos h1]
   exact ⟨rfl,by omega⟩
  ·obtain ⟨q1,q2,q3,q4⟩:=two_to h2 h4 h5
   unfold Lib.decodeN
   rw [if_neg (by omega),if_pos ⟨q1,by omega,q2⟩,if_pos (by omega),q3]
   exact ⟨rfl,by omega⟩
  ·obtain ⟨q1,q2,q3,q4⟩:=three_to (by omega) h4 h5 h6
   unfold Lib.decodeN
   rw [if_neg (by omega),if_neg (by omega),if_pos ⟨q1,⟨by omega,q2⟩,by omega,q3⟩,q4,if_pos (by omega)]
   exact ⟨rfl,by omega⟩
  ·obtain ⟨q1,q2,q3,q4,q5⟩:=four_to h2 h4 h5 h6 h7
   unfold Lib.decodeN
   rw [if_neg (by omega),if_neg (by omega),if_neg (by omega),if_pos ⟨q1,⟨by omega,q2⟩,⟨by omega,q3⟩,by omega,q4⟩,q5,if_pos (by omega)]
   exact ⟨rfl,by omega⟩
theorem decL_iff {s:List UInt8} (hs:s≠[]) {r k:Nat}:decL s=(r,k)∧(r,k)≠(65533,1)↔Cls s r k:=by
 have hl:1≤s.length:=by cases s with | nil=>exact absurd rfl hs | cons=>simp
 unfold decL
 rw [show ((r,k)≠(65533,1)) = ¬ (r=65533∧k=1) by simp,decN_iff hl]
 unfold Cls
 constructor
 ·rintro (⟨h0,h1,h2⟩ | ⟨h0,h1,h2,h3⟩ | ⟨h0,h1,h2⟩ | ⟨h0,h1,h2,h3⟩)
  ·exact .inl ⟨h0,by omega,by omega,hl,by omega⟩
  ·exact .inr (.inl ⟨h0,by omega,by omega,h3⟩)
  ·exact .inr (.inr (.inl ⟨h0,by omega,h2⟩))
  ·exact .inr (.inr (.inr ⟨h0,by omega,by omega,h3⟩))
 ·rintro (⟨h0,h1,h2,h3,h4⟩ | ⟨h0,h1,h2,h3⟩ | ⟨h0,h1,h2⟩ | ⟨h0,h1,h2,h3⟩)
  ·exact .inl ⟨h0,by omega,by omega⟩
  ·exact .inr (.inl ⟨h0,by omega,by omega,h3⟩)
  ·exact .inr (.inr (.inl ⟨h0,by omega,h2⟩))
  ·exact .inr (.inr (.inr ⟨h0,by omega,by omega,h3⟩))
def step (s:List UInt8):Option (Int×Nat):=if s=[] then none else if decL s=(65533,1) then none else some (((decL s).1:Int),(decL s).2)
theorem step_iff {s:List UInt8} {r:Int} {k:Nat}:step s=some (r,k)↔Cls s r k:=by
 unfold step
 by_cases hs:s=[]
 ·subst hs
  simp [Cls]
 ·rw [if_neg hs]
  by_cases hd:decL s=(65533,1)
  ·rw [if_pos hd]
   simp only [reduceCtorEq,false_iff]
   intro hc
   have hr:((r.toNat:Nat):Int)=r:=by have:=hc; unfold Cls at this; omega
   rw [← hr] at hc
   have:=(decL_iff hs).2 hc
   rw [hd] at this
   exact this.2 this.1.symm
  ·rw [if_neg hd]
   simp only [Option.some.injEq,Prod.mk.injEq]
   constructor
   ·rintro ⟨rfl,rfl⟩
    exact (decL_iff hs).1 ⟨rfl,hd⟩
   ·intro hc
    have hr:((r.toNat:Nat):Int)=r:=by have:=hc; unfold Cls at this; omega
    rw [← hr] at hc
    have:=((decL_iff hs).2 hc).1
    rw [this]
    exact ⟨hr,rfl⟩
theorem step_starts {s:List UInt8} {r:Int} {k:Nat} (h:step s=some (r,k)):scalar r=true∧k=(enc r).length∧s=enc r++s.drop k:=by
 obtain ⟨⟨h1,h2⟩,h3⟩:=cls_iff.1 (step_iff.1 h)
 refine ⟨h1,h3,?_⟩
 obtain ⟨t,rfl⟩:=h2
 rw [h3,List.drop_left]
theorem step_enc {r:Int} (h:scalar r=true) (t:List UInt8):step (enc r++t)=some (r,(enc r).length):=step_iff.2 (cls_iff.2 ⟨⟨h,List.prefix_append _ _⟩,rfl⟩)
def decompF:Nat→List UInt8→List Int×List UInt8
 | 0,s=>([],s)
 | n+1,s =>
  match step s with
  | some (r,k)=>(r :: (decompF n (s.drop k)).1,(decompF n (s.drop k)).2)
  | none=>([],s)
def decomp (s:List UInt8):List Int×List UInt8:=decompF s.length s
def encs (l:List Int):List UInt8:=l.flatMap enc
theorem encs_nil:encs []=[]:=rfl
theorem encs_cons (r:Int) (l:List Int):encs (r :: l)=enc r++encs l:=by simp [encs]
theorem encs_append (l m:List Int):encs (l++m)=encs l++encs m:=by simp [encs]
theorem encs_snoc (l:List Int) (r:Int):encs (l++[r])=encs l++enc r:=by simp [encs]
theorem encs_len (l:List Int):l.length≤(encs l).length∧(encs l).length≤4*l.length:=by
 induction l with
 | nil=>simp [encs]
 | cons r l ih =>
  have:=enc_len r
  rw [encs_cons,List.length_append,List.length_cons]
  omega
def Scalars (l:List Int):Prop:=∀ r∈l,scalar r=true
def Stuck (t:List UInt8):Prop:=step t=none
theorem decompF_ok:∀ (n:Nat) (s:List UInt8),s.length≤n→s=encs (decompF n s).1++(decompF n s).2∧Scalars (decompF n s).1∧Stuck (decompF n s).2:=by
 intro n
 induction n with
 | zero =>
  intro s h
  have:s=[]:=List.eq_nil_of_length_eq_zero (by omega)
  subst this
  exact ⟨rfl,fun r hr=>(by cases hr),rfl⟩
 | succ n ih =>
  intro s h
  unfold decompF
  split
  ·rename_i r k hs
   obtain ⟨h1,h2,h3⟩:=step_starts hs
   have hk:=enc_len r
   obtain ⟨g1,g2,g3⟩:=ih (s.drop k) (by rw [List.length_drop]; omega)
   refine ⟨?_,?_,g3⟩
   ·simp only [encs_cons,List.append_assoc]
    rw [← g1]; exact h3
   ·intro x hx
    rcases List.mem_cons.1 hx with rfl | hx
    ·exact h1
    ·exact g2 x hx
  ·rename_i hs
   exact ⟨rfl,fun r hr=>(by cases hr),hs⟩
theorem decompF_of:∀ (l:List Int) (t:List UInt8) (n:Nat),(encs l++t).length≤n→Scalars l→Stuck t→decompF n (encs l++t)=(l,t):=by
 intro l
 induction l with
 | nil =>
  intro t n _ _ ht
  cases n with
  | zero=>rfl
  | succ n =>
   rw [encs_nil,List.nil_append]
   unfold decompF
   rw [show step t=none from ht]
 | cons r l ih =>
  intro t n hn hl ht
  have hk:=enc_len r
  rw [encs_cons,List.append_assoc] at hn ⊢
  rw [List.length_append] at hn
  cases n with
  | zero=>omega
  | succ n =>
   unfold decompF
   rw [step_enc (hl r (by simp))]
   simp only [List.drop_left]
   rw [ih t n (by omega) (fun x hx=>hl x (by simp [hx])) ht]
theorem decomp_ok (s:List UInt8):s=encs (decomp s).1++(decomp s).2∧Scalars (decomp s).1∧Stuck (decomp s).2:=decompF_ok s.length s (Nat.le_refl _)
theorem decomp_of {l:List Int} {t:List UInt8} (hl:Scalars l) (ht:Stuck t):decomp (encs l++t)=(l,t):=decompF_of l t _ (Nat.le_refl _) hl ht
theorem decomp_eq {s:List UInt8} {l:List Int} {t:List UInt8} (hs:s=encs l++t) (hl:Scalars l) (ht:Stuck t):decomp s=(l,t):=by rw [hs]; exact decomp_of hl ht
theorem stuck_nil:Stuck []:=rfl
theorem decomp_encs {l:List Int} (hl:Scalars l):decomp (encs l)=(l,[]):=by
 have:=decomp_of hl stuck_nil
 rwa [List.append_nil] at this
def badAt (s:List UInt8):Int:=if (decomp s).2=[] then -1 else ((encs (decomp s).1).length:Int)
theorem Scalars.snoc {l:List Int} {r:Int} (h:Scalars l) (hr:scalar r=true):Scalars (l++[r]):=by
 intro x hx
 rcases List.mem_append.1 hx with hx | hx
 ·exact h x hx
 ·simp at hx; subst hx; exact hr
end Go.Proofs.YtglfkihckkjniaaGreatDoor.Vx
namespace Go.Proofs.YtglfkihckkjniaaGreatDoor.Vx
open Go Go.RowKit
def sp_scalar:FSpec:=⟨[],fun | [.one (.int .i32 r)]=>some ([],.one (.bool (scalar r))) | _=>none⟩
theorem vc_scalar (r:Int):vcP [] [] misc Tryz.f21 (.nil) [.one (.int .i32 r)] (.one (.bool (scalar r)))=((br (decide (r≥(0:Int))) (br (decide (r≤(1114111:Int))) (br (decide (r<(55296:Int))) (true=scalar r) (decide (r>(57343:Int))=scalar r)) (false=scalar r)) (false=scalar r))):=by kernel_rfl
set_option maxHeartbeats 4000000 in
theorem of_scalar (h:∀ (r:Int),vcP [] [] misc Tryz.f21 (.nil) [.one (.int .i32 r)] (.one (.bool (scalar r)))):FnP 21 sp_scalar:=by
 refine fnP_ok (cs:=[]) (cas:=[]) (ms:=misc) .nil .nil misc_ok 21 Tryz.f21 (by kernel_rfl) (by kernel_rfl) (by kernel_rfl) (fun _=>.nil) ?_
 intro pvs p r hs hp
 unfold sp_scalar at hs
 simp only at hs
 split at hs
 ·rename_i r
  cases hs
  refine h r
 ·cases hs
theorem ok_scalar:FnP 21 sp_scalar:=of_scalar (by
 intro r
 rw [vc_scalar]
 simp only [scalar]
 repeat' (first | apply And.intro | apply br_of | intro _)
 all_goals (simp_all<;>omega))
def sp_bytes:FSpec:=⟨[],fun | [.one (.int .i32 r)]=>some ([scalar r=true],.one (.rd (.ints .u8 (Lib.encodeRuneZ r)))) | _=>none⟩
theorem vc_bytes (r:Int):vcP [] [] misc Tryz.f22 (.nil) [.one (.int .i32 r)] (.one (.rd (.ints .u8 (Lib.encodeRuneZ r))))=(letI v0:=((0:Int)≤r∧(0:Int)<(64:Int)∧inR IntKind.i64 (r / (64:Int))); letI v1:=((128:Int)+r % (64:Int)); letI v2:=((128:Int)+r / (64:Int) % (64:Int)); letI v3:=((0:Int)≤r∧(0:Int)<(4096:Int)∧inR IntKind.i64 (r / (4096:Int))); letI v4:=((0:Int)≤r∧(0:Int)<(64:Int)); (inR IntKind.i64 r∧br (decide (r<(128:Int))) (inR IntKind.u8 r∧[]++[r]=Lib.encodeRuneZ r) (br (decide (r<(2048:Int))) (v0∧inR IntKind.i64 ((192:Int)+r / (64:Int))∧inR IntKind.u8 ((192:Int)+r / (64:Int))∧v4∧inR IntKind.i64 v1∧inR IntKind.u8 v1∧[]++[(192:Int)+r / (64:Int)]++[(128:Int)+r % (64:Int)]=Lib.encodeRuneZ r) (br (decide (r<(65536:Int))) (v3∧inR IntKind.i64 ((224:Int)+r / (4096:Int))∧inR IntKind.u8 ((224:Int)+r / (4096:Int))∧v0∧((0:Int)≤r / (64:Int)∧(0:Int)<(64:Int))∧inR IntKind.i64 v2∧inR IntKind.u8 v2∧v4∧inR IntKind.i64 v1∧inR IntKind.u8 v1∧[]++[(224:Int)+r / (4096:Int)]++[(128:Int)+r / (64:Int) % (64:Int)]++[(128:Int)+r % (64:Int)]=Lib.encodeRuneZ r) (((0:Int)≤r∧(0:Int)<(262144:Int)∧inR IntKind.i64 (r / (262144:Int)))∧inR IntKind.i64 ((240:Int)+r / (262144:Int))∧inR IntKind.u8 ((240:Int)+r / (262144:Int))∧v3∧((0:Int)≤r / (4096:Int)∧(0:Int)<(64:Int))∧inR IntKind.i64 ((128:Int)+r / (4096:Int) % (64:Int))∧inR IntKind.u8 ((128:Int)+r / (4096:Int) % (64:Int))∧v0∧((0:Int)≤r / (64:Int)∧(0:Int)<(64:Int))∧inR IntKind.i64 v2∧inR IntKind.u8 v2∧v4∧inR IntKind.i64 v1∧inR IntKind.u8 v1∧[]++[(240:Int)+r / (262144:Int)]++[(128:Int)+r / (4096:Int) % (64:Int)]++[(128:Int)+r / (64:Int) % (64:Int)]++[(128:Int)+r % (64:Int)]=Lib.encodeRuneZ r))))):=by kernel_rfl
set_option maxHeartbeats 4000000 in
theorem of_bytes (h:∀ (r:Int),(scalar r=true)→vcP [] [] misc Tryz.f22 (.nil) [.one (.int .i32 r)] (.one (.rd (.ints .u8 (Lib.encodeRuneZ r))))):FnP 22 sp_bytes:=by
 refine fnP_ok (cs:=[]) (cas:=[]) (ms:=misc) .nil .nil misc_ok 22 Tryz.f22 (by kernel_rfl) (by kernel_rfl) (by kernel_rfl) (fun _=>.nil) ?_
 intro pvs p r hs hp
 unfold sp_bytes at hs
 simp only at hs
 split at hs
 ·rename_i r
  cases hs
  refine h r ?_
  ·exact hp
 ·cases hs
theorem ok_bytes:FnP 22 sp_bytes:=of_bytes (by
 intro r hr
 rw [vc_bytes]
 rw [scalar_iff] at hr
 simp only [inR,List.nil_append,List.cons_append]
 refine ⟨by omega,br_of (fun h=>?_) fun h=>br_of (fun h=>?_) fun h=>br_of (fun h=>?_) fun h=>?_⟩<;>simp only [decide_eq_true_eq,decide_eq_false_iff_not] at *
 ·exact ⟨by omega,(Lib.encodeRuneZ_one hr.1 (by omega)).symm⟩
 ·exact ⟨by omega,by omega,by omega,by omega,by omega,by omega,(Lib.encodeRuneZ_two (by omega) (by omega)).symm⟩
 ·exact ⟨by omega,by omega,by omega,by omega,by omega,by omega,by omega,by omega,by omega,by omega,(Lib.encodeRuneZ_three (by omega)).symm⟩
 ·exact ⟨by omega,by omega,by omega,by omega,by omega,by omega,by omega,by omega,by omega,by omega,by omega,by omega,by omega,by omega,(Lib.encodeRuneZ_four (by omega) (by omega)).symm⟩)
def signK (r:Int):Int:=if r=45 then 2 else if r=43 then 3 else if r=37 then 4 else if r=8240 then 5 else if r=164 then 6 else 0
def isMark (r:Int):Bool:=decide (48≤r∧r≤57) || r==35 || r==64 || r==44 || r==46 || r==59 || r==42
def sp_rsign:FSpec:=⟨[],fun | [.one (.int .i32 r)]=>some ([],.one (.int .i64 (signK r))) | _=>none⟩
theorem vc_rsign (r:Int):vcP [] [] misc Tryz.f101 (.nil) [.one (.int .i32 r)] (.one (.int .i64 (signK r)))=((br (r==(45:Int)) ((2:Int)=signK r) (br (r==(43:Int)) ((3:Int)=signK r) (br (r==(37:Int)) ((4:Int)=signK r) (br (r==(8240:Int)) ((5:Int)=signK r) (br (r==(164:Int)) ((6:Int)=signK r) ((0:Int)=signK r))))))):=by kernel_rfl
set_option maxHeartbeats 4000000 in
theorem of_rsign (h:∀ (r:Int),vcP [] [] misc Tryz.f101 (.nil) [.one (.int .i32 r)] (.one (.int .i64 (signK r)))):FnP 101 sp_rsign:=by
 refine fnP_ok (cs:=[]) (cas:=[]) (ms:=misc) .nil .nil misc_ok 101 Tryz.f101 (by kernel_rfl) (by kernel_rfl) (by kernel_rfl) (fun _=>.nil) ?_
 intro pvs p r hs hp
 unfold sp_rsign at hs
 simp only at hs
 split at hs
 ·rename_i r
  cases hs
  refine h r
 ·cases hs
def sp_rmark:FSpec:=⟨[],fun | [.one (.int .i32 r)]=>some ([],.one (.bool (isMark r))) | _=>none⟩
theorem vc_rmark (r:Int):vcP [] [] misc Tryz.f100 (.nil) [.one (.int .i32 r)] (.one (.bool (isMark r)))=(letI v0:=(br (r==(35:Int)) (true=isMark r) (br (r==(64:Int)) (true=isMark r) (br (r==(44:Int)) (true=isMark r) (br (r==(46:Int)) (true=isMark r) (br (r==(59:Int)) (true=isMark r) ((r==(42:Int))=isMark r)))))); (br (decide (r≥(48:Int))) (br (decide (r≤(57:Int))) (true=isMark r) v0) v0)):=by kernel_rfl
set_option maxHeartbeats 4000000 in
theorem of_rmark (h:∀ (r:Int),vcP [] [] misc Tryz.f100 (.nil) [.one (.int .i32 r)] (.one (.bool (isMark r)))):FnP 100 sp_rmark:=by
 refine fnP_ok (cs:=[]) (cas:=[]) (ms:=misc) .nil .nil misc_ok 100 Tryz.f100 (by kernel_rfl) (by kernel_rfl) (by kernel_rfl) (fun _=>.nil) ?_
 intro pvs p r hs hp
 unfold sp_rmark at hs
 simp only at hs
 split at hs
 ·rename_i r
  cases hs
  refine h r
 ·cases hs
theorem ok_rsign:FnP 101 sp_rsign:=of_rsign (by
 intro x
 rw [vc_rsign]
 simp only [signK]
 repeat' (first | apply And.intro | apply br_of | intro _)
 all_goals (simp_all))
theorem ok_rmark:FnP 100 sp_rmark:=of_rmark (by
 intro x
 rw [vc_rmark]
 simp only [isMark]
 repeat' (first | apply And.intro | apply br_of | intro _)
 all_goals (simp_all<;>omega))
def needsQ (r:Int):Bool:=decide (signK r>0) || isMark r || r==69 || r==39
def sp_rneeds:FSpec:=⟨[],fun | [.one (.int .i32 r)]=>some ([],.one (.bool (needsQ r))) | _=>none⟩
theorem vc_rneeds (r:Int):vcP [(101,sp_rsign),(100,sp_rmark)] [] misc Tryz.f73 (.nil) [.one (.int .i32 r)] (.one (.bool (needsQ r)))=((br (decide (signK r>(0:Int))) (true=needsQ r) (br (isMark r) (true=needsQ r) (br (r==(69:Int)) (true=needsQ r) ((r==(39:Int))=needsQ r))))):=by kernel_rfl
set_option maxHeartbeats 4000000 in
theorem of_rneeds (h:∀ (r:Int),vcP [(101,sp_rsign),(100,sp_rmark)] [] misc Tryz.f73 (.nil) [.one (.int .i32 r)] (.one (.bool (needsQ r)))):FnP 73 sp_rneeds:=by
 refine fnP_ok (cs:=[(101,sp_rsign),(100,sp_rmark)]) (cas:=[]) (ms:=misc) (.cons ok_rsign (.cons ok_rmark .nil)) .nil misc_ok 73 Tryz.f73 (by kernel_rfl) (by kernel_rfl) (by kernel_rfl) (fun _=>.nil) ?_
 intro pvs p r hs hp
 unfold sp_rneeds at hs
 simp only at hs
 split at hs
 ·rename_i r
  cases hs
  refine h r
 ·cases hs
theorem ok_rneeds:FnP 73 sp_rneeds:=of_rneeds (by
 intro x
 rw [vc_rneeds]
 simp only [needsQ]
 repeat' (first | apply And.intro | apply br_of | intro _)
 all_goals (simp_all<;>omega))
def firstR (s:List UInt8):Int:=match step s with | some x=>x.1 | none=>0
def firstN (s:List UInt8):Int:=match step s with | some x=>(x.2:Int) | none=>0
def sp_first:FSpec:=⟨[],fun | [.one (.str s)]=>some ([],.tup [(false,[.int .i32 (firstR s)]),(false,[.int .i64 (firstN s)])]) | _=>none⟩
theorem vc_first (s:List UInt8):vcP [(21,sp_scalar),(22,sp_bytes)] [] misc Tryz.f55 (.turns 15 5 (fun _=>.nil) .nil) [.one (.str s)] (.tup [(false,[.int .i32 (firstR s)]),(false,[.int .i64 (firstN s)])])=(letI v0:=(((bAt s (0:Int)-(240:Int))*(64:Int)+bAt s (1:Int)-(128:Int))*(64:Int)+bAt s ((1:Int)+(1:Int))-(128:Int)); letI v1:=((0:Int)=firstR s∧(0:Int)=firstN s); letI v2:=(v0*(64:Int)+bAt s ((1:Int)+(1:Int)+(1:Int))-(128:Int)); letI v3:=(((bAt s (0:Int)-(224:Int))*(64:Int)+bAt s (1:Int)-(128:Int))*(64:Int)+bAt s ((1:Int)+(1:Int))-(128:Int)); letI v4:=((0:Int)≤(1:Int)+(1:Int)∧(1:Int)+(1:Int)<(↑(List.length s):Int)); letI v5:=((0:Int)≤(1:Int)+(1:Int)+(1:Int)∧(1:Int)+(1:Int)+(1:Int)<(↑(List.length s):Int)); letI v6:=((0:Int)≤(1:Int)∧(1:Int)<(↑(List.length s):Int)); letI v7:=((bAt s (0:Int)-(240:Int))*(64:Int)+bAt s (1:Int)-(128:Int)); letI v8:=((1:Int)+(1:Int)+(1:Int)); letI v9:=((bAt s (0:Int)-(224:Int))*(64:Int)+bAt s (1:Int)-(128:Int)); letI v10:=((bAt s (0:Int)-(192:Int))*(64:Int)+bAt s (1:Int)-(128:Int)); letI v11:=(bAt s (0:Int)-(240:Int)); letI v12:=(inR IntKind.i32 v2∧v0*(64:Int)+bAt s v8-(128:Int)=firstR s∧(4:Int)=firstN s); letI v13:=(decide (bAt s ((1:Int)+(1:Int))<(128:Int))); letI v14:=(decide (bAt s ((1:Int)+(1:Int))>(191:Int))); letI v15:=(decide (bAt s (1:Int)<(128:Int))); letI v16:=(decide (bAt s (1:Int)>(191:Int))); letI v17:=((0:Int)≤(4:Int)∧(4:Int)≤(↑(List.length s):Int)); letI v18:=(v7*(64:Int)+bAt s ((1:Int)+(1:Int))); letI v19:=(bAt s (0:Int)-(224:Int)); letI v20:=(bAt s ((1:Int)+(1:Int))); letI v21:=(decide ((↑(List.length s):Int)<(4:Int))); letI v22:=((1:Int)+(1:Int)+(1:Int)+(1:Int)); letI v23:=(inR IntKind.i32 v3∧v9*(64:Int)+bAt s ((1:Int)+(1:Int))-(128:Int)=firstR s∧(3:Int)=firstN s); letI v24:=(decide (bAt s (0:Int)≥(240:Int))); letI v25:=(decide (bAt s (0:Int)<(248:Int))); letI v26:=(v11*(64:Int)+bAt s (1:Int)); letI v27:=(decide (bAt s v8<(128:Int))); letI v28:=(decide (bAt s v8>(191:Int))); letI v29:=(bAt s (0:Int)-(192:Int)); letI v30:=(v0*(64:Int)+bAt s v8); (br (decide (s=([]:List UInt8))) v1 (((0:Int)≤(0:Int)∧(0:Int)<(↑(List.length s):Int))∧inR IntKind.i64 (bAt s (0:Int))∧br (decide (bAt s (0:Int)<(128:Int))) (br (decide ((↑(List.length s):Int)<(1:Int))) v1 (inR IntKind.i32 (bAt s (0:Int))∧br (!scalar (bAt s (0:Int))) v1 (inR IntKind.i32 (bAt s (0:Int))∧scalar (bAt s (0:Int))=true∧((0:Int)≤(1:Int)∧(1:Int)≤(↑(List.length s):Int))∧br (!decide (List.map (fun (n:Int)=>UInt8.ofNat (Int.toNat n)) (Lib.encodeRuneZ (bAt s (0:Int)))=List.take (Int.toNat (1:Int)) s)) v1 (inR IntKind.i32 (bAt s (0:Int))∧bAt s (0:Int)=firstR s∧(1:Int)=firstN s)))) (br (decide (bAt s (0:Int)≥(192:Int))) (br (decide (bAt s (0:Int)<(224:Int))) (inR IntKind.i64 v29∧br (decide ((↑(List.length s):Int)<(2:Int))) v1 (inR IntKind.i64 (v29*(64:Int))∧v6∧inR IntKind.i64 (bAt s (1:Int))∧inR IntKind.i64 (v29*(64:Int)+bAt s (1:Int))∧inR IntKind.i64 v10∧v6∧br v15 v1 (v6∧br v16 v1 (inR IntKind.i64 ((1:Int)+(1:Int))∧inR IntKind.i32 v10∧br (!scalar v10) v1 (inR IntKind.i32 v10∧scalar v10=true∧((0:Int)≤(2:Int)∧(2:Int)≤(↑(List.length s):Int))∧br (!decide (List.map (fun (n:Int)=>UInt8.ofNat (Int.toNat n)) (Lib.encodeRuneZ v10)=List.take (Int.toNat (2:Int)) s)) v1 (inR IntKind.i32 v10∧v29*(64:Int)+bAt s (1:Int)-(128:Int)=firstR s∧(2:Int)=firstN s)))))) (br (decide (bAt s (0:Int)≥(224:Int))) (br (decide (bAt s (0:Int)<(240:Int))) (inR IntKind.i64 v19∧br (decide ((↑(List.length s):Int)<(3:Int))) v1 (inR IntKind.i64 (v19*(64:Int))∧v6∧inR IntKind.i64 (bAt s (1:Int))∧inR IntKind.i64 (v19*(64:Int)+bAt s (1:Int))∧inR IntKind.i64 v9∧v6∧br v15 v1 (v6∧br v16 v1 (inR IntKind.i64 ((1:Int)+(1:Int))∧inR IntKind.i64 (v9*(64:Int))∧v4∧inR IntKind.i64 v20∧inR IntKind.i64 (v9*(64:Int)+bAt s ((1:Int)+(1:Int)))∧inR IntKind.i64 v3∧v4∧br v13 v1 (v4∧br v14 v1 (inR IntKind.i64 v8∧inR IntKind.i32 v3∧br (!scalar v3) v1 (inR IntKind.i32 v3∧scalar v3=true∧((0:Int)≤(3:Int)∧(3:Int)≤(↑(List.length s):Int))∧br (!decide (List.map (fun (n:Int)=>UInt8.ofNat (Int.toNat n)) (Lib.encodeRuneZ v3)=List.take (Int.toNat (3:Int)) s)) v1 v23))))))) (br v24 (br v25 (inR IntKind.i64 v11∧br v21 v1 (inR IntKind.i64 (v11*(64:Int))∧v6∧inR IntKind.i64 (bAt s (1:Int))∧inR IntKind.i64 v26∧inR IntKind.i64 v7∧v6∧br v15 v1 (v6∧br v16 v1 (inR IntKind.i64 ((1:Int)+(1:Int))∧inR IntKind.i64 (v7*(64:Int))∧v4∧inR IntKind.i64 v20∧inR IntKind.i64 v18∧inR IntKind.i64 v0∧v4∧br v13 v1 (v4∧br v14 v1 (inR IntKind.i64 v8∧inR IntKind.i64 (v0*(64:Int))∧v5∧inR IntKind.i64 (bAt s v8)∧inR IntKind.i64 v30∧inR IntKind.i64 v2∧v5∧br v27 v1 (v5∧br v28 v1 (inR IntKind.i64 v22∧inR IntKind.i32 v2∧br (!scalar v2) v1 (inR IntKind.i32 v2∧scalar v2=true∧v17∧br (!decide (List.map (fun (n:Int)=>UInt8.ofNat (Int.toNat n)) (Lib.encodeRuneZ v2)=List.take (Int.toNat (4:Int)) s)) v1 v12))))))))) v1) v1)) (br v24 (br v25 (inR IntKind.i64 v11∧br v21 v1 (inR IntKind.i64 (v11*(64:Int))∧v6∧inR IntKind.i64 (bAt s (1:Int))∧inR IntKind.i64 v26∧inR IntKind.i64 v7∧v6∧br v15 v1 (v6∧br v16 v1 (inR IntKind.i64 ((1:Int)+(1:Int))∧inR IntKind.i64 (v7*(64:Int))∧v4∧inR IntKind.i64 v20∧inR IntKind.i64 v18∧inR IntKind.i64 v0∧v4∧br v13 v1 (v4∧br v14 v1 (inR IntKind.i64 v8∧inR IntKind.i64 (v0*(64:Int))∧v5∧inR IntKind.i64 (bAt s v8)∧inR IntKind.i64 v30∧inR IntKind.i64 v2∧v5∧br v27 v1 (v5∧br v28 v1 (inR IntKind.i64 v22∧inR IntKind.i32 v2∧br (!scalar v2) v1 (inR IntKind.i32 v2∧scalar v2=true∧v17∧br (!decide (List.map (fun (n:Int)=>UInt8.ofNat (Int.toNat n)) (Lib.encodeRuneZ v2)=List.take (Int.toNat (4:Int)) s)) v1 v12))))))))) v1) v1))) (br (decide (bAt s (0:Int)≥(224:Int))) (br (decide (bAt s (0:Int)<(240:Int))) (inR IntKind.i64 v19∧br (decide ((↑(List.length s):Int)<(3:Int))) v1 (inR IntKind.i64 (v19*(64:Int))∧v6∧inR IntKind.i64 (bAt s (1:Int))∧inR IntKind.i64 (v19*(64:Int)+bAt s (1:Int))∧inR IntKind.i64 v9∧v6∧br v15 v1 (v6∧br v16 v1 (inR IntKind.i64 ((1:Int)+(1:Int))∧inR IntKind.i64 (v9*(64:Int))∧v4∧inR IntKind.i64 v20∧inR IntKind.i64 (v9*(64:Int)+bAt s ((1:Int)+(1:Int)))∧inR IntKind.i64 v3∧v4∧br v13 v1 (v4∧br v14 v1 (inR IntKind.i64 v8∧inR IntKind.i32 v3∧br (!scalar v3) v1 (inR IntKind.i32 v3∧scalar v3=true∧((0:Int)≤(3:Int)∧(3:Int)≤(↑(List.length s):Int))∧br (!decide (List.map (fun (n:Int)=>UInt8.ofNat (Int.toNat n)) (Lib.encodeRuneZ v3)=List.take (Int.toNat (3:Int)) s)) v1 v23))))))) (br v24 (br v25 (inR IntKind.i64 v11∧br v21 v1 (inR IntKind.i64 (v11*(64:Int))∧v6∧inR IntKind.i64 (bAt s (1:Int))∧inR IntKind.i64 v26∧inR IntKind.i64 v7∧v6∧br v15 v1 (v6∧br v16 v1 (inR IntKind.i64 ((1:Int)+(1:Int))∧inR IntKind.i64 (v7*(64:Int))∧v4∧inR IntKind.i64 v20∧inR IntKind.i64 v18∧inR IntKind.i64 v0∧v4∧br v13 v1 (v4∧br v14 v1 (inR IntKind.i64 v8∧inR IntKind.i64 (v0*(64:Int))∧v5∧inR IntKind.i64 (bAt s v8)∧inR IntKind.i64 v30∧inR IntKind.i64 v2∧v5∧br v27 v1 (v5∧br v28 v1 (inR IntKind.i64 v22∧inR IntKind.i32 v2∧br (!scalar v2) v1 (inR IntKind.i32 v2∧scalar v2=true∧v17∧br (!decide (List.map (fun (n:Int)=>UInt8.ofNat (Int.toNat n)) (Lib.encodeRuneZ v2)=List.take (Int.toNat (4:Int)) s)) v1 v12))))))))) v1) v1)) (br v24 (br v25 (inR IntKind.i64 v11∧br v21 v1 (inR IntKind.i64 (v11*(64:Int))∧v6∧inR IntKind.i64 (bAt s (1:Int))∧inR IntKind.i64 v26∧inR IntKind.i64 v7∧v6∧br v15 v1 (v6∧br v16 v1 (inR IntKind.i64 ((1:Int)+(1:Int))∧inR IntKind.i64 (v7*(64:Int))∧v4∧inR IntKind.i64 v20∧inR IntKind.i64 v18∧inR IntKind.i64 v0∧v4∧br v13 v1 (v4∧br v14 v1 (inR IntKind.i64 v8∧inR IntKind.i64 (v0*(64:Int))∧v5∧inR IntKind.i64 (bAt s v8)∧inR IntKind.i64 v30∧inR IntKind.i64 v2∧v5∧br v27 v1 (v5∧br v28 v1 (inR IntKind.i64 v22∧inR IntKind.i32 v2∧br (!scalar v2) v1 (inR IntKind.i32 v2∧scalar v2=true∧v17∧br (!decide (List.map (fun (n:Int)=>UInt8.ofNat (Int.toNat n)) (Lib.encodeRuneZ v2)=List.take (Int.toNat (4:Int)) s)) v1 v12))))))))) v1) v1)))))):=by kernel_rfl
set_option maxHeartbeats 4000000 in
theorem of_first (h:∀ (s:List UInt8),vcP [(21,sp_scalar),(22,sp_bytes)] [] misc Tryz.f55 (.turns 15 5 (fun _=>.nil) .nil) [.one (.str s)] (.tup [(false,[.int .i32 (firstR s)]),(false,[.int .i64 (firstN s)])])):FnP 55 sp_first:=by
 refine fnP_ok (cs:=[(21,sp_scalar),(22,sp_bytes)]) (cas:=[]) (ms:=misc) (.cons ok_scalar (.cons ok_bytes .nil)) .nil misc_ok 55 Tryz.f55 (by kernel_rfl) (by kernel_rfl) (by kernel_rfl) (fun | [.one (.str s)]=>.turns 15 5 (fun _=>.nil) .nil | _=>.nil) ?_
 intro pvs p r hs hp
 unfold sp_first at hs
 simp only at hs
 split at hs
 ·rename_i s
  cases hs
  refine h s
 ·cases hs
theorem first_some {s:List UInt8} {r:Int} {k:Nat} (h:Cls s r k):firstR s=r∧firstN s=k:=by
 unfold firstR firstN
 rw [step_iff.2 h]
 exact ⟨rfl,rfl⟩
theorem first_zero {s:List UInt8} (h:∀ r k,¬ Cls s r k):firstR s=0∧firstN s=0:=by
 unfold firstR firstN
 cases hs:step s with
 | none=>exact ⟨rfl,rfl⟩
 | some x=>exact absurd (step_iff.1 hs) (h x.1 x.2)
theorem cls_take {s:List UInt8} {r:Int} {k:Nat} (hk:k≤s.length) (hr:scalar r=true):List.map (fun n=>UInt8.ofNat (Int.toNat n)) (Lib.encodeRuneZ r)=s.take k↔Cls s r k:=by
 rw [cls_iff]
 show enc r=s.take k↔_
 constructor
 ·intro h
  refine ⟨⟨hr,?_⟩,by rw [h,List.length_take]; omega⟩
  rw [h]; exact List.take_prefix _ _
 ·rintro ⟨⟨_,h⟩,rfl⟩
  exact List.prefix_iff_eq_take.1 h
theorem first_neq {s:List UInt8} {n:Int} {k:Nat} (h:¬ List.map (fun n=>UInt8.ofNat (Int.toNat n)) (Lib.encodeRuneZ n)=s.take k) (hu:∀ r k',Cls s r k'→r=n∧k'=k):0=firstR s∧0=firstN s:=by
 have:=first_zero (s:=s) fun r k' hc=>by
  obtain ⟨rfl,rfl⟩:=hu r k' hc
  obtain ⟨h1,h2⟩:=cls_iff.1 hc
  apply h
  show enc r=_
  rw [h2]
  exact List.prefix_iff_eq_take.1 h1.2
 exact ⟨this.1.symm,this.2.symm⟩
theorem first_take {s:List UInt8} {n:Int} {k:Nat} (h:List.map (fun n=>UInt8.ofNat (Int.toNat n)) (Lib.encodeRuneZ n)=s.take k) (hs:scalar n=true) (hk:k≤s.length):n=firstR s∧(k:Int)=firstN s:=by
 have:=first_some ((cls_take hk hs).1 h)
 exact ⟨this.1.symm,this.2.symm⟩
set_option maxHeartbeats 4000000 in
theorem ok_first:FnP 55 sp_first:=of_first (by
 intro s
 rw [vc_first]
 have b0:=bt_lt s 0
 have b1:=bt_lt s 1
 have b2:=bt_lt s 2
 have b3:=bt_lt s 3
 have e0:bAt s 0=(bt s 0:Int):=rfl
 have e1:bAt s 1=(bt s 1:Int):=rfl
 have e2:bAt s (1+1)=(bt s 2:Int):=rfl
 have e3:bAt s (1+1+1)=(bt s 3:Int):=rfl
 have en:decide (s=Array.toList (ByteArray.data { data:=#[] }))=decide (s.length=0):=by
  cases s<;>simp
 rw [en]
 simp only [e0,e1,e2,e3,inR]
 clear e0 e1 e2 e3 en
 repeat' (first | apply And.intro | apply br_of | intro _)
 all_goals (try simp only [decide_eq_true_eq,decide_eq_false_iff_not,Bool.not_eq_true',Bool.not_eq_false',Bool.not_eq_eq_eq_not,Bool.not_true,Bool.not_false] at *)
 all_goals first
  | omega
  | assumption
  | (simp only [scalar,decide_eq_true_eq,decide_eq_false_iff_not] at *; omega)
  | exact (first_take ‹_› (by assumption) (by show (_:Nat)≤_; first | omega | (simp only [Int.toNat]; omega))).1
  | exact (first_take ‹_› (by assumption) (by show (_:Nat)≤_; first | omega | (simp only [Int.toNat]; omega))).2
  | exact (first_neq ‹_› (fun r k' hc=>by unfold Cls at hc; constructor<;>first | omega | (simp only [Int.toNat]; omega))).1
  | exact (first_neq ‹_› (fun r k' hc=>by unfold Cls at hc; constructor<;>first | omega | (simp only [Int.toNat]; omega))).2
  | exact (first_zero (fun r k' hc=>by unfold Cls at hc; (try simp only [scalar,decide_eq_true_eq,decide_eq_false_iff_not] at *); omega)).1.symm
  | exact (first_zero (fun r k' hc=>by unfold Cls at hc; (try simp only [scalar,decide_eq_true_eq,decide_eq_false_iff_not] at *); omega)).2.symm
  | skip)
end Go.Proofs.YtglfkihckkjniaaGreatDoor.Vx
namespace Go.Proofs
open Go.Shelf
open Go.RowKit in
open Go.RowKit in
open Go.RowKit in
open Go.RowKit in
open Go.RowKit in
open Go.RowKit in
def Tryz.lays156_ren:Go.Shelf.Ren:=⟨fun | 156=>125 | 165=>135 | 166=>105 | 169=>107 | 240=>131 | 241=>156 | 276=>151 | 277=>165 | n=>n,fun | 31=>43 | 9=>9 | 3=>3 | 4=>4 | 0=>0 | 20=>20 | 72=>149 | 76=>154 | 70=>147 | 37=>41 | 75=>153 | 127=>177 | 164=>198 | 5=>5 | 80=>158 | n=>n,fun | n=>n⟩
theorem Tryz.lays156:Go.Proofs.Lays.n156 Tryz.prog Tryz.lays156_ren:={
 mixed:=by kernel_rfl
 f156:=Tryz.func125.trans (congrArg some (by kernel_rfl))
 f165:=Tryz.func135.trans (congrArg some (by kernel_rfl))
 f166:=Tryz.func105.trans (congrArg some (by kernel_rfl))
 f169:=Tryz.func107.trans (congrArg some (by kernel_rfl))
 f240:=Tryz.func131.trans (congrArg some (by kernel_rfl))
 f241:=Tryz.func156.trans (congrArg some (by kernel_rfl))
 f276:=Tryz.func151.trans (congrArg some (by kernel_rfl))
 f277:=Tryz.func165.trans (congrArg some (by kernel_rfl))
 t0:=Tryz.underlying0
 a0:=Tryz.isAgg0
 z0:=Tryz.sizeOf0
 v0:=Tryz.zeroValue0
 t3:=Tryz.underlying3
 a3:=Tryz.isAgg3
 z3:=Tryz.sizeOf3
 v3:=Tryz.zeroValue3
 t4:=Tryz.underlying4
 a4:=Tryz.isAgg4
 z4:=Tryz.sizeOf4
 v4:=Tryz.zeroValue4
 t9:=Tryz.underlying9
 a9:=Tryz.isAgg9
 z9:=Tryz.sizeOf9
 v9:=Tryz.zeroValue9
 t20:=Tryz.underlying20
 a20:=Tryz.isAgg20
 z20:=Tryz.sizeOf20
 v20:=Tryz.zeroValue20
 t31:=Tryz.underlying43
 a31:=Tryz.isAgg43
 z31:=Tryz.sizeOf43
 v31:=Tryz.zeroValue43
 t37:=Tryz.underlying41
 a37:=Tryz.isAgg41
 z37:=Tryz.sizeOf41
 v37:=Tryz.zeroValue41
 t70:=Tryz.underlying147
 a70:=Tryz.isAgg147
 z70:=Tryz.sizeOf147
 v70:=Tryz.zeroValue147
 t72:=Tryz.underlying149
 a72:=Tryz.isAgg149
 z72:=Tryz.sizeOf149
 v72:=Tryz.zeroValue149
 t75:=Tryz.underlying153
 a75:=Tryz.isAgg153
 z75:=Tryz.sizeOf153
 v75:=Tryz.zeroValue153
 t76:=Tryz.underlying154
 a76:=Tryz.isAgg154
 z76:=Tryz.sizeOf154
 v76:=Tryz.zeroValue154
 t127:=Tryz.underlying177
 a127:=Tryz.isAgg177
 z127:=Tryz.sizeOf177
 v127:=Tryz.zeroValue177
 t164:=Tryz.underlying198
 a164:=Tryz.isAgg198
 z164:=Tryz.sizeOf198
 v164:=Tryz.zeroValue198 }
theorem Tryz.Builder_Extra_156:Builder.Extra Tryz.prog Tryz.lays156_ren:={
 sizeBuilder:=by kernel_rfl
 liesBuilder:=by kernel_rfl
 t5:=Tryz.underlying5
 a5:=Tryz.isAgg5
 z5:=Tryz.sizeOf5
 v5:=Tryz.zeroValue5
 infoByte:=by kernel_rfl
 cellsByte:=by kernel_rfl
 sizeByte:=by kernel_rfl
 neB5:=by decide }
open Go.RowKit in
theorem Tryz.strings_Join_none (a:Option Addr) (c:Nat) (sep:ByteArray) (w:World) :
  Calls Tryz.prog 125 #[.slice a 0 c,.string sep] w fun e w'=>e=.returned (.string ⟨#[]⟩)∧w'=w:=Any.strings_Join_none Tryz.lays156 Tryz.Builder_Extra_156 a c sep w
open Go.RowKit in
theorem Tryz.strings_Join (bk o c:Nat) (xs:List ByteArray) (sep:ByteArray) (w:World) (hcells:∀ (j:Nat) x,xs[j]? = some x→w.cell? ⟨bk,o+j,none⟩=some (.string x)) (hbk:bk<w.heap.size) (hN:xs.length≤140737488355328) (hcap:xs.length≤c) (hlen:(Lib.join (xs.map (·.data.toList)) sep.data.toList).length≤140737488355328) :
  Calls Tryz.prog 125 #[.slice (some ⟨bk,o,none⟩) xs.length c,.string sep] w fun e w'=>e=.returned (.string ⟨(Lib.join (xs.map (·.data.toList)) sep.data.toList).toArray⟩)∧Below w.heap.size w w':=Any.strings_Join Tryz.lays156 Tryz.Builder_Extra_156 bk o c xs sep w hcells hbk hN hcap hlen
open Go.RowKit in
def Tryz.lays161_ren:Go.Shelf.Ren:=⟨fun | 161=>127 | 231=>147 | 227=>148 | 233=>149 | 235=>150 | 228=>164 | 197=>82 | 151=>120 | 260=>110 | 152=>141 | 137=>162 | 119=>130 | 224=>159 | 225=>158 | 217=>157 | 266=>166 | n=>n,fun | 9=>9 | 4=>4 | 3=>3 | 5=>5 | 117=>194 | 116=>193 | 0=>0 | 124=>197 | 105=>94 | 21=>21 | 119=>182 | 46=>178 | 139=>185 | 138=>184 | n=>n,fun | 3=>1 | 4=>2 | n=>n⟩
theorem Tryz.lays161:Go.Proofs.Lays.n161 Tryz.prog Tryz.lays161_ren:={
 mixed:=by kernel_rfl
 f119:=Tryz.func130.trans (congrArg some (by kernel_rfl))
 f137:=Tryz.func162.trans (congrArg some (by kernel_rfl))
 f151:=Tryz.func120.trans (congrArg some (by kernel_rfl))
 f152:=Tryz.func141.trans (congrArg some (by kernel_rfl))
 f161:=Tryz.func127.trans (congrArg some (by kernel_rfl))
 f197:=Tryz.func82.trans (congrArg some (by kernel_rfl))
 f217:=Tryz.func157.trans (congrArg some (by kernel_rfl))
 f224:=Tryz.func159.trans (congrArg some (by kernel_rfl))
 f225:=Tryz.func158.trans (congrArg some (by kernel_rfl))
 f227:=Tryz.func148.trans (congrArg some (by kernel_rfl))
 f228:=Tryz.func164.trans (congrArg some (by kernel_rfl))
 f231:=Tryz.func147.trans (congrArg some (by kernel_rfl))
 f233:=Tryz.func149.trans (congrArg some (by kernel_rfl))
 f235:=Tryz.func150.trans (congrArg some (by kernel_rfl))
 f260:=Tryz.func110.trans (congrArg some (by kernel_rfl))
 f266:=Tryz.func166.trans (congrArg some (by kernel_rfl))
 t0:=Tryz.underlying0
 a0:=Tryz.isAgg0
 z0:=Tryz.sizeOf0
 v0:=Tryz.zeroValue0
 t3:=Tryz.underlying3
 a3:=Tryz.isAgg3
 z3:=Tryz.sizeOf3
 v3:=Tryz.zeroValue3
 t4:=Tryz.underlying4
 a4:=Tryz.isAgg4
 z4:=Tryz.sizeOf4
 v4:=Tryz.zeroValue4
 t5:=Tryz.underlying5
 a5:=Tryz.isAgg5
 z5:=Tryz.sizeOf5
 v5:=Tryz.zeroValue5
 t9:=Tryz.underlying9
 a9:=Tryz.isAgg9
 z9:=Tryz.sizeOf9
 v9:=Tryz.zeroValue9
 t21:=Tryz.underlying21
 a21:=Tryz.isAgg21
 z21:=Tryz.sizeOf21
 v21:=Tryz.zeroValue21
 t46:=Tryz.underlying178
 a46:=Tryz.isAgg178
 z46:=Tryz.sizeOf178
 v46:=Tryz.zeroValue178
 t105:=Tryz.underlying94
 a105:=Tryz.isAgg94
 z105:=Tryz.sizeOf94
 v105:=Tryz.zeroValue94
 t116:=Tryz.underlying193
 a116:=Tryz.isAgg193
 z116:=Tryz.sizeOf193
 t117:=Tryz.underlying194
 a117:=Tryz.isAgg194
 z117:=Tryz.sizeOf194
 v117:=Tryz.zeroValue194
 t119:=Tryz.underlying182
 a119:=Tryz.isAgg182
 z119:=Tryz.sizeOf182
 t124:=Tryz.underlying197
 a124:=Tryz.isAgg197
 z124:=Tryz.sizeOf197
 v124:=Tryz.zeroValue197
 t138:=Tryz.underlying184
 a138:=Tryz.isAgg184
 z138:=Tryz.sizeOf184
 v138:=Tryz.zeroValue184
 t139:=Tryz.underlying185
 a139:=Tryz.isAgg185
 z139:=Tryz.sizeOf185
 v139:=Tryz.zeroValue185
 g3:=by kernel_rfl
 g4:=by kernel_rfl }
open Go.RowKit in
theorem Tryz.strings_TrimLeft_one (s:ByteArray) (c:UInt8) (hc:c.toNat<128) (w:World) :
  Calls Tryz.prog 127 #[.string s,.string ⟨#[c]⟩] w fun e w'=>e=.returned (.string ⟨(Lib.trimLeftB s.data.toList c).toArray⟩)∧w'=w:=Any.strings_TrimLeft_one Tryz.lays161 s c hc w
def Tryz.lays119_ren:Go.Shelf.Ren:=⟨fun | 119=>130 | n=>n,fun | 21=>21 | 4=>4 | n=>n,fun | n=>n⟩
theorem Tryz.lays119:Go.Proofs.Lays.n119 Tryz.prog Tryz.lays119_ren:={
 mixed:=by kernel_rfl
 f119:=Tryz.func130.trans (congrArg some (by kernel_rfl))
 t4:=Tryz.underlying4
 a4:=Tryz.isAgg4
 z4:=Tryz.sizeOf4
 v4:=Tryz.zeroValue4
 t21:=Tryz.underlying21
 a21:=Tryz.isAgg21
 z21:=Tryz.sizeOf21
 v21:=Tryz.zeroValue21 }
theorem Tryz.utf8_ValidRune (r:Int) (w:World) :
  Calls Tryz.prog 130 #[.int .i32 r] w fun e w'=>e=.returned (.bool (Lib.validRune r))∧w'=w:=Any.utf8_ValidRune Tryz.lays119 r w
open Go.RowKit in
open Go.RowKit in
def Tryz.lays103_ren:Go.Shelf.Ren:=⟨fun | 103=>115 | 210=>138 | 206=>155 | n=>n,fun | 9=>9 | 4=>4 | 24=>160 | 3=>3 | n=>n,fun | n=>n⟩
theorem Tryz.lays103:Go.Proofs.Lays.n103 Tryz.prog Tryz.lays103_ren:={
 mixed:=by kernel_rfl
 f103:=Tryz.func115.trans (congrArg some (by kernel_rfl))
 f206:=Tryz.func155.trans (congrArg some (by kernel_rfl))
 f210:=Tryz.func138.trans (congrArg some (by kernel_rfl))
 t3:=Tryz.underlying3
 a3:=Tryz.isAgg3
 z3:=Tryz.sizeOf3
 v3:=Tryz.zeroValue3
 t4:=Tryz.underlying4
 a4:=Tryz.isAgg4
 z4:=Tryz.sizeOf4
 v4:=Tryz.zeroValue4
 t9:=Tryz.underlying9
 a9:=Tryz.isAgg9
 z9:=Tryz.sizeOf9
 v9:=Tryz.zeroValue9
 t24:=Tryz.underlying160
 a24:=Tryz.isAgg160
 z24:=Tryz.sizeOf160
 v24:=Tryz.zeroValue160 }
open Go.RowKit in
theorem Tryz.strings_CutPrefix (s p:ByteArray) (w:World) :
  Calls Tryz.prog 115 #[.string s,.string p] w fun e w'=>e=.returned (.tuple #[.string ⟨(Lib.trimPrefix s.data.toList p.data.toList).toArray⟩,.bool (Lib.hasPrefix s.data.toList p.data.toList)])∧w'=w:=Any.strings_CutPrefix Tryz.lays103 s p w
open Go.RowKit in
open Go.RowKit in
open Go.RowKit in
open Go.RowKit in
open Go.RowKit in
open Go.RowKit in
open Go.RowKit in
open Go.RowKit in
open Go.RowKit in
open Go.RowKit in
open Go.RowKit in
open Go.RowKit in
open Go.RowKit Go.Lib in
open Go.RowKit Go.Lib in
open Go.RowKit Go.Lib in
open Go.RowKit Go.Lib in
open Go.RowKit Go.Lib in
open Go.RowKit Go.Lib in
open Go.RowKit Go.Lib in
open Go.RowKit Go.Lib in
def Tryz.lays144_ren:Go.Shelf.Ren:=⟨fun | 144=>124 | 143=>145 | 219=>137 | 217=>157 | 225=>158 | 224=>159 | 267=>160 | 266=>166 | 314=>167 | n=>n,fun | 9=>9 | 4=>4 | 3=>3 | 5=>5 | 46=>178 | 146=>201 | 51=>200 | n=>n,fun | 1=>3 | n=>n⟩
theorem Tryz.lays144:Go.Proofs.Lays.n144 Tryz.prog Tryz.lays144_ren:={
 mixed:=by kernel_rfl
 f143:=Tryz.func145.trans (congrArg some (by kernel_rfl))
 f144:=Tryz.func124.trans (congrArg some (by kernel_rfl))
 f217:=Tryz.func157.trans (congrArg some (by kernel_rfl))
 f219:=Tryz.func137.trans (congrArg some (by kernel_rfl))
 f224:=Tryz.func159.trans (congrArg some (by kernel_rfl))
 f225:=Tryz.func158.trans (congrArg some (by kernel_rfl))
 f266:=Tryz.func166.trans (congrArg some (by kernel_rfl))
 f267:=Tryz.func160.trans (congrArg some (by kernel_rfl))
 f314:=Tryz.func167.trans (congrArg some (by kernel_rfl))
 t3:=Tryz.underlying3
 a3:=Tryz.isAgg3
 z3:=Tryz.sizeOf3
 v3:=Tryz.zeroValue3
 t4:=Tryz.underlying4
 a4:=Tryz.isAgg4
 z4:=Tryz.sizeOf4
 v4:=Tryz.zeroValue4
 t5:=Tryz.underlying5
 a5:=Tryz.isAgg5
 z5:=Tryz.sizeOf5
 v5:=Tryz.zeroValue5
 t9:=Tryz.underlying9
 a9:=Tryz.isAgg9
 z9:=Tryz.sizeOf9
 v9:=Tryz.zeroValue9
 t46:=Tryz.underlying178
 a46:=Tryz.isAgg178
 z46:=Tryz.sizeOf178
 v46:=Tryz.zeroValue178
 t51:=Tryz.underlying200
 a51:=Tryz.isAgg200
 z51:=Tryz.sizeOf200
 v51:=Tryz.zeroValue200
 t146:=Tryz.underlying201
 a146:=Tryz.isAgg201
 z146:=Tryz.sizeOf201
 v146:=Tryz.zeroValue201
 g1:=by kernel_rfl }
open Go.RowKit Go.Lib in
theorem Tryz.strings_Contains_one (s:ByteArray) (c:UInt8) (w:World) :
  Calls Tryz.prog 124 #[.string s,.string ⟨#[c]⟩] w fun e w'=>e=.returned (.bool (decide (0≤Lib.indexByte s.data.toList c)))∧w'=w:=Any.strings_Contains_one Tryz.lays144 s c w
open Go.RowKit Go.Lib in
open Go.RowKit Go.Lib in
def Tryz.lays145_ren:Go.Shelf.Ren:=⟨fun | 145=>92 | 220=>114 | 219=>137 | 217=>157 | 225=>158 | 224=>159 | 267=>160 | 266=>166 | 314=>167 | n=>n,fun | 9=>9 | 4=>4 | 59=>81 | 3=>3 | 5=>5 | 46=>178 | 146=>201 | 51=>200 | n=>n,fun | 1=>3 | n=>n⟩
theorem Tryz.lays145:Go.Proofs.Lays.n145 Tryz.prog Tryz.lays145_ren:={
 mixed:=by kernel_rfl
 f145:=Tryz.func92.trans (congrArg some (by kernel_rfl))
 f217:=Tryz.func157.trans (congrArg some (by kernel_rfl))
 f219:=Tryz.func137.trans (congrArg some (by kernel_rfl))
 f220:=Tryz.func114.trans (congrArg some (by kernel_rfl))
 f224:=Tryz.func159.trans (congrArg some (by kernel_rfl))
 f225:=Tryz.func158.trans (congrArg some (by kernel_rfl))
 f266:=Tryz.func166.trans (congrArg some (by kernel_rfl))
 f267:=Tryz.func160.trans (congrArg some (by kernel_rfl))
 f314:=Tryz.func167.trans (congrArg some (by kernel_rfl))
 t3:=Tryz.underlying3
 a3:=Tryz.isAgg3
 z3:=Tryz.sizeOf3
 v3:=Tryz.zeroValue3
 t4:=Tryz.underlying4
 a4:=Tryz.isAgg4
 z4:=Tryz.sizeOf4
 v4:=Tryz.zeroValue4
 t5:=Tryz.underlying5
 a5:=Tryz.isAgg5
 z5:=Tryz.sizeOf5
 v5:=Tryz.zeroValue5
 t9:=Tryz.underlying9
 a9:=Tryz.isAgg9
 z9:=Tryz.sizeOf9
 v9:=Tryz.zeroValue9
 t46:=Tryz.underlying178
 a46:=Tryz.isAgg178
 z46:=Tryz.sizeOf178
 v46:=Tryz.zeroValue178
 t51:=Tryz.underlying200
 a51:=Tryz.isAgg200
 z51:=Tryz.sizeOf200
 v51:=Tryz.zeroValue200
 t59:=Tryz.underlying81
 a59:=Tryz.isAgg81
 z59:=Tryz.sizeOf81
 v59:=Tryz.zeroValue81
 t146:=Tryz.underlying201
 a146:=Tryz.isAgg201
 z146:=Tryz.sizeOf201
 v146:=Tryz.zeroValue201
 g1:=by kernel_rfl }
open Go.RowKit Go.Lib in
theorem Tryz.strings_Cut (s sep:ByteArray) (m:Int) (w:World) (hs:s.size<4294967281) (hm:w.cell? ⟨3,0,none⟩=some (.int .i64 m)) :
  Calls Tryz.prog 92 #[.string s,.string sep] w fun e w'=>e=.returned (.tuple #[.string ⟨(Lib.cut s.data.toList sep.data.toList).1.toArray⟩,.string ⟨(Lib.cut s.data.toList sep.data.toList).2.1.toArray⟩,.bool (Lib.cut s.data.toList sep.data.toList).2.2])∧∃ n,w'=w.drewN n:=Any.strings_Cut Tryz.lays145 s sep m w hs hm
def Tryz.lays138_ren:Go.Shelf.Ren:=⟨fun | 138=>122 | 195=>143 | 218=>144 | 143=>145 | 219=>137 | 217=>157 | 225=>158 | 224=>159 | 267=>160 | 266=>166 | 314=>167 | n=>n,fun | 9=>9 | 3=>3 | 4=>4 | 5=>5 | 0=>0 | 46=>178 | 146=>201 | 51=>200 | n=>n,fun | 1=>3 | n=>n⟩
theorem Tryz.lays138:Go.Proofs.Lays.n138 Tryz.prog Tryz.lays138_ren:={
 mixed:=by kernel_rfl
 f138:=Tryz.func122.trans (congrArg some (by kernel_rfl))
 f143:=Tryz.func145.trans (congrArg some (by kernel_rfl))
 f195:=Tryz.func143.trans (congrArg some (by kernel_rfl))
 f217:=Tryz.func157.trans (congrArg some (by kernel_rfl))
 f218:=Tryz.func144.trans (congrArg some (by kernel_rfl))
 f219:=Tryz.func137.trans (congrArg some (by kernel_rfl))
 f224:=Tryz.func159.trans (congrArg some (by kernel_rfl))
 f225:=Tryz.func158.trans (congrArg some (by kernel_rfl))
 f266:=Tryz.func166.trans (congrArg some (by kernel_rfl))
 f267:=Tryz.func160.trans (congrArg some (by kernel_rfl))
 f314:=Tryz.func167.trans (congrArg some (by kernel_rfl))
 t0:=Tryz.underlying0
 a0:=Tryz.isAgg0
 z0:=Tryz.sizeOf0
 v0:=Tryz.zeroValue0
 t3:=Tryz.underlying3
 a3:=Tryz.isAgg3
 z3:=Tryz.sizeOf3
 v3:=Tryz.zeroValue3
 t4:=Tryz.underlying4
 a4:=Tryz.isAgg4
 z4:=Tryz.sizeOf4
 v4:=Tryz.zeroValue4
 t5:=Tryz.underlying5
 a5:=Tryz.isAgg5
 z5:=Tryz.sizeOf5
 v5:=Tryz.zeroValue5
 t9:=Tryz.underlying9
 a9:=Tryz.isAgg9
 z9:=Tryz.sizeOf9
 v9:=Tryz.zeroValue9
 t46:=Tryz.underlying178
 a46:=Tryz.isAgg178
 z46:=Tryz.sizeOf178
 v46:=Tryz.zeroValue178
 t51:=Tryz.underlying200
 a51:=Tryz.isAgg200
 z51:=Tryz.sizeOf200
 v51:=Tryz.zeroValue200
 t146:=Tryz.underlying201
 a146:=Tryz.isAgg201
 z146:=Tryz.sizeOf201
 v146:=Tryz.zeroValue201
 g1:=by kernel_rfl }
open Go.RowKit Go.Lib in
theorem Tryz.strings_Count_one (s:ByteArray) (c:UInt8) (w:World) :
  Calls Tryz.prog 122 #[.string s,.string ⟨#[c]⟩] w fun e w'=>e=.returned (.int .i64 (Lib.countByte s.data.toList c))∧w'=w:=Any.strings_Count_one Tryz.lays138 s c w
open Go.RowKit Go.Lib in
open Go.RowKit Go.Lib in
open Go.RowKit Go.Lib in
open Go.RowKit Go.Lib in
open Go.RowKit Go.Lib in
open Go.RowKit Go.Lib in
open Go.RowKit Go.Lib in
open Go.RowKit Go.Lib in
open Go.RowKit Go.Lib in
open Go.RowKit Go.Lib in
open Go.RowKit Go.Lib in
open Go.RowKit Go.Lib in
open Go.RowKit Go.Lib in
open Go.RowKit Go.Lib in
open Go.RowKit Go.Lib in
open Go.RowKit Go.Lib in
open Go.RowKit Go.Lib in
open Go.RowKit Go.Lib in
open Go.RowKit Go.Lib in
def Tryz.lays146_ren:Go.Shelf.Ren:=⟨fun | 146=>123 | 221=>146 | 268=>163 | 138=>122 | 143=>145 | 195=>143 | 197=>82 | 218=>144 | 219=>137 | 260=>110 | 217=>157 | 225=>158 | 224=>159 | 267=>160 | 266=>166 | 314=>167 | n=>n,fun | 9=>9 | 31=>43 | 3=>3 | 4=>4 | 0=>0 | 105=>94 | 21=>21 | 5=>5 | 46=>178 | 119=>182 | 139=>185 | 138=>184 | 146=>201 | 51=>200 | n=>n,fun | 1=>3 | 3=>1 | 4=>2 | n=>n⟩
theorem Tryz.lays146:Go.Proofs.Lays.n146 Tryz.prog Tryz.lays146_ren:={
 mixed:=by kernel_rfl
 f138:=Tryz.func122.trans (congrArg some (by kernel_rfl))
 f143:=Tryz.func145.trans (congrArg some (by kernel_rfl))
 f146:=Tryz.func123.trans (congrArg some (by kernel_rfl))
 f195:=Tryz.func143.trans (congrArg some (by kernel_rfl))
 f197:=Tryz.func82.trans (congrArg some (by kernel_rfl))
 f217:=Tryz.func157.trans (congrArg some (by kernel_rfl))
 f218:=Tryz.func144.trans (congrArg some (by kernel_rfl))
 f219:=Tryz.func137.trans (congrArg some (by kernel_rfl))
 f221:=Tryz.func146.trans (congrArg some (by kernel_rfl))
 f224:=Tryz.func159.trans (congrArg some (by kernel_rfl))
 f225:=Tryz.func158.trans (congrArg some (by kernel_rfl))
 f260:=Tryz.func110.trans (congrArg some (by kernel_rfl))
 f266:=Tryz.func166.trans (congrArg some (by kernel_rfl))
 f267:=Tryz.func160.trans (congrArg some (by kernel_rfl))
 f268:=Tryz.func163.trans (congrArg some (by kernel_rfl))
 f314:=Tryz.func167.trans (congrArg some (by kernel_rfl))
 t0:=Tryz.underlying0
 a0:=Tryz.isAgg0
 z0:=Tryz.sizeOf0
 v0:=Tryz.zeroValue0
 t3:=Tryz.underlying3
 a3:=Tryz.isAgg3
 z3:=Tryz.sizeOf3
 v3:=Tryz.zeroValue3
 t4:=Tryz.underlying4
 a4:=Tryz.isAgg4
 z4:=Tryz.sizeOf4
 v4:=Tryz.zeroValue4
 t5:=Tryz.underlying5
 a5:=Tryz.isAgg5
 z5:=Tryz.sizeOf5
 v5:=Tryz.zeroValue5
 t9:=Tryz.underlying9
 a9:=Tryz.isAgg9
 z9:=Tryz.sizeOf9
 v9:=Tryz.zeroValue9
 t21:=Tryz.underlying21
 a21:=Tryz.isAgg21
 z21:=Tryz.sizeOf21
 v21:=Tryz.zeroValue21
 t31:=Tryz.underlying43
 a31:=Tryz.isAgg43
 z31:=Tryz.sizeOf43
 v31:=Tryz.zeroValue43
 t46:=Tryz.underlying178
 a46:=Tryz.isAgg178
 z46:=Tryz.sizeOf178
 v46:=Tryz.zeroValue178
 t51:=Tryz.underlying200
 a51:=Tryz.isAgg200
 z51:=Tryz.sizeOf200
 v51:=Tryz.zeroValue200
 t105:=Tryz.underlying94
 a105:=Tryz.isAgg94
 z105:=Tryz.sizeOf94
 v105:=Tryz.zeroValue94
 t119:=Tryz.underlying182
 a119:=Tryz.isAgg182
 z119:=Tryz.sizeOf182
 t138:=Tryz.underlying184
 a138:=Tryz.isAgg184
 z138:=Tryz.sizeOf184
 v138:=Tryz.zeroValue184
 t139:=Tryz.underlying185
 a139:=Tryz.isAgg185
 z139:=Tryz.sizeOf185
 v139:=Tryz.zeroValue185
 t146:=Tryz.underlying201
 a146:=Tryz.isAgg201
 z146:=Tryz.sizeOf201
 v146:=Tryz.zeroValue201
 g1:=by kernel_rfl
 g3:=by kernel_rfl
 g4:=by kernel_rfl }
open Go.RowKit Go.Lib in
theorem Tryz.strings_Split (s sep:ByteArray) (m:Int) (w:World) (hs:s.size<4294967281) (hm:w.cell? ⟨3,0,none⟩=some (.int .i64 m)) (h1:1≤sep.size) :
  Calls Tryz.prog 123 #[.string s,.string sep] w fun e w' =>
   e=.returned (.slice (some ⟨w.heap.size,0,none⟩) (Lib.countB s sep+1) (Lib.countB s sep+1))∧w'=w.alloc (.cells ((Lib.splitB sep 0 (Lib.countB s sep) s).map Value.string).toArray 9):=Any.strings_Split Tryz.lays146 (by kernel_rfl) s sep m w hs hm h1
open Go.RowKit Go.Lib in
open Go.RowKit Go.Lib in
def Tryz.lays151_ren:Go.Shelf.Ren:=⟨fun | 151=>120 | 152=>141 | 137=>162 | 119=>130 | 224=>159 | 225=>158 | 217=>157 | 266=>166 | n=>n,fun | 9=>9 | 21=>21 | 4=>4 | 3=>3 | 5=>5 | 0=>0 | 46=>178 | n=>n,fun | n=>n⟩
theorem Tryz.lays151:Go.Proofs.Lays.n151 Tryz.prog Tryz.lays151_ren:={
 mixed:=by kernel_rfl
 f119:=Tryz.func130.trans (congrArg some (by kernel_rfl))
 f137:=Tryz.func162.trans (congrArg some (by kernel_rfl))
 f151:=Tryz.func120.trans (congrArg some (by kernel_rfl))
 f152:=Tryz.func141.trans (congrArg some (by kernel_rfl))
 f217:=Tryz.func157.trans (congrArg some (by kernel_rfl))
 f224:=Tryz.func159.trans (congrArg some (by kernel_rfl))
 f225:=Tryz.func158.trans (congrArg some (by kernel_rfl))
 f266:=Tryz.func166.trans (congrArg some (by kernel_rfl))
 t0:=Tryz.underlying0
 a0:=Tryz.isAgg0
 z0:=Tryz.sizeOf0
 v0:=Tryz.zeroValue0
 t3:=Tryz.underlying3
 a3:=Tryz.isAgg3
 z3:=Tryz.sizeOf3
 v3:=Tryz.zeroValue3
 t4:=Tryz.underlying4
 a4:=Tryz.isAgg4
 z4:=Tryz.sizeOf4
 v4:=Tryz.zeroValue4
 t5:=Tryz.underlying5
 a5:=Tryz.isAgg5
 z5:=Tryz.sizeOf5
 v5:=Tryz.zeroValue5
 t9:=Tryz.underlying9
 a9:=Tryz.isAgg9
 z9:=Tryz.sizeOf9
 v9:=Tryz.zeroValue9
 t21:=Tryz.underlying21
 a21:=Tryz.isAgg21
 z21:=Tryz.sizeOf21
 v21:=Tryz.zeroValue21
 t46:=Tryz.underlying178
 a46:=Tryz.isAgg178
 z46:=Tryz.sizeOf178
 v46:=Tryz.zeroValue178 }
open Go.RowKit Go.Lib in
theorem Tryz.strings_ContainsRune_ascii (s:ByteArray) (r:Int) (w:World) (h0:0≤r) (h1:r<128) :
  Calls Tryz.prog 120 #[.string s,.int .i32 r] w fun e w'=>e=.returned (.bool (decide (0≤Lib.indexByte s.data.toList r.toNat.toUInt8)))∧w'=w:=Any.strings_ContainsRune_ascii Tryz.lays151 s r w h0 h1
open Go.RowKit Go.Lib in
open Go.RowKit Go.Lib in
open Go.RowKit Go.Lib in
open Go.RowKit Go.Lib in
open Go.RowKit Go.Lib in
open Go.RowKit Go.Lib in
open Go.RowKit Go.Lib in
open Go.RowKit Go.Lib in
open Go.RowKit Go.Lib in
open Go.RowKit Go.Lib in
open Go.RowKit Go.Lib in
open Go.RowKit Go.Lib in
def Tryz.lays197_ren:Go.Shelf.Ren:=⟨fun | 197=>82 | 260=>110 | n=>n,fun | 9=>9 | 21=>21 | 3=>3 | 4=>4 | 5=>5 | 105=>94 | 119=>182 | 0=>0 | 46=>178 | 139=>185 | 138=>184 | n=>n,fun | 3=>1 | 4=>2 | n=>n⟩
theorem Tryz.lays197:Go.Proofs.Lays.n197 Tryz.prog Tryz.lays197_ren:={
 mixed:=by kernel_rfl
 f197:=Tryz.func82.trans (congrArg some (by kernel_rfl))
 f260:=Tryz.func110.trans (congrArg some (by kernel_rfl))
 t0:=Tryz.underlying0
 a0:=Tryz.isAgg0
 z0:=Tryz.sizeOf0
 v0:=Tryz.zeroValue0
 t3:=Tryz.underlying3
 a3:=Tryz.isAgg3
 z3:=Tryz.sizeOf3
 v3:=Tryz.zeroValue3
 t4:=Tryz.underlying4
 a4:=Tryz.isAgg4
 z4:=Tryz.sizeOf4
 v4:=Tryz.zeroValue4
 t5:=Tryz.underlying5
 a5:=Tryz.isAgg5
 z5:=Tryz.sizeOf5
 v5:=Tryz.zeroValue5
 t9:=Tryz.underlying9
 a9:=Tryz.isAgg9
 z9:=Tryz.sizeOf9
 v9:=Tryz.zeroValue9
 t21:=Tryz.underlying21
 a21:=Tryz.isAgg21
 z21:=Tryz.sizeOf21
 v21:=Tryz.zeroValue21
 t46:=Tryz.underlying178
 a46:=Tryz.isAgg178
 z46:=Tryz.sizeOf178
 v46:=Tryz.zeroValue178
 t105:=Tryz.underlying94
 a105:=Tryz.isAgg94
 z105:=Tryz.sizeOf94
 v105:=Tryz.zeroValue94
 t119:=Tryz.underlying182
 a119:=Tryz.isAgg182
 z119:=Tryz.sizeOf182
 t138:=Tryz.underlying184
 a138:=Tryz.isAgg184
 z138:=Tryz.sizeOf184
 v138:=Tryz.zeroValue184
 t139:=Tryz.underlying185
 a139:=Tryz.isAgg185
 z139:=Tryz.sizeOf185
 v139:=Tryz.zeroValue185
 g3:=by kernel_rfl
 g4:=by kernel_rfl }
open Go.RowKit Go.Lib in
theorem Tryz.utf8_DecodeRuneInString (s:ByteArray) (w:World) (hT:Lib.Utf8Tabs 1 2 w) :
  Calls Tryz.prog 82 #[.string s] w fun e w'=>e=.returned (.tuple #[.int .i32 (Lib.decodeGo s).1,.int .i64 (Lib.decodeGo s).2])∧Below w.heap.size w w':=Any.utf8_DecodeRuneInString Tryz.lays197 s w hT
end Go.Proofs
namespace Go.Proofs.YtglfkihckkjniaaGreatDoor.Vx
open Go Go.RowKit
theorem body_of {k:Nat} (fn:Func) (hf:Tryz.prog.funcs[k]? = some fn) (hb:fn.body.isSome=true) (hn:(fn.name == "runtime.NumGoroutine")=false):∃ fn c,Tryz.prog.funcs[k]? = some fn∧fn.body=some c∧(fn.name == "runtime.NumGoroutine")=false:=by
 obtain ⟨c,hc⟩:=Option.isSome_iff_exists.1 hb
 exact ⟨fn,c,hf,hc,hn⟩
theorem args1 {R:Value→PV→Prop} {args:List Value} {x:PV} (h:All2 R args [x]):∃ v,args=[v]∧R v x:=by
 cases h with
 | cons h1 h2=>cases h2; exact ⟨_,rfl,h1⟩
theorem args2 {R:Value→PV→Prop} {args:List Value} {x y:PV} (h:All2 R args [x,y]):∃ v u,args=[v,u]∧R v x∧R u y:=by
 cases h with
 | cons h1 h2=>obtain ⟨u,rfl,h3⟩:=args1 h2; exact ⟨_,_,rfl,h1,h3⟩
theorem glob_first {w:World} (h:Glob Gl w):Lib.Utf8Tabs 1 2 w:=by
 obtain ⟨c1,t1,f1,h1,rfl⟩:=h (1,(·=firstVals)) (by simp [Gl])
 obtain ⟨c2,t2,f2,h2,rfl⟩:=h (2,(·=rangeVals)) (by simp [Gl])
 refine ⟨fun c hc=>?_,fun i hi=>?_⟩
 ·simp only [World.cell?,h1]
  simp [firstVals,hc]
 ·have r1:rangeVals[2*i]? = some (.int .u8 (Lib.accLo i))∧rangeVals[2*i+1]? = some (.int .u8 (Lib.accHi i)):=by
   have:i=0∨i=1∨i=2∨i=3∨i=4∨i=5∨i=6∨i=7∨i=8∨i=9∨i=10∨i=11∨i=12∨i=13∨i=14∨i=15:=by omega
   rcases this with rfl | rfl | rfl | rfl | rfl | rfl | rfl | rfl | rfl | rfl | rfl | rfl | rfl | rfl | rfl | rfl<;>exact ⟨rfl,rfl⟩
  simp only [World.cell?,h2]
  simpa using r1
theorem glob_max {w:World} (h:Glob Gl w):∃ m,w.cell? ⟨3,0,none⟩=some (.int .i64 m):=by
 obtain ⟨c1,t1,f1,h1,m,rfl⟩:=h (3,fun cs=>∃ m,cs=[.int .i64 m]) (by simp [Gl])
 exact ⟨m,by simp [World.cell?,h1]⟩
def dR (s:List UInt8):Int:=if s=[] then 65533 else ((decL s).1:Int)
def dN (s:List UInt8):Int:=if s=[] then 0 else ((decL s).2:Int)
def sp_decode:FSpec:=⟨[],fun | [.one (.str s)]=>some ([],.tup [(false,[.int .i32 (dR s)]),(false,[.int .i64 (dN s)])]) | _=>none⟩
theorem ok_decode:FnP 82 sp_decode:=by
 refine ⟨body_of Tryz.f82 (by kernel_rfl) (by kernel_rfl) (by kernel_rfl),?_⟩
 intro pvs p r hs hp w B args hg ha
 unfold sp_decode at hs
 simp only at hs
 split at hs
 ·rename_i s
  cases hs
  obtain ⟨v,rfl,hv⟩:=args1 ha
  have hv:v=.string ⟨s.toArray⟩:=hv
  subst hv
  refine (Tryz.utf8_DecodeRuneInString ⟨s.toArray⟩ w (glob_first hg)).mono ?_
  rintro e w' ⟨rfl,hb⟩
  refine ⟨_,rfl,Fr.below hb _,?_⟩
  have e1:((Lib.decodeGo ⟨s.toArray⟩).1:Int)=dR s∧((Lib.decodeGo ⟨s.toArray⟩).2:Int)=dN s:=by
   unfold Lib.decodeGo dR dN
   have hsz:(⟨s.toArray⟩:ByteArray).size=s.length:=by simp [ByteArray.size]
   rw [hsz]
   by_cases h0:s=[]
   ·subst h0; exact ⟨rfl,rfl⟩
   ·rw [if_neg (by simpa using h0),if_neg h0,if_neg h0,decode_drop,List.drop_zero]
    exact ⟨rfl,rfl⟩
  rw [e1.1,e1.2]
  exact ⟨[_,_],rfl,.cons rfl (.cons rfl .nil)⟩
 ·cases hs
def sp_vrune:FSpec:=⟨[],fun | [.one (.int .i32 r)]=>some ([],.one (.bool (scalar r))) | _=>none⟩
theorem validRune_scalar (r:Int):Lib.validRune r=scalar r:=by
 unfold Lib.validRune scalar
 rw [Bool.eq_iff_iff]
 simp
 omega
theorem ok_vrune:FnP 130 sp_vrune:=by
 refine ⟨body_of Tryz.f130 (by kernel_rfl) (by kernel_rfl) (by kernel_rfl),?_⟩
 intro pvs p r hs hp w B args hg ha
 unfold sp_vrune at hs
 simp only at hs
 split at hs
 ·rename_i s
  cases hs
  obtain ⟨v,rfl,hv⟩:=args1 ha
  have hv:v=.int .i32 s:=hv
  subst hv
  refine (Tryz.utf8_ValidRune s w).mono ?_
  rintro e w' ⟨rfl,rfl⟩
  exact ⟨_,rfl,Fr.refl _ _,by rw [validRune_scalar]; rfl⟩
 ·cases hs
def sp_uscalar:FSpec:=⟨[],fun | [.one (.int .i32 r)]=>some ([],.one (.bool (scalar r))) | _=>none⟩
theorem vc_uscalar (r:Int):vcP [(130,sp_vrune)] [] misc Tryz.f102 (.nil) [.one (.int .i32 r)] (.one (.bool (scalar r)))=((scalar r=scalar r)):=by kernel_rfl
set_option maxHeartbeats 4000000 in
theorem of_uscalar (h:∀ (r:Int),vcP [(130,sp_vrune)] [] misc Tryz.f102 (.nil) [.one (.int .i32 r)] (.one (.bool (scalar r)))):FnP 102 sp_uscalar:=by
 refine fnP_ok (cs:=[(130,sp_vrune)]) (cas:=[]) (ms:=misc) (.cons ok_vrune .nil) .nil misc_ok 102 Tryz.f102 (by kernel_rfl) (by kernel_rfl) (by kernel_rfl) (fun _=>.nil) ?_
 intro pvs p r hs hp
 unfold sp_uscalar at hs
 simp only at hs
 split at hs
 ·rename_i r
  cases hs
  refine h r
 ·cases hs
theorem ok_uscalar:FnP 102 sp_uscalar:=of_uscalar (by intros; rw [vc_uscalar])
def Done (s:List UInt8):Type:={d:List Int // Scalars d∧encs d <+: s}
def Done.pos {s:List UInt8} (d:Done s):Nat:=(encs d.1).length
def sp_bad:FSpec:=⟨[],fun | [.one (.str s)]=>some ([s.length≤1000000000],.one (.int .i64 (badAt s))) | _=>none⟩
theorem vc_bad (s:List UInt8):vcP [(82,sp_decode)] [] misc Tryz.f56 (.loop 2 (Done s) (fun d=>⟨[(0,.one (.str s)),(8,.one (.slc 17))],[(17,some (.iter s d.pos))],18⟩) (fun d=>s.length-d.pos) (fun _=>.nil) .nil) [.one (.str s)] (.one (.int .i64 (badAt s)))=(((∃ (x:Done s),s=s∧(0:Nat)=Done.pos x∧s=s)∧∀ (x:Done s),br (decide (Done.pos x<List.length s)) (br (dec s (Done.pos x) != (65533:Int)) (∃ (x':Done s),(s=s∧Done.pos x+wid s (Done.pos x)=Done.pos x'∧s=s)∧List.length s-Done.pos x'<List.length s-Done.pos x) (((0:Int)≤(↑(Done.pos x):Int)∧(↑(Done.pos x):Int)≤(↑(List.length s):Int))∧br (dN (List.drop (Int.toNat (↑(Done.pos x):Int)) s)==(1:Int)) ((↑(Done.pos x):Int)=badAt s) (∃ (x':Done s),(s=s∧Done.pos x+wid s (Done.pos x)=Done.pos x'∧s=s)∧List.length s-Done.pos x'<List.length s-Done.pos x))) ((-1:Int)=badAt s))):=by kernel_rfl
set_option maxHeartbeats 4000000 in
theorem of_bad (h:∀ (s:List UInt8),(s.length≤1000000000)→vcP [(82,sp_decode)] [] misc Tryz.f56 (.loop 2 (Done s) (fun d=>⟨[(0,.one (.str s)),(8,.one (.slc 17))],[(17,some (.iter s d.pos))],18⟩) (fun d=>s.length-d.pos) (fun _=>.nil) .nil) [.one (.str s)] (.one (.int .i64 (badAt s)))):FnP 56 sp_bad:=by
 refine fnP_ok (cs:=[(82,sp_decode)]) (cas:=[]) (ms:=misc) (.cons ok_decode .nil) .nil misc_ok 56 Tryz.f56 (by kernel_rfl) (by kernel_rfl) (by kernel_rfl) (fun | [.one (.str s)]=>.loop 2 (Done s) (fun d=>⟨[(0,.one (.str s)),(8,.one (.slc 17))],[(17,some (.iter s d.pos))],18⟩) (fun d=>s.length-d.pos) (fun _=>.nil) .nil | _=>.nil) ?_
 intro pvs p r hs hp
 unfold sp_bad at hs
 simp only at hs
 split at hs
 ·rename_i s
  cases hs
  refine h s ?_
  ·exact hp
 ·cases hs
theorem Done.rest {s:List UInt8} (d:Done s):s=encs d.1++s.drop d.pos:=by
 exact (List.prefix_iff_eq_append.1 d.2.2).symm
theorem Done.le {s:List UInt8} (d:Done s):d.pos≤s.length:=d.2.2.length_le
def Done.zero (s:List UInt8):Done s:=⟨[],(fun r hr=>by cases hr),List.nil_prefix⟩
theorem dec_decL (s:List UInt8) (p:Nat):dec s p=((decL (s.drop p)).1:Int)∧wid s p=(decL (s.drop p)).2:=by
 unfold dec wid
 rw [decode_drop]
 exact ⟨rfl,rfl⟩
theorem Done.next {s:List UInt8} (d:Done s) (h:d.pos<s.length) :
  (∃ (r:Int) (d':Done s),step (s.drop d.pos)=some (r,(enc r).length)∧scalar r=true∧d'.1=d.1++[r]∧dec s d.pos=r∧wid s d.pos=(enc r).length∧d'.pos=d.pos+(enc r).length∧decL (s.drop d.pos)≠(65533,1)) ∨
  (Stuck (s.drop d.pos)∧s.drop d.pos≠[]∧decL (s.drop d.pos)=(65533,1)):=by
 have hne:s.drop d.pos≠[]:=by
  intro h0
  have:=congrArg List.length h0
  simp at this
  omega
 have hst:step (s.drop d.pos)=if decL (s.drop d.pos)=(65533,1) then none else some (((decL (s.drop d.pos)).1:Int),(decL (s.drop d.pos)).2):=by
  unfold step; rw [if_neg hne]
 by_cases hd:decL (s.drop d.pos)=(65533,1)
 ·rw [if_pos hd] at hst
  exact .inr ⟨hst,hne,hd⟩
 ·rw [if_neg hd] at hst
  obtain ⟨h1,h2,h3⟩:=step_starts hst
  have hr:=d.rest
  rw [h3] at hr
  refine .inl ⟨((decL (s.drop d.pos)).1:Int),⟨d.1++[((decL (s.drop d.pos)).1:Int)],d.2.1.snoc h1,?_⟩,by rw [hst,h2],h1,rfl,(dec_decL s d.pos).1,by rw [(dec_decL s d.pos).2,h2],?_,hd⟩
  ·rw [encs_snoc]
   exact ⟨_,by rw [List.append_assoc]; exact hr.symm⟩
  ·unfold Done.pos
   rw [encs_snoc,List.length_append]
theorem Done.stuck {s:List UInt8} (d:Done s) (h:Stuck (s.drop d.pos)):decomp s=(d.1,s.drop d.pos):=decomp_eq d.rest d.2.1 h
theorem Done.whole {s:List UInt8} (d:Done s) (h:¬ d.pos<s.length):s.drop d.pos=[]∧decomp s=(d.1,[])∧s=encs d.1:=by
 have h0:s.drop d.pos=[]:=by simp; omega
 refine ⟨h0,?_,?_⟩
 ·have:=d.stuck (by rw [h0]; rfl)
  rw [h0] at this; exact this
 ·have:=d.rest
  rw [h0,List.append_nil] at this; exact this
theorem dN_decL {t:List UInt8} (h:t≠[]):dN t=((decL t).2:Int):=by unfold dN; rw [if_neg h]
theorem ok_bad:FnP 56 sp_bad:=of_bad (by
 intro s hs
 rw [vc_bad]
 refine ⟨⟨.zero s,rfl,rfl,rfl⟩,fun d=>br_of (fun h=>?_) fun h=>?_⟩
 ·have h:d.pos<s.length:=by simpa using h
  rcases d.next h with ⟨r,d',h1,h2,h3,h4,h5,h6,h7⟩ | ⟨h1,h2,h3⟩
  ·have hgo:(∃ (x':Done s),(s=s∧d.pos+wid s d.pos=x'.pos∧s=s)∧s.length-x'.pos<s.length-d.pos) :=
    ⟨d',⟨rfl,by rw [h5,h6],rfl⟩,by have:=enc_len r; have:=d'.le; omega⟩
   refine br_of (fun _=>hgo) fun hr=>⟨⟨by omega,by omega⟩,br_of (fun hn=>?_) fun _=>hgo⟩
   exfalso
   simp only [bne_eq_false_iff_eq] at hr
   rw [h4] at hr
   subst hr
   rw [Int.toNat_natCast,dN_decL (by intro h0; rw [h0] at h1; cases h1)] at hn
   rw [(dec_decL s d.pos).2] at h5
   rw [h5] at hn
   exact absurd hn (by decide)
  ·obtain ⟨q1,q2⟩:=dec_decL s d.pos
   rw [h3] at q1 q2
   have hb:(d.pos:Int)=badAt s:=by
    unfold badAt
    rw [d.stuck h1,if_neg h2]
    rfl
   rw [q1,q2]
   refine br_of (fun hx=>by simp at hx) fun _=>⟨⟨by omega,by omega⟩,br_of (fun _=>hb) fun hn=>?_⟩
   exfalso
   rw [Int.toNat_natCast,dN_decL h2,h3] at hn
   simp at hn
 ·have h:¬ d.pos<s.length:=by simpa using h
  obtain ⟨g1,g2,g3⟩:=d.whole h
  unfold badAt
  rw [g2,if_pos rfl])
def sp_urunes:FSpec:=⟨[],fun | [.one (.str s)]=>some ([s.length≤1000000000],.tup [(false,[.rd (.ints .i32 (if badAt s<0 then (decomp s).1 else []))]),(false,[.bool (decide (badAt s<0))])]) | _=>none⟩
theorem vc_urunes (s:List UInt8):vcP [(56,sp_bad)] [] misc Tryz.f57 (.loop 5 (Done s) (fun d=>⟨[(0,.one (.str s)),(4,.one (.slc 18)),(11,.one (.slc 17))],[(17,some (.iter s d.pos)),(18,some (.row 21 (.ints .i32 d.1)))],19⟩) (fun d=>s.length-d.pos) (fun _=>.nil) .nil) [.one (.str s)] (.tup [(false,[.rd (.ints .i32 (if badAt s<0 then (decomp s).1 else []))]),(false,[.bool (decide (badAt s<0))])])=((List.length s≤(1000000000:Nat)∧br (decide (badAt s≥(0:Int))) (([]=if badAt s<(0:Int) then (decomp s).1 else [])∧false=decide (badAt s<(0:Int))) ((∃ (x:Done s),s=s∧(0:Nat)=Done.pos x∧s=s∧Subtype.val x=[])∧∀ (x:Done s),br (decide (Done.pos x<List.length s)) ((List.length (Subtype.val x)+(1:Nat))*(4:Nat)≤(140737488355328:Nat)∧∃ (x':Done s),(s=s∧Done.pos x+wid s (Done.pos x)=Done.pos x'∧s=s∧Subtype.val x++[dec s (Done.pos x)]=Subtype.val x')∧List.length s-Done.pos x'<List.length s-Done.pos x) ((Subtype.val x=if badAt s<(0:Int) then (decomp s).1 else [])∧true=decide (badAt s<(0:Int)))))):=by kernel_rfl
set_option maxHeartbeats 4000000 in
theorem of_urunes (h:∀ (s:List UInt8),(s.length≤1000000000)→vcP [(56,sp_bad)] [] misc Tryz.f57 (.loop 5 (Done s) (fun d=>⟨[(0,.one (.str s)),(4,.one (.slc 18)),(11,.one (.slc 17))],[(17,some (.iter s d.pos)),(18,some (.row 21 (.ints .i32 d.1)))],19⟩) (fun d=>s.length-d.pos) (fun _=>.nil) .nil) [.one (.str s)] (.tup [(false,[.rd (.ints .i32 (if badAt s<0 then (decomp s).1 else []))]),(false,[.bool (decide (badAt s<0))])])):FnP 57 sp_urunes:=by
 refine fnP_ok (cs:=[(56,sp_bad)]) (cas:=[]) (ms:=misc) (.cons ok_bad .nil) .nil misc_ok 57 Tryz.f57 (by kernel_rfl) (by kernel_rfl) (by kernel_rfl) (fun | [.one (.str s)]=>.loop 5 (Done s) (fun d=>⟨[(0,.one (.str s)),(4,.one (.slc 18)),(11,.one (.slc 17))],[(17,some (.iter s d.pos)),(18,some (.row 21 (.ints .i32 d.1)))],19⟩) (fun d=>s.length-d.pos) (fun _=>.nil) .nil | _=>.nil) ?_
 intro pvs p r hs hp
 unfold sp_urunes at hs
 simp only at hs
 split at hs
 ·rename_i s
  cases hs
  refine h s ?_
  ·exact hp
 ·cases hs
theorem bad_neg {s:List UInt8}:badAt s<0↔(decomp s).2=[]:=by
 unfold badAt
 split<;>simp_all
theorem Done.len {s:List UInt8} (d:Done s):d.1.length≤d.pos:=(encs_len d.1).1
theorem ok_urunes:FnP 57 sp_urunes:=of_urunes (by
 intro s hs
 rw [vc_urunes]
 refine ⟨hs,br_of (fun h=>?_) fun h=>⟨⟨.zero s,rfl,rfl,rfl,rfl⟩,fun d=>br_of (fun h1=>?_) fun h1=>?_⟩⟩
 ·have h:badAt s≥0:=by simpa using h
  have h':¬ badAt s<0:=by omega
  rw [if_neg h']; exact ⟨rfl,by simp [h']⟩
 ·have h:badAt s<0:=by simpa using h
  have h1:d.pos<s.length:=by simpa using h1
  have:=d.len
  rcases d.next h1 with ⟨r,d',g1,g2,g3,g4,g5,g6,g7⟩ | ⟨g1,g2,g3⟩
  ·exact ⟨by omega,d',⟨rfl,by rw [g5,g6],rfl,by rw [g4]; exact g3.symm⟩,by have:=enc_len r; have:=d'.le; omega⟩
  ·rw [bad_neg,d.stuck g1] at h
   exact absurd h g2
 ·have h:badAt s<0:=by simpa using h
  have h1:¬ d.pos<s.length:=by simpa using h1
  obtain ⟨g1,g2,g3⟩:=d.whole h1
  rw [if_pos h,g2]
  exact ⟨rfl,by simp [h]⟩)
def sp_rrunes:FSpec:=⟨[],fun | [.one (.str s)]=>some ([s.length≤1000000000],.tup [(false,[.rd (.ints .i32 (if badAt s<0 then (decomp s).1 else []))]),(false,[.int .i64 (badAt s)])]) | _=>none⟩
theorem vc_rrunes (s:List UInt8):vcP [(55,sp_first)] [] misc Tryz.f54 (.loop 3 (Done s) (fun d=>⟨[(0,.one (.str s)),(4,.one (.slc 17)),(5,.one (.int .i64 d.pos))],[(17,some (.row 21 (.ints .i32 d.1)))],18⟩) (fun d=>s.length-d.pos) (fun _=>.nil) .nil) [.one (.str s)] (.tup [(false,[.rd (.ints .i32 (if badAt s<0 then (decomp s).1 else []))]),(false,[.int .i64 (badAt s)])])=(((∃ (x:Done s),s=s∧(0:Int)=(↑(Done.pos x):Int)∧Subtype.val x=[])∧∀ (x:Done s),(letI v0:=(List.drop (Int.toNat (↑(Done.pos x):Int)) s); br (decide ((↑(Done.pos x):Int)<(↑(List.length s):Int))) (((0:Int)≤(↑(Done.pos x):Int)∧(↑(Done.pos x):Int)≤(↑(List.length s):Int))∧br (firstN v0==(0:Int)) (([]=if badAt s<(0:Int) then (decomp s).1 else [])∧(↑(Done.pos x):Int)=badAt s) ((List.length (Subtype.val x)+(1:Nat))*(4:Nat)≤(140737488355328:Nat)∧inR IntKind.i64 ((↑(Done.pos x):Int)+firstN v0)∧∃ (x':Done s),(s=s∧(↑(Done.pos x):Int)+firstN v0=(↑(Done.pos x'):Int)∧Subtype.val x++[firstR v0]=Subtype.val x')∧List.length s-Done.pos x'<List.length s-Done.pos x)) ((Subtype.val x=if badAt s<(0:Int) then (decomp s).1 else [])∧(-1:Int)=badAt s)))):=by kernel_rfl
set_option maxHeartbeats 4000000 in
theorem of_rrunes (h:∀ (s:List UInt8),(s.length≤1000000000)→vcP [(55,sp_first)] [] misc Tryz.f54 (.loop 3 (Done s) (fun d=>⟨[(0,.one (.str s)),(4,.one (.slc 17)),(5,.one (.int .i64 d.pos))],[(17,some (.row 21 (.ints .i32 d.1)))],18⟩) (fun d=>s.length-d.pos) (fun _=>.nil) .nil) [.one (.str s)] (.tup [(false,[.rd (.ints .i32 (if badAt s<0 then (decomp s).1 else []))]),(false,[.int .i64 (badAt s)])])):FnP 54 sp_rrunes:=by
 refine fnP_ok (cs:=[(55,sp_first)]) (cas:=[]) (ms:=misc) (.cons ok_first .nil) .nil misc_ok 54 Tryz.f54 (by kernel_rfl) (by kernel_rfl) (by kernel_rfl) (fun | [.one (.str s)]=>.loop 3 (Done s) (fun d=>⟨[(0,.one (.str s)),(4,.one (.slc 17)),(5,.one (.int .i64 d.pos))],[(17,some (.row 21 (.ints .i32 d.1)))],18⟩) (fun d=>s.length-d.pos) (fun _=>.nil) .nil | _=>.nil) ?_
 intro pvs p r hs hp
 unfold sp_rrunes at hs
 simp only at hs
 split at hs
 ·rename_i s
  cases hs
  refine h s ?_
  ·exact hp
 ·cases hs
theorem Done.first {s:List UInt8} (d:Done s):firstN (s.drop d.pos)=0∧(∀ h:d.pos<s.length,Stuck (s.drop d.pos)∧s.drop d.pos≠[]) ∨
  ∃ (r:Int) (d':Done s),firstR (s.drop d.pos)=r∧firstN (s.drop d.pos)=((enc r).length:Int)∧d'.1=d.1++[r]∧d'.pos=d.pos+(enc r).length:=by
 by_cases h:d.pos<s.length
 ·rcases d.next h with ⟨r,d',g1,g2,g3,g4,g5,g6,g7⟩ | ⟨g1,g2,g3⟩
  ·exact .inr ⟨r,d',by unfold firstR; rw [g1],by unfold firstN; rw [g1],g3,g6⟩
  ·exact .inl ⟨by unfold firstN; rw [show step (s.drop d.pos)=none from g1],fun _=>⟨g1,g2⟩⟩
 ·refine .inl ⟨?_,fun h'=>absurd h' h⟩
  rw [(d.whole h).1]; rfl
theorem ok_rrunes:FnP 54 sp_rrunes:=of_rrunes (by
 intro s hs
 rw [vc_rrunes]
 refine ⟨⟨.zero s,rfl,rfl,rfl⟩,fun d=>br_of (fun h1=>?_) fun h1=>?_⟩
 ·have h1:d.pos<s.length:=by simpa using h1
  have:=d.len
  rw [Int.toNat_natCast]
  refine ⟨⟨by omega,by omega⟩,?_⟩
  rcases d.first with ⟨g1,g2⟩ | ⟨r,d',g1,g2,g3,g4⟩
  ·obtain ⟨q1,q2⟩:=g2 h1
   rw [g1]
   have hb:badAt s=d.pos:=by
    unfold badAt
    rw [d.stuck q1,if_neg q2]; rfl
   refine br_of (fun _=>?_) fun h=>by simp at h
   rw [hb,if_neg (by omega)]
   exact ⟨rfl,rfl⟩
  ·have hl:=enc_len r
   have:=d'.le
   rw [g1,g2]
   refine br_of (fun h=>by rw [beq_iff_eq] at h; omega) fun _=>⟨by omega,by simp only [inR]; omega,d',⟨rfl,by omega,g3.symm⟩,by omega⟩
 ·have h1:¬ d.pos<s.length:=by simpa using h1
  obtain ⟨g1,g2,g3⟩:=d.whole h1
  have hb:badAt s = -1:=by unfold badAt; rw [g2,if_pos rfl]
  rw [hb,g2]
  simp)
end Go.Proofs.YtglfkihckkjniaaGreatDoor.Vx
namespace Go.Proofs.YtglfkihckkjniaaGreatDoor.Vx
open Go Go.RowKit
def miscW:Hook:=orHook (wrapHook T) misc
theorem miscW_ok:HookOK T (GC Tryz.prog Gl) miscW:=orHook_ok wrapHook_ok misc_ok
def sp_appendN:ASpec:=⟨fun | [.one (.slc 0),.one (.int .i32 r)],[(0,some (.row 5 (.ints .u8 l)))]=>some ([scalar r=true,128≤r,l.length≤1000000000000],.one (.slc 16),[(16,some (.row 5 (.ints .u8 (l++Lib.encodeRuneZ r))))]) | _,_=>none⟩
theorem vc_appendN (r:Int) (l:List Int):vcA [] [] miscW Tryz.f152 (.nil) [.one (.slc 0),.one (.int .i32 r)] [(0,some (.row 5 (.ints .u8 l)))] (.one (.slc 16)) [(16,some (.row 5 (.ints .u8 (l++Lib.encodeRuneZ r))))]=(letI v0:=(br (decide (IntKind.wrap IntKind.u32 r>(65535:Int))) (br (decide (IntKind.wrap IntKind.u32 r≤(1114111:Int))) ((0:Int)≤(18:Int)∧(0:Int)≤(12:Int)∧(0:Int)≤(6:Int)∧(List.length l+(4:Nat))*(1:Nat)≤(140737488355328:Nat)∧l++[bitsOf BinOp.or IntKind.u8 (240:Int) (IntKind.wrap IntKind.u8 (Int.fdiv r ((2:Int) ^ min (Int.toNat (18:Int)) (IntKind.bits IntKind.i32))))]++[bitsOf BinOp.or IntKind.u8 (128:Int) (bitsOf BinOp.and IntKind.u8 (IntKind.wrap IntKind.u8 (Int.fdiv r ((2:Int) ^ min (Int.toNat (12:Int)) (IntKind.bits IntKind.i32)))) (63:Int))]++[bitsOf BinOp.or IntKind.u8 (128:Int) (bitsOf BinOp.and IntKind.u8 (IntKind.wrap IntKind.u8 (Int.fdiv r ((2:Int) ^ min (Int.toNat (6:Int)) (IntKind.bits IntKind.i32)))) (63:Int))]++[bitsOf BinOp.or IntKind.u8 (128:Int) (bitsOf BinOp.and IntKind.u8 (IntKind.wrap IntKind.u8 r) (63:Int))]=l++Lib.encodeRuneZ r) ((List.length l+(3:Nat))*(1:Nat)≤(140737488355328:Nat)∧l++[(239:Int)]++[(191:Int)]++[(189:Int)]=l++Lib.encodeRuneZ r)) ((List.length l+(3:Nat))*(1:Nat)≤(140737488355328:Nat)∧l++[(239:Int)]++[(191:Int)]++[(189:Int)]=l++Lib.encodeRuneZ r)); letI v1:=((0:Int)≤(12:Int)∧(0:Int)≤(6:Int)∧(List.length l+(3:Nat))*(1:Nat)≤(140737488355328:Nat)∧l++[bitsOf BinOp.or IntKind.u8 (224:Int) (IntKind.wrap IntKind.u8 (Int.fdiv r ((2:Int) ^ min (Int.toNat (12:Int)) (IntKind.bits IntKind.i32))))]++[bitsOf BinOp.or IntKind.u8 (128:Int) (bitsOf BinOp.and IntKind.u8 (IntKind.wrap IntKind.u8 (Int.fdiv r ((2:Int) ^ min (Int.toNat (6:Int)) (IntKind.bits IntKind.i32)))) (63:Int))]++[bitsOf BinOp.or IntKind.u8 (128:Int) (bitsOf BinOp.and IntKind.u8 (IntKind.wrap IntKind.u8 r) (63:Int))]=l++Lib.encodeRuneZ r); (br (decide (IntKind.wrap IntKind.u32 r≤(2047:Int))) ((0:Int)≤(6:Int)∧(List.length l+(2:Nat))*(1:Nat)≤(140737488355328:Nat)∧l++[bitsOf BinOp.or IntKind.u8 (192:Int) (IntKind.wrap IntKind.u8 (Int.fdiv r ((2:Int) ^ min (Int.toNat (6:Int)) (IntKind.bits IntKind.i32))))]++[bitsOf BinOp.or IntKind.u8 (128:Int) (bitsOf BinOp.and IntKind.u8 (IntKind.wrap IntKind.u8 r) (63:Int))]=l++Lib.encodeRuneZ r) (br (decide (IntKind.wrap IntKind.u32 r<(55296:Int))) (br (decide (IntKind.wrap IntKind.u32 r<(55296:Int))) v1 v0) (br (decide ((57343:Int)<IntKind.wrap IntKind.u32 r)) (br (decide (IntKind.wrap IntKind.u32 r≤(65535:Int))) v1 v0) v0)))):=by kernel_rfl
set_option maxHeartbeats 4000000 in
theorem of_appendN (h:∀ (r:Int) (l:List Int),(scalar r=true)→(128≤r)→(l.length≤1000000000000)→vcA [] [] miscW Tryz.f152 (.nil) [.one (.slc 0),.one (.int .i32 r)] [(0,some (.row 5 (.ints .u8 l)))] (.one (.slc 16)) [(16,some (.row 5 (.ints .u8 (l++Lib.encodeRuneZ r))))]):FnA 152 sp_appendN:=by
 refine fnA_ok (cs:=[]) (cas:=[]) (ms:=miscW) .nil .nil miscW_ok 152 Tryz.f152 (by kernel_rfl) (by kernel_rfl) (by kernel_rfl) (fun _ _=>.nil) ?_
 intro args mem p r post hs hp
 unfold sp_appendN at hs
 simp only at hs
 split at hs
 ·rename_i r l
  cases hs
  refine h r l ?_ ?_ ?_
  ·exact hp.1
  ·exact hp.2.1
  ·exact hp.2.2
 ·cases hs
theorem wrap_u8 (z:Int):IntKind.wrap .u8 z=z % 256:=by simp [IntKind.wrap,IntKind.bits,IntKind.signed]
theorem wrap_u32 {z:Int} (h:0≤z) (h1:z≤4294967295):IntKind.wrap .u32 z=z:=wrap_in (k:=.u32) ⟨h,h1⟩
theorem and63:∀ x:Fin 256,bitsOf .and .u8 (x.1:Int) 63=(x.1:Int) % 64:=by decide
theorem or128:∀ x:Fin 64,bitsOf .or .u8 128 (x.1:Int)=128+(x.1:Int):=by decide
theorem or192:∀ x:Fin 32,bitsOf .or .u8 192 (x.1:Int)=192+(x.1:Int):=by decide
theorem or224:∀ x:Fin 16,bitsOf .or .u8 224 (x.1:Int)=224+(x.1:Int):=by decide
theorem or240:∀ x:Fin 8,bitsOf .or .u8 240 (x.1:Int)=240+(x.1:Int):=by decide
theorem fin_of {n:Nat} {z:Int} (h0:0≤z) (h1:z<n):∃ x:Fin n,(x.1:Int)=z:=⟨⟨z.toNat,by omega⟩,by simp; omega⟩
theorem low6 {z:Int} (h:0≤z):bitsOf .or .u8 128 (bitsOf .and .u8 (IntKind.wrap .u8 z) 63)=128+z % 64:=by
 rw [wrap_u8]
 obtain ⟨x,hx⟩:=fin_of (n:=256) (z:=z % 256) (by omega) (by omega)
 rw [← hx,and63 x]
 obtain ⟨y,hy⟩:=fin_of (n:=64) (z:=(x.1:Int) % 64) (by omega) (by omega)
 rw [← hy,or128 y]
 omega
theorem top192 {z:Int} (h:0≤z) (h1:z<32):bitsOf .or .u8 192 (IntKind.wrap .u8 z)=192+z:=by
 obtain ⟨x,hx⟩:=fin_of (n:=32) h h1
 rw [wrap_u8,show z % 256=z by omega,← hx,or192 x]
theorem top224 {z:Int} (h:0≤z) (h1:z<16):bitsOf .or .u8 224 (IntKind.wrap .u8 z)=224+z:=by
 obtain ⟨x,hx⟩:=fin_of (n:=16) h h1
 rw [wrap_u8,show z % 256=z by omega,← hx,or224 x]
theorem top240 {z:Int} (h:0≤z) (h1:z<8):bitsOf .or .u8 240 (IntKind.wrap .u8 z)=240+z:=by
 obtain ⟨x,hx⟩:=fin_of (n:=8) h h1
 rw [wrap_u8,show z % 256=z by omega,← hx,or240 x]
theorem ok_appendN:FnA 152 sp_appendN:=of_appendN (by
 intro r l hr h128 hl
 rw [vc_appendN]
 rw [scalar_iff] at hr
 have f6:Int.fdiv r (2 ^ min (Int.toNat 6) (IntKind.bits .i32))=r / 64:=by
  show Int.fdiv r 64=_
  exact Int.fdiv_eq_ediv_of_nonneg _ (by omega)
 have f12:Int.fdiv r (2 ^ min (Int.toNat 12) (IntKind.bits .i32))=r / 4096:=by
  show Int.fdiv r 4096=_
  exact Int.fdiv_eq_ediv_of_nonneg _ (by omega)
 have f18:Int.fdiv r (2 ^ min (Int.toNat 18) (IntKind.bits .i32))=r / 262144:=by
  show Int.fdiv r 262144=_
  exact Int.fdiv_eq_ediv_of_nonneg _ (by omega)
 rw [f6,f12,f18,wrap_u32 (by omega) (by omega)]
 rw [low6 (by omega),low6 (by omega),low6 (by omega)]
 have two:r≤2047→l++[bitsOf .or .u8 192 (IntKind.wrap .u8 (r / 64))]++[128+r % 64]=l++Lib.encodeRuneZ r:=fun h=>by
  rw [top192 (by omega) (by omega),Lib.encodeRuneZ_two (by omega) h]; simp
 have three:2047<r→r≤65535→l++[bitsOf .or .u8 224 (IntKind.wrap .u8 (r / 4096))]++[128+r / 64 % 64]++[128+r % 64]=l++Lib.encodeRuneZ r:=fun h h'=>by
  rw [top224 (by omega) (by omega),Lib.encodeRuneZ_three (by omega)]; simp
 have four:65535<r→l++[bitsOf .or .u8 240 (IntKind.wrap .u8 (r / 262144))]++[128+r / 4096 % 64]++[128+r / 64 % 64]++[128+r % 64]=l++Lib.encodeRuneZ r:=fun h=>by
  rw [top240 (by omega) (by omega),Lib.encodeRuneZ_four (by omega) (by omega)]; simp
 repeat' (first | apply And.intro | apply br_of | intro _)
 all_goals (try simp only [decide_eq_true_eq,decide_eq_false_iff_not] at *)
 all_goals first
  | omega
  | exact two (by omega)
  | exact three (by omega) (by omega)
  | exact four (by omega)
  | (exfalso; omega))
def sp_appendR:ASpec:=⟨fun | [.one (.slc 0),.one (.int .i32 r)],[(0,some (.row 5 (.ints .u8 l)))]=>some ([scalar r=true,l.length≤1000000000000],.one (.slc 16),[(16,some (.row 5 (.ints .u8 (l++Lib.encodeRuneZ r))))]) | _,_=>none⟩
theorem vc_appendR (r:Int) (l:List Int):vcA [] [(152,sp_appendN)] miscW Tryz.f132 (.nil) [.one (.slc 0),.one (.int .i32 r)] [(0,some (.row 5 (.ints .u8 l)))] (.one (.slc 16)) [(16,some (.row 5 (.ints .u8 (l++Lib.encodeRuneZ r))))]=((br (decide (IntKind.wrap IntKind.u32 r≤(127:Int))) ((List.length l+(1:Nat))*(1:Nat)≤(140737488355328:Nat)∧l++[IntKind.wrap IntKind.u8 r]=l++Lib.encodeRuneZ r) (scalar r=true∧(128:Int)≤r∧List.length l≤(1000000000000:Nat)∧l++Lib.encodeRuneZ r=l++Lib.encodeRuneZ r))):=by kernel_rfl
set_option maxHeartbeats 4000000 in
theorem of_appendR (h:∀ (r:Int) (l:List Int),(scalar r=true)→(l.length≤1000000000000)→vcA [] [(152,sp_appendN)] miscW Tryz.f132 (.nil) [.one (.slc 0),.one (.int .i32 r)] [(0,some (.row 5 (.ints .u8 l)))] (.one (.slc 16)) [(16,some (.row 5 (.ints .u8 (l++Lib.encodeRuneZ r))))]):FnA 132 sp_appendR:=by
 refine fnA_ok (cs:=[]) (cas:=[(152,sp_appendN)]) (ms:=miscW) .nil (.cons ok_appendN .nil) miscW_ok 132 Tryz.f132 (by kernel_rfl) (by kernel_rfl) (by kernel_rfl) (fun _ _=>.nil) ?_
 intro args mem p r post hs hp
 unfold sp_appendR at hs
 simp only at hs
 split at hs
 ·rename_i r l
  cases hs
  refine h r l ?_ ?_
  ·exact hp.1
  ·exact hp.2
 ·cases hs
theorem ok_appendR:FnA 132 sp_appendR:=of_appendR (by
 intro r l hr hl
 rw [vc_appendR]
 have hr':=hr
 rw [scalar_iff] at hr
 rw [wrap_u32 (by omega) (by omega)]
 refine br_of (fun h=>⟨by omega,?_⟩) fun h=>⟨hr',?_,hl,rfl⟩
 ·have h:r≤127:=by simpa using h
  rw [wrap_u8,Lib.encodeRuneZ_one hr.1 h,show r % 256=r by omega]
 ·have h:¬ r≤127:=by simpa using h
  omega)
def bHook:Hook:=fun fr o ev m =>
 match o.op with
 | .binOp op T x y _ =>
  bif Nat.beq T 147 then
   match op,ev x,ev y with
   | .eql,some (.one (.mp k b)),some (.one (.raw (.pointer none)))=>some ([],⟨.one (.bool (!b)),[]⟩)
   | .neq,some (.one (.mp k b)),some (.one (.ptr k' 0))=>bif Nat.beq k k' then some ([b=true],⟨.one .ff,[]⟩) else none
   | _,_,_=>none
  else none
 | .convert T U x =>
  bif (Nat.beq T 147 && Nat.beq U 198) || (Nat.beq T 198 && Nat.beq U 147) then
   match ev x with
   | some (.one (.ptr k 0))=>match m k with
    | some (.cells ty cs)=>bif Nat.beq ty 149 && Nat.beq cs.length 2 then some ([],⟨.one (.ptr k 0),[]⟩) else none
    | _=>none
   | _=>none
  else none
 | .call ⟨.value x,args,_⟩ =>
  match calleeOf ev x,args.toList with
  | some (f,[]),[y]=>bif Nat.beq f 151 then (match ev y with | some (.one (.ptr k 0))=>some ([],⟨.one (.ptr k 0),[]⟩) | _=>none) else none
  | _,_=>none
 | _=>none
theorem bldr_ptr:Tryz.prog.underlying 147=some (.pointer 149):=by kernel_rfl
theorem unsafe_ptr:Tryz.prog.underlying 198=some .unsafePointer:=by kernel_rfl
theorem bldr_size:(Tryz.prog.info? 149).map (·.size)=some 2:=by kernel_rfl
theorem bldr_lies:liesAt Tryz.prog Tryz.prog.depth 149 (2 / Tryz.prog.cellsOf 149) 0 149 1=true:=by kernel_rfl
theorem noEscape_run (x:Value) (w:World):(callFunc 151 #[x]).run Tryz.prog w=.ok (.value x) w:=by
 rw [run_callFunc_extern Tryz.func151 (by kernel_rfl) (by kernel_rfl) (by kernel_rfl) (e:=Extern.AbiNoEscape.same) (by kernel_rfl)]
 rfl
theorem bHook_ok:HookOK T (GC Tryz.prog Gl) bHook:=by
 intro C ρ S a w fr o ev m H hG ps e hk hp
 obtain ⟨j,hj,hjs⟩:=Option.map_eq_some_iff.1 bldr_size
 unfold bHook at hk
 split at hk
 ·rename_i op T' x y z ho
  cases hb:Nat.beq T' 147 with
  | false=>rw [hb] at hk; cases hk
  | true =>
   have:=Nat.eq_of_beq_eq_true hb
   subst this
   rw [hb,cond_true] at hk
   split at hk
   ·rename_i k b hx hy
    cases hk
    obtain ⟨u,h1,h2⟩:=H.val hx
    obtain ⟨u',h3,h4⟩:=H.val hy
    simp only [denV,den,Value.oneCell',if_true,Option.some.injEq] at h3
    subst h3
    have hp:∃ p,u=.pointer p∧p.isNone = !b:=by
     cases b with
     | false=>simp only [denV,den] at h1; cases h1; exact ⟨_,rfl,rfl⟩
     | true =>
      simp only [denV,den,denPtr,if_true,Option.map_eq_some_iff] at h1
      obtain ⟨g,_,rfl⟩:=h1
      exact ⟨_,rfl,rfl⟩
    obtain ⟨p,rfl,hpn⟩:=hp
    refine H.pure (v:=.bool (!b)) ?_ rfl
    have he:=run_equal_pointer_nil (P:=C.P) w 147 p (by rw [hG.prog]; kernel_rfl)
    unfold execOp
    simp [ho,h2,h4,eqGuard,binOp,he,hpn]
   ·rename_i k b k' hx hy
    cases hkk:Nat.beq k k' with
    | false=>rw [hkk] at hk; cases hk
    | true =>
     have:=Nat.eq_of_beq_eq_true hkk
     subst this
     rw [hkk,cond_true] at hk
     cases hk
     have hp:b=true:=hp
     subst hp
     obtain ⟨u,h1,h2⟩:=H.val hx
     obtain ⟨u',h3,h4⟩:=H.val hy
     simp only [denV,den,if_true] at h1 h3
     rw [h1] at h3; cases h3
     simp only [denPtr,Option.map_eq_some_iff] at h1
     obtain ⟨g,_,rfl⟩:=h1
     refine H.pure (v:=.bool false) ?_ rfl
     have he:=Lib.run_neq_ptr_same (P:=C.P) w (tp:=147) ⟨g,0,none⟩ (by rw [hG.prog]; exact bldr_ptr) (by rw [hG.prog]; exact hj)
     unfold execOp
     simp [ho,h2,h4,eqGuard,he]
   ·cases hk
 ·rename_i T' U x ho
  cases hb:(Nat.beq T' 147 && Nat.beq U 198) || (Nat.beq T' 198 && Nat.beq U 147) with
  | false=>rw [hb] at hk; cases hk
  | true =>
   rw [hb,cond_true] at hk
   split at hk
   ·rename_i k hx
    split at hk
    ·rename_i ty cs hm
     cases hc:Nat.beq ty 149 && Nat.beq cs.length 2 with
     | false=>rw [hc] at hk; cases hk
     | true =>
      rw [hc,cond_true] at hk
      cases hk
      simp only [Bool.and_eq_true] at hc
      have c1:=Nat.eq_of_beq_eq_true hc.1
      have c2:=Nat.eq_of_beq_eq_true hc.2
      subst c1
      obtain ⟨u,h1,h2⟩:=H.val hx
      obtain ⟨y,e1,g,vs,q1,q2,q3,q4⟩:=H.sat.mem k _ (H.mem k _ hm)
      have hd:denV ρ (.one (.ptr k 0))=some (.pointer (some ⟨g,0,none⟩)):=by simp [denV,den,denPtr,e1,q1]
      have hu:u=.pointer (some ⟨g,0,none⟩):=Option.some.inj (h1.symm.trans hd)
      subst hu
      have hsh:w.shape? (⟨g,0,none⟩:Addr).block=some (149,2):=by
       simp [World.shape?,q3,denL_length q2,c2]
      refine H.pure (v:=.pointer (some ⟨g,0,none⟩)) ?_ hd
      simp only [Bool.or_eq_true,Bool.and_eq_true] at hb
      rcases hb with ⟨b1,b2⟩ | ⟨b1,b2⟩
      ·have b1:=Nat.eq_of_beq_eq_true b1
       have b2:=Nat.eq_of_beq_eq_true b2
       subst b1; subst b2
       have hr:=Lib.run_to_unsafe (P:=C.P) w ⟨g,0,none⟩ (by rw [hG.prog]; exact bldr_ptr) (by rw [hG.prog]; exact unsafe_ptr) (by rw [hG.prog]; exact hj) (by rw [hjs]; decide) hsh (Nat.zero_lt_succ 1)
       unfold execOp
       simp only [ho,h2,Sem.run_bind,hr,Result.andThen_ok,Sem.run_pure]
      ·have b1:=Nat.eq_of_beq_eq_true b1
       have b2:=Nat.eq_of_beq_eq_true b2
       subst b1; subst b2
       have hr:=Lib.run_from_unsafe (P:=C.P) w ⟨g,0,none⟩ (by rw [hG.prog]; exact unsafe_ptr) (by rw [hG.prog]; exact bldr_ptr) (by rw [hG.prog]; exact hj) hsh (by rw [hG.prog]; exact bldr_lies)
       unfold execOp
       simp only [ho,h2,Sem.run_bind,hr,Result.andThen_ok,Sem.run_pure]
    ·cases hk
   ·cases hk
 ·rename_i x args ts ho
  split at hk
  ·rename_i f y hc ha
   cases hb:Nat.beq f 151 with
   | false=>rw [hb] at hk; cases hk
   | true =>
    have:=Nat.eq_of_beq_eq_true hb
    subst this
    rw [hb,cond_true] at hk
    split at hk
    ·rename_i k hy
     cases hk
     obtain ⟨u,h1,h2⟩:=H.val hy
     obtain ⟨cvs,g1,g2⟩:=callee_run H ho hc
     cases g1
     refine H.pure (v:=u) ?_ h1
     rw [g2,hG.prog,ha]
     simp only [List.map_cons,List.map_nil,List.append_nil,h2]
     exact noEscape_run u w
    ·cases hk
  ·cases hk
 ·cases hk
def miscB:Hook:=orHook bHook misc
theorem miscB_ok:HookOK T (GC Tryz.prog Gl) miscB:=orHook_ok bHook_ok misc_ok
def sp_copyCheck:ASpec:=⟨fun | [.one (.ptr 0 0)],[(0,some (.cells 149 [.mp 0 b,.slc 1])),(1,some (.row 5 (.ints .u8 l)))]=>some ([],.tup [],[(0,some (.cells 149 [.mp 0 true,.slc 1])),(1,some (.row 5 (.ints .u8 l)))]) | _,_=>none⟩
theorem vc_copyCheck (b:Bool) (l:List Int):vcA [] [] miscB Tryz.f131 (.nil) [.one (.ptr 0 0)] [(0,some (.cells 149 [.mp 0 b,.slc 1])),(1,some (.row 5 (.ints .u8 l)))] (.tup []) [(0,some (.cells 149 [.mp 0 true,.slc 1])),(1,some (.row 5 (.ints .u8 l)))]=((br (!b) (true=true∧l=l) (b=true∧b=true∧l=l))):=by kernel_rfl
set_option maxHeartbeats 4000000 in
theorem of_copyCheck (h:∀ (b:Bool) (l:List Int),vcA [] [] miscB Tryz.f131 (.nil) [.one (.ptr 0 0)] [(0,some (.cells 149 [.mp 0 b,.slc 1])),(1,some (.row 5 (.ints .u8 l)))] (.tup []) [(0,some (.cells 149 [.mp 0 true,.slc 1])),(1,some (.row 5 (.ints .u8 l)))]):FnA 131 sp_copyCheck:=by
 refine fnA_ok (cs:=[]) (cas:=[]) (ms:=miscB) .nil .nil miscB_ok 131 Tryz.f131 (by kernel_rfl) (by kernel_rfl) (by kernel_rfl) (fun _ _=>.nil) ?_
 intro args mem p r post hs hp
 unfold sp_copyCheck at hs
 simp only at hs
 split at hs
 ·rename_i b l
  cases hs
  refine h b l
 ·cases hs
theorem ok_copyCheck:FnA 131 sp_copyCheck:=of_copyCheck (by
 intro b l
 rw [vc_copyCheck]
 refine br_of (fun _=>⟨rfl,rfl⟩) fun h=>?_
 have:b=true:=by simpa using h
 exact ⟨this,this,rfl⟩)
def sp_writeRune:ASpec:=⟨fun | [.one (.ptr 0 0),.one (.int .i32 r)],[(0,some (.cells 149 [.mp 0 b,.slc 1])),(1,some (.row 5 (.ints .u8 l)))]=>some ([scalar r=true,l.length≤1000000000000],.tup [(false,[.int .i64 (Lib.encodeRuneZ r).length]),(false,[.raw .nilIface])],[(0,some (.cells 149 [.mp 0 true,.slc 16])),(16,some (.row 5 (.ints .u8 (l++Lib.encodeRuneZ r))))]) | _,_=>none⟩
theorem vc_writeRune (b:Bool) (l:List Int) (r:Int):vcA [] [(131,sp_copyCheck),(132,sp_appendR)] misc Tryz.f104 (.nil) [.one (.ptr 0 0),.one (.int .i32 r)] [(0,some (.cells 149 [.mp 0 b,.slc 1])),(1,some (.row 5 (.ints .u8 l)))] (.tup [(false,[.int .i64 (Lib.encodeRuneZ r).length]),(false,[.raw .nilIface])]) [(0,some (.cells 149 [.mp 0 true,.slc 16])),(16,some (.row 5 (.ints .u8 (l++Lib.encodeRuneZ r))))]=((scalar r=true∧List.length l≤(1000000000000:Nat)∧inR IntKind.i64 ((↑(List.length (l++Lib.encodeRuneZ r)):Int)-(↑(List.length l):Int))∧(↑(List.length (l++Lib.encodeRuneZ r)):Int)-(↑(List.length l):Int)=(↑(List.length (Lib.encodeRuneZ r)):Int)∧Value.nilIface=Value.nilIface∧true=true∧l++Lib.encodeRuneZ r=l++Lib.encodeRuneZ r)):=by kernel_rfl
set_option maxHeartbeats 4000000 in
theorem of_writeRune (h:∀ (b:Bool) (l:List Int) (r:Int),(scalar r=true)→(l.length≤1000000000000)→vcA [] [(131,sp_copyCheck),(132,sp_appendR)] misc Tryz.f104 (.nil) [.one (.ptr 0 0),.one (.int .i32 r)] [(0,some (.cells 149 [.mp 0 b,.slc 1])),(1,some (.row 5 (.ints .u8 l)))] (.tup [(false,[.int .i64 (Lib.encodeRuneZ r).length]),(false,[.raw .nilIface])]) [(0,some (.cells 149 [.mp 0 true,.slc 16])),(16,some (.row 5 (.ints .u8 (l++Lib.encodeRuneZ r))))]):FnA 104 sp_writeRune:=by
 refine fnA_ok (cs:=[]) (cas:=[(131,sp_copyCheck),(132,sp_appendR)]) (ms:=misc) .nil (.cons ok_copyCheck (.cons ok_appendR .nil)) misc_ok 104 Tryz.f104 (by kernel_rfl) (by kernel_rfl) (by kernel_rfl) (fun _ _=>.nil) ?_
 intro args mem p r post hs hp
 unfold sp_writeRune at hs
 simp only at hs
 split at hs
 ·rename_i r b l
  cases hs
  refine h b l r ?_ ?_
  ·exact hp.1
  ·exact hp.2
 ·cases hs
theorem ok_writeRune:FnA 104 sp_writeRune:=of_writeRune (by
 intro b l r hr hl
 rw [vc_writeRune]
 have:=Lib.encodeRuneZ_length r
 rw [List.length_append]
 exact ⟨hr,hl,by simp only [inR]; omega,by omega,rfl,rfl,rfl⟩)
set_option maxHeartbeats 2000000 in
theorem bstr_row (w:World) (b g cap:Nat) (p:Value) (cur:Array Value) (fz:Nat×Nat) (l:List UInt8) (h0:l≠[]) (hbk:w.heap[b]? = some (.cells #[p,.slice (some ⟨g,0,none⟩) l.length cap] 149 (0,0)))
  (hg:w.heap[g]? = some (.cells cur 5 fz)) (hnc:l.length≤cap) (hcm:cap≤maxLen) (hcs:cur.size=cap) (htake:cur.toList.take l.length=Lib.byteCells l) :
  Calls Tryz.prog 107 #[.pointer (some ⟨b,0,none⟩)] w fun e w'=>e=.returned (.string ⟨l.toArray⟩)∧w'=w.drew.freeze ⟨g,0,none⟩ l.length:=by
 have hl0:l.length≠0:=by simpa using h0
 have c1:w.drew.cell? ⟨b,1,none⟩=some (.slice (some ⟨g,0,none⟩) l.length cap):=by
  have:w.drew.heap[b]? = some (.cells #[p,.slice (some ⟨g,0,none⟩) l.length cap] 149 (0,0)):=hbk
  rw [Lib.cell_of_heap this]; rfl
 have hSD:(Builtin.unsafeSliceData_ #[41] 177 #[.slice (some ⟨g,0,none⟩) l.length cap]).run Tryz.prog w.drew=.ok (.pointer (some ⟨g,0,none⟩)) w.drew :=
  Lib.run_unsafeSliceData_row _ _ _ _ _ _ (by omega)
 have hUS:(Builtin.unsafeString_ #[177,3] 9 #[.pointer (some ⟨g,0,none⟩),.int .i64 l.length]).run Tryz.prog w.drew=.ok (.string ⟨l.toArray⟩) (w.drew.freeze ⟨g,0,none⟩ l.length):=by
  refine Lib.run_unsafeString_row w.drew 177 3 9 5 (by kernel_rfl) (by kernel_rfl) g cur.size (by have hg':w.drew.heap[g]? = some (.cells cur 5 fz):=hg; simp [World.shape?,hg']) l h0 (by omega) (by unfold maxLen at hcm; omega) ?_
  intro j x hx
  have hj:j<l.length:=(List.getElem?_eq_some_iff.1 hx).1
  have hg':w.drew.heap[g]? = some (.cells cur 5 fz):=hg
  rw [Addr.add_lit]
  simp only [World.cell?,hg',Nat.zero_add]
  have:(cur.toList.take l.length)[j]? = some (.int .u8 x.toNat):=by rw [htake]; simp [Lib.byteCells,hx]
  rw [List.getElem?_take,if_pos hj] at this
  simpa using this
 have mx:Tryz.prog.follows .mixedOrders=true:=mixed
 go_enter Tryz.func107,Tryz.ntmps107
 go_wp2
 go_region_o
 all_goals (go_wp2; go_ret; exact ⟨rfl,rfl⟩)
set_option maxHeartbeats 2000000 in
theorem bstr_nil (w:World) (b:Nat) (p:Value) (hbk:w.heap[b]? = some (.cells #[p,.slice none 0 0] 149 (0,0))) :
  Calls Tryz.prog 107 #[.pointer (some ⟨b,0,none⟩)] w fun e w'=>e=.returned (.string ⟨#[]⟩)∧w'=w.drew:=by
 have hUS:=fun (W:World) (q:Option Addr)=>Lib.run_unsafeString_none (P:=Tryz.prog) W 177 3 9 q
 have c1:w.drew.cell? ⟨b,1,none⟩=some (.slice none 0 0):=by
  have:w.drew.heap[b]? = some (.cells #[p,.slice none 0 0] 149 (0,0)):=hbk
  rw [Lib.cell_of_heap this]; rfl
 have hSD:(Builtin.unsafeSliceData_ #[41] 177 #[.slice none 0 0]).run Tryz.prog w.drew=.ok (.pointer none) w.drew:=rfl
 have mx:Tryz.prog.follows .mixedOrders=true:=mixed
 go_enter Tryz.func107,Tryz.ntmps107
 go_wp2
 go_region_o
 all_goals (go_wp2; go_ret; exact ⟨rfl,rfl⟩)
set_option maxHeartbeats 2000000 in
theorem bstr_room (w:World) (b g cap:Nat) (p:Value) (hc:cap≠0) (hbk:w.heap[b]? = some (.cells #[p,.slice (some ⟨g,0,none⟩) 0 cap] 149 (0,0))) :
  Calls Tryz.prog 107 #[.pointer (some ⟨b,0,none⟩)] w fun e w'=>e=.returned (.string ⟨#[]⟩)∧w'=w.drew:=by
 have hUS:=fun (W:World) (q:Option Addr)=>Lib.run_unsafeString_none (P:=Tryz.prog) W 177 3 9 q
 have c1:w.drew.cell? ⟨b,1,none⟩=some (.slice (some ⟨g,0,none⟩) 0 cap):=by
  have:w.drew.heap[b]? = some (.cells #[p,.slice (some ⟨g,0,none⟩) 0 cap] 149 (0,0)):=hbk
  rw [Lib.cell_of_heap this]; rfl
 have hSD:(Builtin.unsafeSliceData_ #[41] 177 #[.slice (some ⟨g,0,none⟩) 0 cap]).run Tryz.prog w.drew=.ok (.pointer (some ⟨g,0,none⟩)) w.drew:=Lib.run_unsafeSliceData_row _ _ _ _ _ _ hc
 have mx:Tryz.prog.follows .mixedOrders=true:=mixed
 go_enter Tryz.func107,Tryz.ntmps107
 go_wp2
 go_region_o
 all_goals (go_wp2; go_ret; exact ⟨rfl,rfl⟩)
theorem Sat.world {C:Ctx} {ρ:Env} {S:AS} {a:Act} {w w':World} (h:Sat C ρ S a w) (hw:Fr (fun _=>False) w w'):Sat C ρ S a w' :=
 h.step (G:=fun _=>False) none ⟨.one .und,[]⟩ undef (Env.le_refl ρ) h.one (fun _ _=>rfl) hw (fun _ hg=>hg.elim) (fun hne=>absurd rfl hne) (fun d hd=>by cases hd) (fun _ _ _ _ _ _ _ _ hg=>hg)
  (fun _ _ hl=>by cases hl) (fun _ _ _ _ _ _ hl=>by cases hl)
set_option maxHeartbeats 2000000 in
theorem bstr_full (w:World) (b g:Nat) (p:Value) (cur:Array Value) (fz:Nat×Nat) (hbk:w.heap[b]? = some (.cells #[p,.slice (some ⟨g,0,none⟩) 0 0] 149 (0,0))) (hg:w.heap[g]? = some (.cells cur 5 fz)) :
  Calls Tryz.prog 107 #[.pointer (some ⟨b,0,none⟩)] w fun e w'=>e=.returned (.string ⟨#[]⟩)∧Fr (fun _=>False) w w':=by
 have hUS:=fun (W:World) (q:Option Addr)=>Lib.run_unsafeString_none (P:=Tryz.prog) W 177 3 9 q
 have hlt:b<w.heap.size:=(Array.getElem?_eq_some_iff.1 hbk).1
 have c1:w.drew.cell? ⟨b,1,none⟩=some (.slice (some ⟨g,0,none⟩) 0 0):=by
  have:w.drew.heap[b]? = some (.cells #[p,.slice (some ⟨g,0,none⟩) 0 0] 149 (0,0)):=hbk
  rw [Lib.cell_of_heap this]; rfl
 have hSD:(Builtin.unsafeSliceData_ #[41] 177 #[.slice (some ⟨g,0,none⟩) 0 0]).run Tryz.prog w.drew=.ok (.pointer (some ⟨w.drew.heap.size,0,none⟩)) (w.drew.alloc (.view ⟨g,0,none⟩ 5)) :=
  Lib.run_unsafeSliceData_zero w.drew _ _ 5 (by kernel_rfl) ⟨g,0,none⟩ 0 (5,cur.size) (by have hg':w.drew.heap[g]? = some (.cells cur 5 fz):=hg; simp [World.shape?,hg'])
 have c2:(w.drew.alloc (.view ⟨g,0,none⟩ 5)).cell? ⟨b,1,none⟩=some (.slice (some ⟨g,0,none⟩) 0 0):=by
  have:(w.drew.alloc (.view ⟨g,0,none⟩ 5)).heap[b]? = _:=(Lib.alloc_old w.drew _ b hlt).trans hbk
  rw [Lib.cell_of_heap this]; rfl
 have c3:(w.alloc (.view ⟨g,0,none⟩ 5)).drew.cell? ⟨b,1,none⟩=some (.slice (some ⟨g,0,none⟩) 0 0):=c2
 have c0:w.cell? ⟨b,1,none⟩=some (.slice (some ⟨g,0,none⟩) 0 0):=c1
 have mx:Tryz.prog.follows .mixedOrders=true:=mixed
 go_enter Tryz.func107,Tryz.ntmps107
 go_wp2
 go_region_o
 all_goals (go_wp2; go_ret; exact ⟨rfl,(Fr.refl _ w).drew.trans (Fr.alloc w.drew _ _)⟩)
def Bytes (l:List Int):Prop:=∀ n∈l,0≤n∧n<256
def u8s (l:List Int):List UInt8:=l.map fun n=>UInt8.ofNat n.toNat
theorem u8s_cells {l:List Int} (h:Bytes l):Lib.byteCells (u8s l)=l.map (Value.int .u8):=by
 unfold Lib.byteCells u8s
 rw [List.map_map]
 refine List.map_congr_left fun n hn=>?_
 have:=h n hn
 simp only [Function.comp_apply]
 rw [ofNat_toNat this.1 this.2]
theorem ints_flat (k:IntKind) (l:List Int):Ls.flat (.ints k l)=l.map (Value.int k):=by
 unfold Ls.flat
 simp only [Ls.rows]
 induction l with
 | nil=>rfl
 | cons n l ih=>simp only [List.map_cons,List.flatten_cons,ih]; rfl
def sp_bstr:ASpec:=⟨fun
 | [.one (.ptr 0 0)],[(0,some (.cells 149 [.mp 0 b,.slc 1])),(1,some (.row 5 (.ints .u8 l)))]=>some ([Bytes l],.one (.str (u8s l)),[(0,some (.cells 149 [.mp 0 b,.slc 1])),(1,some (.row 5 (.ints .u8 l)))])
 | _,_=>none⟩
theorem ok_bstr:FnA 107 sp_bstr:=by
 refine ⟨body_of Tryz.f107 (by kernel_rfl) (by kernel_rfl) (by kernel_rfl),?_⟩
 intro args mem ps r post hs hp C ρ w vs hP hw hg hgf hms hdom hargs
 unfold sp_bstr at hs
 simp only at hs
 split at hs
 ·rename_i bb l
  cases hs
  have hp:Bytes l:=hp
  obtain ⟨u0,e0,b,vs0,q1,q2,q3,q4⟩:=hms.mem 0 _ rfl
  obtain ⟨v1,e1,hown,q5⟩:=hms.mem 1 _ rfl
  have hap:=hms.apart 0 1 _ _ u0 v1 (by decide) rfl rfl rfl e0 e1
  have hv:vs=[.pointer (some ⟨b,0,none⟩)]:=by
   cases hargs with
   | cons h1 h2 =>
    cases h2
    simp only [denV,den,denPtr,e0,Option.bind_some,q1,Option.map_some,Option.some.injEq] at h1
    rw [h1]
  subst hv
  obtain ⟨p,us,h1,h2,rfl⟩:=denL_cons_some.1 q2
  obtain ⟨x,us',h3,h4,rfl⟩:=denL_cons_some.1 h2
  cases h4
  have h3:ρ 1=some x:=h3
  rw [e1] at h3; cases h3
  have hsat:=sat_of_ms hms hw 16
  have done:∀ (w':World),Fr (fun _=>False) w w'→MS C ρ [(0,some (.cells 149 [.mp 0 bb,.slc 1])),(1,some (.row 5 (.ints .u8 l)))] w':=fun w' hw' =>
   ms_of_sat (hsat.world hw') fun k b hk=>by unfold AS.blk; rw [hk]; rfl
  have hdom2:DomLt ρ 32:=hdom.mono (by decide)
  have zero:∀ (w':World),l=[]→Fr (fun _=>False) w w'→∃ v ρ',Ending.returned (.string ⟨#[]⟩)=.returned v∧Fr C.F w w'∧MS C ρ' [(0,some (.cells 149 [.mp 0 bb,.slc 1])),(1,some (.row 5 (.ints .u8 l)))] w'∧DomLt ρ' 32∧denV ρ' (.one (.str (u8s l)))=some v:=by
   rintro w' rfl hw'
   exact ⟨_,ρ,rfl,hw'.mono fun _ _ h=>h.elim,done w' hw',hdom2,rfl⟩
  rcases hown.2 with ⟨rfl,hz⟩ | ⟨g,cap,cur,fz,rfl,hbg,hg',hfz,hnc,hcm,hcs,htake⟩
  ·have hl:l=[]:=List.eq_nil_of_length_eq_zero hz
   refine (bstr_nil w b p q3).mono ?_
   rintro e w' ⟨rfl,rfl⟩
   exact zero _ hl (Fr.refl _ w).drew
  ·by_cases hl:l=[]
   ·have hll:Ls.len (.ints .u8 l)=0:=by rw [hl]; rfl
    rw [hll] at q3
    by_cases hc:cap=0
    ·subst hc
     refine (bstr_full w b g p cur fz q3 hg').mono ?_
     rintro e w' ⟨rfl,hw'⟩
     exact zero _ hl hw'
    ·refine (bstr_room w b g cap p hc q3).mono ?_
     rintro e w' ⟨rfl,rfl⟩
     exact zero _ hl (Fr.refl _ w).drew
   ·have hlen:(u8s l).length=l.length:=by simp [u8s]
    have hne:u8s l≠[]:=by intro h0; rw [h0] at hlen; exact hl (List.eq_nil_of_length_eq_zero hlen.symm)
    have hlb:l.length≤cap:=hnc
    have hfz:fz.2≤l.length:=by have h7:=hfz; rw [show (Ls.ints .u8 l).len*(Ls.ints .u8 l).sz=l.length from Nat.mul_one _] at h7; exact h7
    have hlz:Ls.sz (.ints .u8 l)=1:=rfl
    have hcs1:cur.size=cap:=by rw [hcs,hlz,Nat.mul_one]
    have htk:cur.toList.take l.length=(Ls.ints .u8 l).flat:=by
     have h5:(Ls.ints .u8 l).len*(Ls.ints .u8 l).sz=l.length:=by rw [hlz,Nat.mul_one]; rfl
     rw [← htake,h5]
    refine (bstr_row w b g cap p cur fz (u8s l) hne (by rw [hlen]; exact q3) hg' (by rw [hlen]; exact hlb) hcm hcs1 (by
     rw [hlen,u8s_cells hp,← ints_flat]; exact htk)).mono ?_
    rintro e w' ⟨rfl,rfl⟩
    have hglt:g<w.heap.size:=(Array.getElem?_eq_some_iff.1 hg').1
    have hfr:Fr (fun i=>i=g) w (w.drew.freeze ⟨g,0,none⟩ (u8s l).length):=by
     unfold World.freeze
     split
     ·exact (Fr.refl _ w).drew
     ·refine ⟨rfl,rfl,rfl,by show w.heap.size≤(Array.modify _ _ _).size; rw [Array.size_modify]; exact Nat.le_refl _,fun i _ hi=>?_⟩
      simp only [Array.getElem?_modify]
      rw [if_neg (fun h=>hi h.symm)]
      rfl
    have hown2:C.own g:=q5 g rfl
    refine ⟨_,ρ,rfl,hfr.mono ?_,?_,hdom2,rfl⟩
    ·intro i hi hig
     subst hig
     rcases hown2 with h6 | h6
     ·rw [hw] at h6; omega
     ·exact h6
    ·have hrow:SBok C.bare ρ (w.drew.freeze ⟨g,0,none⟩ (u8s l).length) (.slice (some ⟨g,0,none⟩) (Ls.len (.ints .u8 l)) cap) (.row 5 (.ints .u8 l)):=by
      refine ⟨⟨hown.1,?_⟩,q5⟩
      have hn0:(u8s l).length≠0:=by simpa using hne
      unfold World.freeze
      rw [if_neg hn0]
      have hgd:w.drew.heap[g]? = some (.cells cur 5 fz):=hg'
      obtain ⟨lo,hi⟩:=fz
      refine .inr ⟨g,_,cur,(if lo==hi then (0,0+(u8s l).length) else (min lo 0,max hi (0+(u8s l).length))),rfl,hbg,?_,?_,hnc,hcm,hcs,htake⟩
      ·simp [Array.getElem?_modify,hgd]
      ·rw [show (Ls.ints .u8 l).len*(Ls.ints .u8 l).sz=l.length from Nat.mul_one _]
       simp only at hfz
       split<;>simp<;>omega
     have hst:=hsat.step (ρ':=ρ) (w':=w.drew.freeze ⟨g,0,none⟩ (u8s l).length) (G:=fun i=>i=g) none ⟨.one .und,[(1,some (.row 5 (.ints .u8 l)))]⟩ undef (Env.le_refl ρ) hsat.one (fun _ _=>rfl) hfr
      (fun i hi=>by rw [hi]; exact hown2) (fun hne=>absurd rfl hne) (fun d hd=>by cases hd)
      (by
       intro k x u h6 h7 h8 i h9 h10
       have hk1:k≠1:=by rintro rfl; cases h6
       by_cases hk0:k=0
       ·subst hk0
        cases h7
        rw [e0] at h8; cases h8
        subst h10
        exact hap i h9 rfl
       ·exfalso
        rw [AS.blk,look_cons,if_neg (fun h=>hk0 h.symm),look_cons,if_neg (fun h=>hk1 h.symm)] at h7
        cases h7)
      (by
       intro k x h6
       by_cases hk1:k=1
       ·subst hk1; cases h6
        exact ⟨_,e1,hrow⟩
       ·rw [look_cons,if_neg (fun h=>hk1 h.symm)] at h6
        cases h6)
      (by
       intro k x u k' x' u' h6 h7 hkk h8 h9 hm
       have hk1:k=1:=by
        by_cases hk1:k=1
        ·exact hk1
        ·rw [look_cons,if_neg (fun h=>hk1 h.symm)] at h6
         cases h6
       subst hk1
       cases h6
       rw [e1] at h7; cases h7
       rcases h8 with h8 | ⟨_,h8⟩
       ·exfalso
        rw [look_cons,if_neg (fun h=>hkk h.symm)] at h8
        cases h8
       ·by_cases hk0:k'=0
        ·subst hk0
         cases h8
         rw [e0] at h9; cases h9
         exact hap.symm
        ·exfalso
         rw [AS.blk,look_cons,if_neg (fun h=>hk0 h.symm),look_cons,if_neg (fun h=>hkk h.symm)] at h8
         cases h8)
     refine ms_of_sat hst fun k x hk=>?_
     show (look k ((1,some (.row 5 (.ints .u8 l))) :: [(0,some (.cells 149 [.mp 0 bb,.slc 1])),(1,some (.row 5 (.ints .u8 l)))])).join=some x
     by_cases hk1:1=k
     ·subst hk1
      cases hk
      rfl
     ·rw [look_cons,if_neg hk1,hk]; rfl
 ·cases hs
end Go.Proofs.YtglfkihckkjniaaGreatDoor.Vx
namespace Go.Proofs.YtglfkihckkjniaaGreatDoor.Vx
open Go Go.RowKit
def scanStep:List Int→Int→Int→List Int×Int×Int×List Iv
 | [],a,o=>([],a,o,[])
 | r :: l,a,o =>
  if r=39 then
   match l with
   | x :: m=>if x=39 then (m,a+1+1,o,[.quoted 39 a]) else if o<0 then (l,a+1,a,[]) else (l,a+1,-1,[])
   | []=>if o<0 then (l,a+1,a,[]) else (l,a+1,-1,[])
  else if o<0 then (l,a+(enc r).length,o,[.plain r a]) else (l,a+(enc r).length,o,[.quoted r a])
def Upto {α:Type} (l:List α):Type:={i:Nat // i≤l.length}
def bys (l:List Int):List Int:=l.flatMap Lib.encodeRuneZ
def sp_utext:FSpec:=⟨[.one (.rd (.ints .i32 []))],fun | [.one (.rd (.ints .i32 l))]=>some ([Scalars l,l.length≤1000000000],.tup [(false,[.str (encs l)]),(false,[.bool true])]) | _=>none⟩
theorem vc_utext (l:List Int):vcP [(102,sp_uscalar)] [(104,sp_writeRune),(107,sp_bstr)] misc Tryz.f111 (.loop 3 (Upto l) (fun i=>⟨[(4,.one (.ptr 17 0)),(7,.one (.slc 0)),(8,.one (.int .i64 l.length)),(9,.one (.int .i64 i.1))],[(0,some (.read (.ints .i32 l))),(17,some (.cells 149 [.mp 17 (decide (0<i.1)),.slc 18])),(18,some (.row 5 (.ints .u8 (bys (l.take i.1)))))],19⟩) (fun i=>l.length-i.1) (fun _=>.nil) .nil) [.one (.rd (.ints .i32 l))] (.tup [(false,[.str (encs l)]),(false,[.bool true])])=(letI v0:=(↑(List.length l):Int); ((∃ (x:Upto l),v0=v0∧(0:Int)=(↑(Subtype.val x):Int)∧l=l∧false=decide ((0:Nat)<Subtype.val x)∧[]=bys (List.take (Subtype.val x) l))∧∀ (x:Upto l),(letI v1:=(↑(Subtype.val x):Int); letI v2:=(List.take (Subtype.val x) l); letI v3:=(List.getD l (Int.toNat v1) (0:Int)); br (decide (v1<v0)) (((0:Int)≤v1∧v1<v0)∧Int.toNat v1<List.length l∧br (!scalar v3) (([]:List UInt8)=encs l∧false=true) (scalar v3=true∧List.length (bys v2)≤(1000000000000:Nat)∧inR IntKind.i64 (v1+(1:Int))∧∃ (x':Upto l),(v0=v0∧v1+(1:Int)=(↑(Subtype.val x'):Int)∧l=l∧true=decide ((0:Nat)<Subtype.val x')∧bys v2++Lib.encodeRuneZ v3=bys (List.take (Subtype.val x') l))∧List.length l-Subtype.val x'<List.length l-Subtype.val x)) ((∀ (n:Int),n∈bys v2→(0:Int)≤n∧n<(256:Int))∧u8s (bys v2)=encs l∧true=true)))):=by kernel_rfl
set_option maxHeartbeats 4000000 in
theorem of_utext (h:∀ (l:List Int),(Scalars l)→(l.length≤1000000000)→vcP [(102,sp_uscalar)] [(104,sp_writeRune),(107,sp_bstr)] misc Tryz.f111 (.loop 3 (Upto l) (fun i=>⟨[(4,.one (.ptr 17 0)),(7,.one (.slc 0)),(8,.one (.int .i64 l.length)),(9,.one (.int .i64 i.1))],[(0,some (.read (.ints .i32 l))),(17,some (.cells 149 [.mp 17 (decide (0<i.1)),.slc 18])),(18,some (.row 5 (.ints .u8 (bys (l.take i.1)))))],19⟩) (fun i=>l.length-i.1) (fun _=>.nil) .nil) [.one (.rd (.ints .i32 l))] (.tup [(false,[.str (encs l)]),(false,[.bool true])])):FnP 111 sp_utext:=by
 refine fnP_ok (cs:=[(102,sp_uscalar)]) (cas:=[(104,sp_writeRune),(107,sp_bstr)]) (ms:=misc) (.cons ok_uscalar .nil) (.cons ok_writeRune (.cons ok_bstr .nil)) misc_ok 111 Tryz.f111 (by kernel_rfl) (by kernel_rfl) (by kernel_rfl) (fun | [.one (.rd (.ints .i32 l))]=>.loop 3 (Upto l) (fun i=>⟨[(4,.one (.ptr 17 0)),(7,.one (.slc 0)),(8,.one (.int .i64 l.length)),(9,.one (.int .i64 i.1))],[(0,some (.read (.ints .i32 l))),(17,some (.cells 149 [.mp 17 (decide (0<i.1)),.slc 18])),(18,some (.row 5 (.ints .u8 (bys (l.take i.1)))))],19⟩) (fun i=>l.length-i.1) (fun _=>.nil) .nil | _=>.nil) ?_
 intro pvs p r hs hp
 unfold sp_utext at hs
 simp only at hs
 split at hs
 ·rename_i l
  cases hs
  refine h l ?_ ?_
  ·exact hp.1
  ·exact hp.2
 ·cases hs
theorem take_next {α:Type} (l:List α) (d:α) {i:Nat} (h:i<l.length):l.take (i+1)=l.take i++[l.getD i d]:=by
 rw [List.take_add_one,List.getElem?_eq_getElem h,List.getD_eq_getElem?_getD,List.getElem?_eq_getElem h]
 rfl
theorem getD_mem' {α:Type} {l:List α} {d:α} {i:Nat} (h:i<l.length):l.getD i d∈l:=by
 rw [List.getD_eq_getElem?_getD,List.getElem?_eq_getElem h]
 exact List.getElem_mem h
theorem bys_append (l m:List Int):bys (l++m)=bys l++bys m:=by simp [bys]
theorem bys_one (r:Int):bys [r]=Lib.encodeRuneZ r:=by simp [bys]
theorem bys_bytes (l:List Int):Bytes (bys l):=by
 intro n hn
 obtain ⟨r,_,h⟩:=List.mem_flatMap.1 hn
 exact Lib.encodeRuneZ_byte r n h
theorem u8s_bys (l:List Int):u8s (bys l)=encs l:=by
 unfold u8s bys encs
 rw [List.map_flatMap]
 rfl
theorem bys_len (l:List Int):(bys l).length≤4*l.length:=by
 have h:=(encs_len l).2
 rw [← u8s_bys] at h
 simpa [u8s] using h
theorem ok_utext:FnP 111 sp_utext:=of_utext (by
 intro l hl hn
 rw [vc_utext]
 refine ⟨⟨⟨0,Nat.zero_le _⟩,rfl,rfl,rfl,rfl,rfl⟩,fun i=>br_of (fun h=>?_) fun h=>?_⟩
 ·have h:i.1<l.length:=by simpa using h
  have hs:scalar (l.getD i.1 0)=true:=hl _ (getD_mem' h)
  have:=bys_len (l.take i.1)
  have h2:(l.take i.1).length≤l.length:=by simp; omega
  rw [Int.toNat_natCast]
  refine ⟨⟨by omega,by omega⟩,h,br_of (fun h1=>?_) fun h1=>⟨hs,by omega,by simp only [inR]; omega,⟨i.1+1,by omega⟩,⟨rfl,rfl,rfl,by simp,?_⟩,by show l.length-(i.1+1)<l.length-i.1; omega⟩⟩
  ·rw [hs] at h1; cases h1
  ·show _=bys (l.take (i.1+1))
   rw [take_next l 0 h,bys_append,bys_one]
 ·have h:¬ i.1<l.length:=by simpa using h
  rw [List.take_of_length_le (by omega)]
  exact ⟨bys_bytes l,u8s_bys l,rfl⟩)
def sp_tsize:FSpec:=⟨[],fun | [.one (.int .i32 r)]=>some ([scalar r=true],.one (.int .i64 (enc r).length)) | _=>none⟩
theorem vc_tsize (r:Int):vcP [(111,sp_utext)] [] misc Tryz.f83 (.nil) [.one (.int .i32 r)] (.one (.int .i64 (enc r).length))=(((∀ (r_1:Int),r_1∈[]++[r]→scalar r_1=true)∧List.length ([]++[r])≤(1000000000:Nat)∧(↑(List.length (encs ([]++[r]))):Int)=(↑(List.length (enc r)):Int))):=by kernel_rfl
set_option maxHeartbeats 4000000 in
theorem of_tsize (h:∀ (r:Int),(scalar r=true)→vcP [(111,sp_utext)] [] misc Tryz.f83 (.nil) [.one (.int .i32 r)] (.one (.int .i64 (enc r).length))):FnP 83 sp_tsize:=by
 refine fnP_ok (cs:=[(111,sp_utext)]) (cas:=[]) (ms:=misc) (.cons ok_utext .nil) .nil misc_ok 83 Tryz.f83 (by kernel_rfl) (by kernel_rfl) (by kernel_rfl) (fun _=>.nil) ?_
 intro pvs p r hs hp
 unfold sp_tsize at hs
 simp only at hs
 split at hs
 ·rename_i r
  cases hs
  refine h r ?_
  ·exact hp
 ·cases hs
theorem encs_one (r:Int):encs [r]=enc r:=by simp [encs]
theorem ok_tsize:FnP 83 sp_tsize:=of_tsize (by
 intro r hr
 rw [vc_tsize]
 refine ⟨fun x hx=>?_,by simp,by rw [List.nil_append,encs_one]⟩
 rw [List.nil_append,List.mem_singleton] at hx
 rw [hx]; exact hr)
def sp_snext:ASpec:=⟨fun | [.one (.ptr 0 0)],[(0,some (.cells 101 [.slc 1,.int .i64 at_,.int .i64 op,.slc 2])),(1,some (.read (.ints .i32 l))),(2,some (.row 103 (.ivs ps)))]=>some ([Scalars l,l≠[],0≤at_∧at_+4*l.length≤4000000000,ps.length≤1000000000],.tup [],(let x:=scanStep l at_ op; [(0,some (.cells 101 [.slc 16,.int .i64 x.2.1,.int .i64 x.2.2.1,.slc 17])),(16,some (.read (.ints .i32 x.1))),(17,some (.row 103 (.ivs (ps++x.2.2.2))))])) | _,_=>none⟩
theorem vc_snext (l:List Int) (at_ op:Int) (ps:List Iv):vcA [(83,sp_tsize)] [] misc Tryz.f58 (.turns 14 3 (fun _=>.nil) .nil) [.one (.ptr 0 0)] [(0,some (.cells 101 [.slc 1,.int .i64 at_,.int .i64 op,.slc 2])),(1,some (.read (.ints .i32 l))),(2,some (.row 103 (.ivs ps)))] (.tup []) (let x:=scanStep l at_ op; [(0,some (.cells 101 [.slc 16,.int .i64 x.2.1,.int .i64 x.2.2.1,.slc 17])),(16,some (.read (.ints .i32 x.1))),(17,some (.row 103 (.ivs (ps++x.2.2.2))))])=(letI v0:=(br (List.getD l (Int.toNat (0:Int)) (0:Int)==(39:Int)) (scalar (List.getD l (Int.toNat (0:Int)) (0:Int))=true∧inR IntKind.i64 (at_+(↑(List.length (enc (List.getD l (Int.toNat (0:Int)) (0:Int)))):Int))∧inR IntKind.i64 ((0:Int)+(1:Int))∧((0:Int)≤(1:Int)∧(1:Int)≤(↑(List.length l):Int))∧at_+(↑(List.length (enc (List.getD l (Int.toNat (0:Int)) (0:Int)))):Int)=(scanStep l at_ op).2.1∧(-1:Int)=(scanStep l at_ op).2.2.1∧List.drop (Int.toNat (1:Int)) (List.take (List.length l) l)=(scanStep l at_ op).1∧ps=ps++(scanStep l at_ op).2.2.2) (br (decide (op<(0:Int))) ((List.length ps+(1:Nat))*(16:Nat)≤(140737488355328:Nat)∧scalar (List.getD l (Int.toNat (0:Int)) (0:Int))=true∧inR IntKind.i64 (at_+(↑(List.length (enc (List.getD l (Int.toNat (0:Int)) (0:Int)))):Int))∧inR IntKind.i64 ((0:Int)+(1:Int))∧((0:Int)≤(1:Int)∧(1:Int)≤(↑(List.length l):Int))∧at_+(↑(List.length (enc (List.getD l (Int.toNat (0:Int)) (0:Int)))):Int)=(scanStep l at_ op).2.1∧op=(scanStep l at_ op).2.2.1∧List.drop (Int.toNat (1:Int)) (List.take (List.length l) l)=(scanStep l at_ op).1∧ps++[Iv.plain (List.getD l (Int.toNat (0:Int)) (0:Int)) at_]=ps++(scanStep l at_ op).2.2.2) ((List.length ps+(1:Nat))*(16:Nat)≤(140737488355328:Nat)∧scalar (List.getD l (Int.toNat (0:Int)) (0:Int))=true∧inR IntKind.i64 (at_+(↑(List.length (enc (List.getD l (Int.toNat (0:Int)) (0:Int)))):Int))∧inR IntKind.i64 ((0:Int)+(1:Int))∧((0:Int)≤(1:Int)∧(1:Int)≤(↑(List.length l):Int))∧at_+(↑(List.length (enc (List.getD l (Int.toNat (0:Int)) (0:Int)))):Int)=(scanStep l at_ op).2.1∧op=(scanStep l at_ op).2.2.1∧List.drop (Int.toNat (1:Int)) (List.take (List.length l) l)=(scanStep l at_ op).1∧ps++[Iv.quoted (List.getD l (Int.toNat (0:Int)) (0:Int)) at_]=ps++(scanStep l at_ op).2.2.2))); letI v1:=(br (List.getD l (Int.toNat (0:Int)) (0:Int)==(39:Int)) (br (decide (op<(0:Int))) (scalar (List.getD l (Int.toNat (0:Int)) (0:Int))=true∧inR IntKind.i64 (at_+(↑(List.length (enc (List.getD l (Int.toNat (0:Int)) (0:Int)))):Int))∧inR IntKind.i64 ((0:Int)+(1:Int))∧((0:Int)≤(1:Int)∧(1:Int)≤(↑(List.length l):Int))∧at_+(↑(List.length (enc (List.getD l (Int.toNat (0:Int)) (0:Int)))):Int)=(scanStep l at_ op).2.1∧at_=(scanStep l at_ op).2.2.1∧List.drop (Int.toNat (1:Int)) (List.take (List.length l) l)=(scanStep l at_ op).1∧ps=ps++(scanStep l at_ op).2.2.2) v0) v0); letI v2:=(↑(List.length (enc (List.getD l (Int.toNat (0:Int)) (0:Int)))):Int); (((0:Int)≤(0:Int)∧(0:Int)<(↑(List.length l):Int))∧Int.toNat (0:Int)<List.length l∧br (List.getD l (Int.toNat (0:Int)) (0:Int)==(39:Int)) (br (decide ((↑(List.length l):Int)>(1:Int))) (((0:Int)≤(1:Int)∧(1:Int)<(↑(List.length l):Int))∧Int.toNat (1:Int)<List.length l∧br (List.getD l (Int.toNat (1:Int)) (0:Int)==(39:Int)) ((List.length ps+(1:Nat))*(16:Nat)≤(140737488355328:Nat)∧scalar (List.getD l (Int.toNat (0:Int)) (0:Int))=true∧inR IntKind.i64 (at_+v2)∧inR IntKind.i64 ((0:Int)+(1:Int))∧scalar (List.getD l (Int.toNat (0:Int)) (0:Int))=true∧inR IntKind.i64 (at_+v2+v2)∧inR IntKind.i64 ((0:Int)+(1:Int)+(1:Int))∧((0:Int)≤(2:Int)∧(2:Int)≤(↑(List.length l):Int))∧at_+v2+v2=(scanStep l at_ op).2.1∧op=(scanStep l at_ op).2.2.1∧List.drop (Int.toNat (2:Int)) (List.take (List.length l) l)=(scanStep l at_ op).1∧ps++[Iv.quoted (39:Int) at_]=ps++(scanStep l at_ op).2.2.2) v1) v1) v1)):=by kernel_rfl
set_option maxHeartbeats 4000000 in
theorem of_snext (h:∀ (l:List Int) (at_ op:Int) (ps:List Iv),(Scalars l)→(l≠[])→(0≤at_∧at_+4*l.length≤4000000000)→(ps.length≤1000000000)→vcA [(83,sp_tsize)] [] misc Tryz.f58 (.turns 14 3 (fun _=>.nil) .nil) [.one (.ptr 0 0)] [(0,some (.cells 101 [.slc 1,.int .i64 at_,.int .i64 op,.slc 2])),(1,some (.read (.ints .i32 l))),(2,some (.row 103 (.ivs ps)))] (.tup []) (let x:=scanStep l at_ op; [(0,some (.cells 101 [.slc 16,.int .i64 x.2.1,.int .i64 x.2.2.1,.slc 17])),(16,some (.read (.ints .i32 x.1))),(17,some (.row 103 (.ivs (ps++x.2.2.2))))])):FnA 58 sp_snext:=by
 refine fnA_ok (cs:=[(83,sp_tsize)]) (cas:=[]) (ms:=misc) (.cons ok_tsize .nil) .nil misc_ok 58 Tryz.f58 (by kernel_rfl) (by kernel_rfl) (by kernel_rfl) (fun | [.one (.ptr 0 0)],[(0,some (.cells 101 [.slc 1,.int .i64 at_,.int .i64 op,.slc 2])),(1,some (.read (.ints .i32 l))),(2,some (.row 103 (.ivs ps)))]=>.turns 14 3 (fun _=>.nil) .nil | _,_=>.nil) ?_
 intro args mem p r post hs hp
 unfold sp_snext at hs
 simp only at hs
 split at hs
 ·rename_i at_ op l ps
  cases hs
  refine h l at_ op ps ?_ ?_ ?_ ?_
  ·exact hp.1
  ·exact hp.2.1
  ·exact hp.2.2.1
  ·exact hp.2.2.2
 ·cases hs
theorem enc39:(enc 39).length=1:=by decide
set_option maxHeartbeats 2000000 in
theorem ok_snext:FnA 58 sp_snext:=of_snext (by
 intro l at_ op ps hl hne hat hps
 rw [vc_snext]
 obtain ⟨r,m,rfl⟩:=List.exists_cons_of_ne_nil hne
 have hr:scalar r=true:=hl r (by simp)
 have he:=enc_len r
 have hlen:(r :: m).length=m.length+1:=rfl
 have g0:(r :: m).getD (Int.toNat 0) 0=r:=rfl
 have t0:Int.toNat 0=0:=rfl
 have t1:Int.toNat 1=1:=rfl
 have t2:Int.toNat 2=2:=rfl
 rw [g0]
 have e8:=enc39
 have take_all:(r :: m).take (r :: m).length=r :: m:=List.take_length
 refine ⟨⟨by omega,by omega⟩,by rw [t0]; omega,?_⟩
 by_cases h39:r=39
 ·subst h39
  have e1:((39:Int)==39)=true:=rfl
  cases m with
  | nil =>
   have e2:decide (((([39]:List Int).length:Nat):Int)>1)=false:=by decide
   by_cases ho:op<0
   ·simp only [e1,e2,br,decide_eq_true ho,take_all]
    refine ⟨hr,by simp only [inR]; omega,by simp only [inR]; omega,⟨by omega,by simp⟩,?_,?_,?_,?_⟩<;>simp [scanStep,ho,e8,t1]
   ·simp only [e1,e2,br,decide_eq_false ho,take_all]
    refine ⟨hr,by simp only [inR]; omega,by simp only [inR]; omega,⟨by omega,by simp⟩,?_,?_,?_,?_⟩<;>simp [scanStep,ho,e8,t1]
  | cons x m =>
   have e2:decide ((((39 :: x :: m:List Int).length:Nat):Int)>1)=true:=by simp; omega
   have e3:(39 :: x :: m:List Int).getD (Int.toNat 1) 0=x:=rfl
   by_cases hx:x=39
   ·subst hx
    simp only [e1,e2,e3,br,take_all]
    refine ⟨⟨by omega,by simp; omega⟩,by simp [t1],by omega,hr,by simp only [inR]; omega,by simp only [inR]; omega,hr,by simp only [inR]; omega,by simp only [inR]; omega,⟨by omega,by simp; omega⟩,?_,?_,?_,?_⟩<;>simp [scanStep,e8,t2]
   ·have e4:(x==39)=false:=by simpa using hx
    by_cases ho:op<0
    ·simp only [e1,e2,e3,e4,br,decide_eq_true ho,take_all]
     refine ⟨⟨by omega,by simp; omega⟩,by simp [t1],hr,by simp only [inR]; omega,by simp only [inR]; omega,⟨by omega,by simp; omega⟩,?_,?_,?_,?_⟩<;>simp [scanStep,ho,e8,t1,hx]
    ·simp only [e1,e2,e3,e4,br,decide_eq_false ho,take_all]
     refine ⟨⟨by omega,by simp; omega⟩,by simp [t1],hr,by simp only [inR]; omega,by simp only [inR]; omega,⟨by omega,by simp; omega⟩,?_,?_,?_,?_⟩<;>simp [scanStep,ho,e8,t1,hx]
 ·have e1:(r==39)=false:=by simpa using h39
  by_cases ho:op<0
  ·simp only [e1,br,decide_eq_true ho,take_all]
   refine ⟨by omega,hr,by simp only [inR]; omega,by simp only [inR]; omega,⟨by omega,by simp; omega⟩,?_,?_,?_,?_⟩<;>simp [scanStep,ho,h39,t1]
  ·simp only [e1,br,decide_eq_false ho,take_all]
   refine ⟨by omega,hr,by simp only [inR]; omega,by simp only [inR]; omega,⟨by omega,by simp; omega⟩,?_,?_,?_,?_⟩<;>simp [scanStep,ho,h39,t1])
def Iv.tok:Iv→Tok
 | .single r q p=>⟨r,q,p⟩
 | .padding r p=>⟨r,false,p⟩
 | .plain r p=>⟨r,false,p⟩
 | .quoted r p=>⟨r,true,p⟩
def sp_tokenP:FSpec:=⟨[],fun | [.one (.iv (.plain r p))]=>some ([],.agg [.int .i32 r,.bool false,.int .i64 p]) | _=>none⟩
theorem vc_tokenP (r p:Int):vcP [] [] misc Tryz.f59 (.nil) [.one (.iv (.plain r p))] (.agg [.int .i32 r,.bool false,.int .i64 p])=((Iv.isT (Iv.plain r p)=true∧Iv.lR (Iv.plain r p)=r∧false=false∧Iv.at_ (Iv.plain r p)=p)):=by kernel_rfl
set_option maxHeartbeats 4000000 in
theorem of_tokenP (h:∀ (r p:Int),vcP [] [] misc Tryz.f59 (.nil) [.one (.iv (.plain r p))] (.agg [.int .i32 r,.bool false,.int .i64 p])):FnP 59 sp_tokenP:=by
 refine fnP_ok (cs:=[]) (cas:=[]) (ms:=misc) .nil .nil misc_ok 59 Tryz.f59 (by kernel_rfl) (by kernel_rfl) (by kernel_rfl) (fun _=>.nil) ?_
 intro pvs p r hs hp
 unfold sp_tokenP at hs
 simp only at hs
 split at hs
 ·rename_i r p
  cases hs
  refine h r p
 ·cases hs
def sp_tokenQ:FSpec:=⟨[],fun | [.one (.iv (.quoted r p))]=>some ([],.agg [.int .i32 r,.bool true,.int .i64 p]) | _=>none⟩
theorem vc_tokenQ (r p:Int):vcP [] [] misc Tryz.f59 (.nil) [.one (.iv (.quoted r p))] (.agg [.int .i32 r,.bool true,.int .i64 p])=((Iv.isT (Iv.quoted r p)=true∧Iv.qR (Iv.quoted r p)=r∧true=true∧Iv.at_ (Iv.quoted r p)=p)):=by kernel_rfl
set_option maxHeartbeats 4000000 in
theorem of_tokenQ (h:∀ (r p:Int),vcP [] [] misc Tryz.f59 (.nil) [.one (.iv (.quoted r p))] (.agg [.int .i32 r,.bool true,.int .i64 p])):FnP 59 sp_tokenQ:=by
 refine fnP_ok (cs:=[]) (cas:=[]) (ms:=misc) .nil .nil misc_ok 59 Tryz.f59 (by kernel_rfl) (by kernel_rfl) (by kernel_rfl) (fun _=>.nil) ?_
 intro pvs p r hs hp
 unfold sp_tokenQ at hs
 simp only at hs
 split at hs
 ·rename_i r p
  cases hs
  refine h r p
 ·cases hs
def sp_token:FSpec:=⟨[],fun | [.one (.iv y)]=>some ([y.isT=true],.agg [.int .i32 y.tok.r,.bool y.tok.q,.int .i64 y.tok.p]) | _=>none⟩
theorem ok_tokenP:FnP 59 sp_tokenP:=of_tokenP (by intro r p; rw [vc_tokenP]; exact ⟨rfl,rfl,rfl,rfl⟩)
theorem ok_tokenQ:FnP 59 sp_tokenQ:=of_tokenQ (by intro r p; rw [vc_tokenQ]; exact ⟨rfl,rfl,rfl,rfl⟩)
theorem ok_token:FnP 59 sp_token:=by
 refine ⟨ok_tokenP.body,?_⟩
 intro pvs p r hs hp
 unfold sp_token at hs
 simp only at hs
 split at hs
 ·rename_i y
  cases hs
  cases y with
  | plain r p=>exact ok_tokenP.calls _ [] _ rfl trivial
  | quoted r p=>exact ok_tokenQ.calls _ [] _ rfl trivial
  | single r q p=>exact absurd hp Bool.false_ne_true
  | padding r p=>exact absurd hp Bool.false_ne_true
 ·cases hs
def scanN:Nat→List Int→Int→Int→Int×List Iv
 | 0,_,_,o=>(o,[])
 | _+1,[],_,o=>(o,[])
 | n+1,r :: m,a,o =>
  let x:=scanStep (r :: m) a o
  let y:=scanN n x.1 x.2.1 x.2.2.1
  (y.1,x.2.2.2++y.2)
def scanF (s:List UInt8):Int×List Iv:=scanN (decomp s).1.length (decomp s).1 0 (-1)
def scanT (s:List UInt8):List Tok×Int×Int :=
 if 0≤badAt s then ([],2,badAt s)
 else if 0≤(scanF s).1 then ([],3,(scanF s).1)
 else if 400<(scanF s).2.length then ([],8,0)
 else ((scanF s).2.map Iv.tok,0,0)
structure SS (l:List Int) (F:Int×List Iv) where
 n:Nat
 rest:List Int
 at_:Int
 op:Int
 ps:List Iv
 sc:Scalars rest
 fuel:rest.length≤n
 at0:0≤at_
 big:at_+4*rest.length≤4*l.length
 few:ps.length+rest.length≤l.length
 isT:∀ y∈ps,Iv.isT y=true
 fin1:(scanN n rest at_ op).1=F.1
 fin2:ps++(scanN n rest at_ op).2=F.2
def sp_tscan:FSpec:=⟨[],fun | [.one (.str s)]=>some ([s.length≤1000000],.tup [(false,[.rd (.toks (scanT s).1)]),(true,[.int .i64 (scanT s).2.1,.int .i64 (scanT s).2.2])]) | _=>none⟩
theorem vc_tscan (s:List UInt8):vcP [(56,sp_bad),(57,sp_urunes),(59,sp_token)] [(58,sp_snext)] misc Tryz.f30 (.loop 6 (SS (decomp s).1 (scanF s)) (fun x=>⟨[(3,.one (.ptr 16 0)),(7,.one (.ptr 17 0))],[(16,some (.cells 28 [.int .i64 0,.int .i64 0])),(17,some (.cells 101 [.slc 18,.int .i64 x.at_,.int .i64 x.op,.slc 19])),(18,some (.read (.ints .i32 x.rest))),(19,some (.row 103 (.ivs x.ps)))],20⟩) (fun x=>x.rest.length) (fun _=>.nil) (.loop 14 (Upto (scanF s).2) (fun i=>⟨[(3,.one (.ptr 16 0)),(8,.one (.slc 20)),(47,.one (.slc 19)),(48,.one (.int .i64 (scanF s).2.length)),(49,.one (.int .i64 i.1))],[(16,some (.cells 28 [.int .i64 0,.int .i64 0])),(19,some (.row 103 (.ivs (scanF s).2))),(20,some (.row 71 (.toks (((scanF s).2.take i.1).map Iv.tok))))],21⟩) (fun i=>(scanF s).2.length-i.1) (fun _=>.nil) .nil)) [.one (.str s)] (.tup [(false,[.rd (.toks (scanT s).1)]),(true,[.int .i64 (scanT s).2.1,.int .i64 (scanT s).2.2])])=(letI v0:=(↑(List.length (scanF s).2):Int); (List.length s≤(1000000000:Nat)∧br (decide (badAt s≥(0:Int))) ([]=(scanT s).1∧(2:Int)=(scanT s).2.1∧badAt s=(scanT s).2.2) (List.length s≤(1000000000:Nat)∧(∃ (x:SS (Prod.fst (decomp s)) (scanF s)),(0:Int)=(0:Int)∧(0:Int)=(0:Int)∧(0:Int)=SS.at_ x∧(-1:Int)=SS.op x∧(if badAt s<(0:Int) then (decomp s).1 else [])=SS.rest x∧SS.ps x=[])∧∀ (x:SS (Prod.fst (decomp s)) (scanF s)),br (decide ((↑(List.length (SS.rest x)):Int)>(0:Int))) ((∀ (r:Int),r∈SS.rest x→scalar r=true)∧SS.rest x≠[]∧((0:Int)≤SS.at_ x∧SS.at_ x+(4:Int)*(↑(List.length (SS.rest x)):Int)≤(4000000000:Int))∧List.length (SS.ps x)≤(1000000000:Nat)∧∃ (x':SS (Prod.fst (decomp s)) (scanF s)),(letI v1:=(scanStep (SS.rest x) (SS.at_ x) (SS.op x)); ((0:Int)=(0:Int)∧(0:Int)=(0:Int)∧v1.2.1=SS.at_ x'∧v1.2.2.1=SS.op x'∧v1.1=SS.rest x'∧SS.ps x++v1.2.2.2=SS.ps x')∧List.length (SS.rest x')<List.length (SS.rest x))) (br (decide (SS.op x≥(0:Int))) ([]=(scanT s).1∧(3:Int)=(scanT s).2.1∧SS.op x=(scanT s).2.2) (br (decide ((↑(List.length (SS.ps x)):Int)>(400:Int))) ([]=(scanT s).1∧(8:Int)=(scanT s).2.1∧(0:Int)=(scanT s).2.2) ((0:Int)=(0:Int)∧((0:Int)≤(↑(List.length (SS.ps x)):Int)∧(↑(List.length (SS.ps x)):Int)≤(140737488355327:Int)∧(16:Nat)*Int.toNat (↑(List.length (SS.ps x)):Int)≤(281474976710656:Nat))∧(∃ (x_1:Upto (Prod.snd (scanF s))),(↑(List.length (SS.ps x)):Int)=v0∧(0:Int)=(↑(Subtype.val x_1):Int)∧(0:Int)=(0:Int)∧(0:Int)=(0:Int)∧SS.ps x=(scanF s).2∧[]=List.map Iv.tok (List.take (Subtype.val x_1) (scanF s).2))∧∀ (x:Upto (Prod.snd (scanF s))),(letI v2:=(List.getD (scanF s).2 (Int.toNat (↑(Subtype.val x):Int)) default); letI v3:=(↑(Subtype.val x):Int); letI v4:=(List.take (Subtype.val x) (scanF s).2); br (decide (v3<v0)) (((0:Int)≤v3∧v3<v0)∧Int.toNat v3<List.length (scanF s).2∧Iv.isT v2=true∧(List.length (List.map Iv.tok v4)+(1:Nat))*(16:Nat)≤(140737488355328:Nat)∧inR IntKind.i64 (v3+(1:Int))∧∃ (x':Upto (Prod.snd (scanF s))),(v0=v0∧v3+(1:Int)=(↑(Subtype.val x'):Int)∧(0:Int)=(0:Int)∧(0:Int)=(0:Int)∧(scanF s).2=(scanF s).2∧List.map Iv.tok v4++[{ r:=Tok.r (Iv.tok v2),q:=Tok.q (Iv.tok v2),p:=Tok.p (Iv.tok v2) }]=List.map Iv.tok (List.take (Subtype.val x') (scanF s).2))∧List.length (scanF s).2-Subtype.val x'<List.length (scanF s).2-Subtype.val x) (List.map Iv.tok v4=(scanT s).1∧(0:Int)=(scanT s).2.1∧(0:Int)=(scanT s).2.2)))))))):=by kernel_rfl
set_option maxHeartbeats 4000000 in
theorem of_tscan (h:∀ (s:List UInt8),(s.length≤1000000)→vcP [(56,sp_bad),(57,sp_urunes),(59,sp_token)] [(58,sp_snext)] misc Tryz.f30 (.loop 6 (SS (decomp s).1 (scanF s)) (fun x=>⟨[(3,.one (.ptr 16 0)),(7,.one (.ptr 17 0))],[(16,some (.cells 28 [.int .i64 0,.int .i64 0])),(17,some (.cells 101 [.slc 18,.int .i64 x.at_,.int .i64 x.op,.slc 19])),(18,some (.read (.ints .i32 x.rest))),(19,some (.row 103 (.ivs x.ps)))],20⟩) (fun x=>x.rest.length) (fun _=>.nil) (.loop 14 (Upto (scanF s).2) (fun i=>⟨[(3,.one (.ptr 16 0)),(8,.one (.slc 20)),(47,.one (.slc 19)),(48,.one (.int .i64 (scanF s).2.length)),(49,.one (.int .i64 i.1))],[(16,some (.cells 28 [.int .i64 0,.int .i64 0])),(19,some (.row 103 (.ivs (scanF s).2))),(20,some (.row 71 (.toks (((scanF s).2.take i.1).map Iv.tok))))],21⟩) (fun i=>(scanF s).2.length-i.1) (fun _=>.nil) .nil)) [.one (.str s)] (.tup [(false,[.rd (.toks (scanT s).1)]),(true,[.int .i64 (scanT s).2.1,.int .i64 (scanT s).2.2])])):FnP 30 sp_tscan:=by
 refine fnP_ok (cs:=[(56,sp_bad),(57,sp_urunes),(59,sp_token)]) (cas:=[(58,sp_snext)]) (ms:=misc) (.cons ok_bad (.cons ok_urunes (.cons ok_token .nil))) (.cons ok_snext .nil) misc_ok 30 Tryz.f30 (by kernel_rfl) (by kernel_rfl) (by kernel_rfl) (fun | [.one (.str s)]=>.loop 6 (SS (decomp s).1 (scanF s)) (fun x=>⟨[(3,.one (.ptr 16 0)),(7,.one (.ptr 17 0))],[(16,some (.cells 28 [.int .i64 0,.int .i64 0])),(17,some (.cells 101 [.slc 18,.int .i64 x.at_,.int .i64 x.op,.slc 19])),(18,some (.read (.ints .i32 x.rest))),(19,some (.row 103 (.ivs x.ps)))],20⟩) (fun x=>x.rest.length) (fun _=>.nil) (.loop 14 (Upto (scanF s).2) (fun i=>⟨[(3,.one (.ptr 16 0)),(8,.one (.slc 20)),(47,.one (.slc 19)),(48,.one (.int .i64 (scanF s).2.length)),(49,.one (.int .i64 i.1))],[(16,some (.cells 28 [.int .i64 0,.int .i64 0])),(19,some (.row 103 (.ivs (scanF s).2))),(20,some (.row 71 (.toks (((scanF s).2.take i.1).map Iv.tok))))],21⟩) (fun i=>(scanF s).2.length-i.1) (fun _=>.nil) .nil) | _=>.nil) ?_
 intro pvs p r hs hp
 unfold sp_tscan at hs
 simp only at hs
 split at hs
 ·rename_i s
  cases hs
  refine h s ?_
  ·exact hp
 ·cases hs
theorem Scalars.tail {r:Int} {l:List Int} (h:Scalars (r :: l)):Scalars l:=fun x hx=>h x (List.mem_cons_of_mem _ hx)
theorem scanStep_facts {l:List Int} (hl:Scalars l) (hne:l≠[]) (a o:Int) :
  Scalars (scanStep l a o).1∧(scanStep l a o).1.length<l.length∧a<(scanStep l a o).2.1∧(scanStep l a o).2.1+4*(scanStep l a o).1.length≤a+4*l.length ∧
  (scanStep l a o).2.2.2.length+(scanStep l a o).1.length≤l.length∧(∀ y∈(scanStep l a o).2.2.2,Iv.isT y=true):=by
 obtain ⟨r,m,rfl⟩:=List.exists_cons_of_ne_nil hne
 have he:=enc_len r
 have hm:=hl.tail
 by_cases h39:r=39
 ·subst h39
  cases m with
  | nil=>by_cases ho:o<0<;>simp [scanStep,ho,hm]<;>omega
  | cons x m =>
   by_cases hx:x=39
   ·subst hx
    simp [scanStep,hm.tail,Iv.isT]; omega
   ·by_cases ho:o<0<;>simp [scanStep,ho,hx,hm]<;>omega
 ·by_cases ho:o<0<;>simp [scanStep,ho,h39,hm,Iv.isT]<;>omega
theorem scanN_isT:∀ (n:Nat) (l:List Int) (a o:Int),Scalars l→(∀ y∈(scanN n l a o).2,Iv.isT y=true)∧(scanN n l a o).2.length≤l.length:=by
 intro n
 induction n with
 | zero=>intro l a o _; exact ⟨fun y hy=>(by cases hy),Nat.zero_le _⟩
 | succ n ih =>
  intro l a o hl
  cases l with
  | nil=>exact ⟨fun y hy=>(by cases hy),Nat.zero_le _⟩
  | cons r m =>
   obtain ⟨h1,h2,h3,h4,h5,h6⟩:=scanStep_facts hl (by simp) a o
   obtain ⟨g1,g2⟩:=ih (scanStep (r :: m) a o).1 (scanStep (r :: m) a o).2.1 (scanStep (r :: m) a o).2.2.1 h1
   refine ⟨fun y hy=>?_,?_⟩
   ·rcases List.mem_append.1 hy with hy | hy
    ·exact h6 y hy
    ·exact g1 y hy
   ·show (_++_:List Iv).length≤_
    rw [List.length_append]; omega
theorem scanF_isT (s:List UInt8):(∀ y∈(scanF s).2,Iv.isT y=true)∧(scanF s).2.length≤(decomp s).1.length:=scanN_isT _ _ _ _ (decomp_ok s).2.1
theorem decomp_len (s:List UInt8):(decomp s).1.length≤s.length:=by
 have h:=congrArg List.length (decomp_ok s).1
 have:=(encs_len (decomp s).1).1
 rw [List.length_append] at h
 omega
theorem SS.unroll {l:List Int} {F:Int×List Iv} (x:SS l F) (h:x.rest≠[]):scanN x.n x.rest x.at_ x.op=((scanN (x.n-1) (scanStep x.rest x.at_ x.op).1 (scanStep x.rest x.at_ x.op).2.1 (scanStep x.rest x.at_ x.op).2.2.1).1,(scanStep x.rest x.at_ x.op).2.2.2++(scanN (x.n-1) (scanStep x.rest x.at_ x.op).1 (scanStep x.rest x.at_ x.op).2.1 (scanStep x.rest x.at_ x.op).2.2.1).2):=by
 have hn:x.n≠0:=by
  intro h0
  have:=x.fuel
  rw [h0] at this
  exact h (List.eq_nil_of_length_eq_zero (by omega))
 obtain ⟨k,hk⟩:=Nat.exists_eq_succ_of_ne_zero hn
 obtain ⟨r,m,hr⟩:=List.exists_cons_of_ne_nil h
 rw [hk,hr]; rfl
def SS.next {l:List Int} {F:Int×List Iv} (x:SS l F) (h:x.rest≠[]):SS l F where
 n:=x.n-1
 rest:=(scanStep x.rest x.at_ x.op).1
 at_:=(scanStep x.rest x.at_ x.op).2.1
 op:=(scanStep x.rest x.at_ x.op).2.2.1
 ps:=x.ps++(scanStep x.rest x.at_ x.op).2.2.2
 sc:=(scanStep_facts x.sc h x.at_ x.op).1
 fuel:=by
  have:=x.fuel
  have:=(scanStep_facts x.sc h x.at_ x.op).2.1
  omega
 at0:=by
  have:=x.at0
  have:=(scanStep_facts x.sc h x.at_ x.op).2.2.1
  omega
 big:=by
  have:=x.big
  have:=(scanStep_facts x.sc h x.at_ x.op).2.2.2.1
  omega
 few:=by
  have:=x.few
  have:=(scanStep_facts x.sc h x.at_ x.op).2.2.2.2.1
  rw [List.length_append]; omega
 isT:=fun y hy=>by
  rcases List.mem_append.1 hy with hy | hy
  ·exact x.isT y hy
  ·exact (scanStep_facts x.sc h x.at_ x.op).2.2.2.2.2 y hy
 fin1:=by
  have h1:=x.fin1
  rw [x.unroll h] at h1; exact h1
 fin2:=by
  have h1:=x.fin2
  rw [x.unroll h] at h1
  rw [List.append_assoc]; exact h1
theorem SS.done {l:List Int} {F:Int×List Iv} (x:SS l F) (h:x.rest=[]):x.op=F.1∧x.ps=F.2:=by
 have h1:=x.fin1
 have h2:=x.fin2
 rw [h] at h1 h2
 cases hn:x.n with
 | zero=>rw [hn] at h1 h2; exact ⟨h1,by rw [← h2]; exact (List.append_nil _).symm⟩
 | succ n=>rw [hn] at h1 h2; exact ⟨h1,by rw [← h2]; exact (List.append_nil _).symm⟩
def SS.zero (s:List UInt8):SS (decomp s).1 (scanF s) where
 n:=(decomp s).1.length
 rest:=(decomp s).1
 at_:=0
 op:=-1
 ps:=[]
 sc:=(decomp_ok s).2.1
 fuel:=Nat.le_refl _
 at0:=Int.le_refl _
 big:=by omega
 few:=by simp
 isT:=fun y hy=>by cases hy
 fin1:=rfl
 fin2:=rfl
theorem ok_tscan:FnP 30 sp_tscan:=of_tscan (by
 intro s hs
 rw [vc_tscan]
 have hdl:=decomp_len s
 refine ⟨by omega,br_of (fun h=>?_) fun h=>⟨by omega,⟨.zero s,rfl,rfl,rfl,rfl,?_,rfl⟩,fun x=>br_of (fun h1=>?_) fun h1=>?_⟩⟩
 ·have h:badAt s≥0:=by simpa using h
  unfold scanT
  rw [if_pos h]; exact ⟨rfl,rfl,rfl⟩
 ·have h:badAt s<0:=by simpa using h
  rw [if_pos h]; rfl
 ·have h1:x.rest.length>0:=by simpa using h1
  have hne:x.rest≠[]:=by intro h0; rw [h0] at h1; exact absurd h1 (by decide)
  have a0:=x.at0
  have a1:=x.big
  have a2:=x.few
  exact ⟨x.sc,hne,⟨a0,by omega⟩,by omega,x.next hne,⟨rfl,rfl,rfl,rfl,rfl,rfl⟩,(scanStep_facts x.sc hne _ _).2.1⟩
 ·have h:¬ 0≤badAt s:=by simpa using h
  have h1:¬ x.rest.length>0:=by simpa using h1
  obtain ⟨e1,e2⟩:=x.done (List.eq_nil_of_length_eq_zero (by omega))
  have hfl:=(scanF_isT s).2
  unfold scanT
  rw [if_neg h,e1,e2]
  refine br_of (fun h2=>?_) fun h2=>br_of (fun h3=>?_) fun h3=>⟨rfl,by omega,⟨⟨0,Nat.zero_le _⟩,rfl,rfl,rfl,rfl,rfl,rfl⟩,fun i=>br_of (fun h4=>?_) fun h4=>?_⟩
  ·have h2:0≤(scanF s).1:=by simpa using h2
   rw [if_pos h2]; exact ⟨rfl,rfl,rfl⟩
  ·have h2:¬ 0≤(scanF s).1:=by simpa using h2
   have h3:400<(scanF s).2.length:=by have:=of_decide_eq_true h3; omega
   rw [if_neg h2,if_pos h3]; exact ⟨rfl,rfl,rfl⟩
  ·have h4:i.1<(scanF s).2.length:=by simpa using h4
   rw [Int.toNat_natCast]
   refine ⟨⟨by omega,by omega⟩,h4,(scanF_isT s).1 _ (getD_mem' h4),?_,by simp only [inR]; omega,⟨i.1+1,h4⟩,⟨rfl,rfl,rfl,rfl,rfl,?_⟩,?_⟩
   ·rw [List.length_map,List.length_take]; omega
   ·show _=List.map Iv.tok ((scanF s).2.take (i.1+1))
    rw [take_next _ default h4,List.map_append]; rfl
   ·show (scanF s).2.length-(i.1+1)<_; omega
  ·have h2:¬ 0≤(scanF s).1:=by simpa using h2
   have h3:¬ 400<(scanF s).2.length:=by have:=of_decide_eq_false h3; omega
   have h4:¬ i.1<(scanF s).2.length:=by simpa using h4
   rw [if_neg h2,if_neg h3,List.take_of_length_le (by omega)]
   exact ⟨rfl,rfl,rfl⟩)
def SR (s:List UInt8):Type:={x:SS (decomp s).1 (scanF s) // badAt s<0→s.drop x.at_.toNat=encs x.rest∧x.at_.toNat≤s.length}
def sp_rscan:FSpec:=⟨[],fun | [.one (.str s)]=>some ([s.length≤1000000],.tup [(false,[.rd (.toks (scanT s).1)]),(true,[.int .i64 (scanT s).2.1,.int .i64 (scanT s).2.2])]) | _=>none⟩
theorem vc_rscan (s:List UInt8):vcP [(54,sp_rrunes),(55,sp_first)] [] misc Tryz.f28 (.loop 7 (SR s) (fun x=>⟨[(0,.one (.str s)),(3,.one (.ptr 16 0)),(6,.one (.slc 17)),(7,.one (.int .i64 x.1.op)),(8,.one (.int .i64 x.1.at_))],[(16,some (.cells 28 [.int .i64 0,.int .i64 0])),(17,some (.row 71 (.toks (x.1.ps.map Iv.tok))))],18⟩) (fun x=>x.1.rest.length) (fun _=>.nil) .nil) [.one (.str s)] (.tup [(false,[.rd (.toks (scanT s).1)]),(true,[.int .i64 (scanT s).2.1,.int .i64 (scanT s).2.2])])=(letI v0:=(↑(List.length s):Int); (List.length s≤(1000000000:Nat)∧br (decide (badAt s≥(0:Int))) ([]=(scanT s).1∧(2:Int)=(scanT s).2.1∧badAt s=(scanT s).2.2) ((∃ (x:SR s),s=s∧(-1:Int)=SS.op (Subtype.val x)∧(0:Int)=SS.at_ (Subtype.val x)∧(0:Int)=(0:Int)∧(0:Int)=(0:Int)∧List.map Iv.tok (SS.ps (Subtype.val x))=[])∧∀ (x:SR s),(letI v1:=(List.drop (Int.toNat (SS.at_ (Subtype.val x))) s); letI v2:=(SS.ps (Subtype.val x)); letI v3:=(SS.at_ (Subtype.val x)+firstN v1); letI v4:=(SS.rest (Subtype.val x)); letI v5:=(SS.op (Subtype.val x)≥(0:Int)); letI v6:=(List.length (List.map Iv.tok v2)+(1:Nat)); letI v7:=(firstR v1==(39:Int)); letI v8:=(SS.at_ (Subtype.val x)+(1:Int)); br (decide (SS.at_ (Subtype.val x)<v0)) (((0:Int)≤SS.at_ (Subtype.val x)∧SS.at_ (Subtype.val x)≤v0)∧br v7 (inR IntKind.i64 v8∧br (decide (SS.at_ (Subtype.val x)+(1:Int)<v0)) (inR IntKind.i64 v8∧((0:Int)≤SS.at_ (Subtype.val x)+(1:Int)∧SS.at_ (Subtype.val x)+(1:Int)<v0)∧br (bAt s v8==(39:Int)) (v6*(16:Nat)≤(140737488355328:Nat)∧inR IntKind.i64 (SS.at_ (Subtype.val x)+(2:Int))∧∃ (x':SR s),(s=s∧SS.op (Subtype.val x)=SS.op (Subtype.val x')∧SS.at_ (Subtype.val x)+(2:Int)=SS.at_ (Subtype.val x')∧(0:Int)=(0:Int)∧(0:Int)=(0:Int)∧List.map Iv.tok v2++[{ r:=firstR v1,q:=true,p:=SS.at_ (Subtype.val x) }]=List.map Iv.tok (SS.ps (Subtype.val x')))∧List.length (SS.rest (Subtype.val x'))<List.length v4) (br v7 (br (decide v5) (inR IntKind.i64 v3∧∃ (x':SR s),(s=s∧(-1:Int)=SS.op (Subtype.val x')∧SS.at_ (Subtype.val x)+firstN v1=SS.at_ (Subtype.val x')∧(0:Int)=(0:Int)∧(0:Int)=(0:Int)∧List.map Iv.tok v2=List.map Iv.tok (SS.ps (Subtype.val x')))∧List.length (SS.rest (Subtype.val x'))<List.length v4) (inR IntKind.i64 v3∧∃ (x':SR s),(s=s∧SS.at_ (Subtype.val x)=SS.op (Subtype.val x')∧SS.at_ (Subtype.val x)+firstN v1=SS.at_ (Subtype.val x')∧(0:Int)=(0:Int)∧(0:Int)=(0:Int)∧List.map Iv.tok v2=List.map Iv.tok (SS.ps (Subtype.val x')))∧List.length (SS.rest (Subtype.val x'))<List.length v4)) (v6*(16:Nat)≤(140737488355328:Nat)∧inR IntKind.i64 v3∧∃ (x':SR s),(s=s∧SS.op (Subtype.val x)=SS.op (Subtype.val x')∧SS.at_ (Subtype.val x)+firstN v1=SS.at_ (Subtype.val x')∧(0:Int)=(0:Int)∧(0:Int)=(0:Int)∧List.map Iv.tok v2++[{ r:=firstR v1,q:=decide v5,p:=SS.at_ (Subtype.val x) }]=List.map Iv.tok (SS.ps (Subtype.val x')))∧List.length (SS.rest (Subtype.val x'))<List.length v4))) (br v7 (br (decide v5) (inR IntKind.i64 v3∧∃ (x':SR s),(s=s∧(-1:Int)=SS.op (Subtype.val x')∧SS.at_ (Subtype.val x)+firstN v1=SS.at_ (Subtype.val x')∧(0:Int)=(0:Int)∧(0:Int)=(0:Int)∧List.map Iv.tok v2=List.map Iv.tok (SS.ps (Subtype.val x')))∧List.length (SS.rest (Subtype.val x'))<List.length v4) (inR IntKind.i64 v3∧∃ (x':SR s),(s=s∧SS.at_ (Subtype.val x)=SS.op (Subtype.val x')∧SS.at_ (Subtype.val x)+firstN v1=SS.at_ (Subtype.val x')∧(0:Int)=(0:Int)∧(0:Int)=(0:Int)∧List.map Iv.tok v2=List.map Iv.tok (SS.ps (Subtype.val x')))∧List.length (SS.rest (Subtype.val x'))<List.length v4)) (v6*(16:Nat)≤(140737488355328:Nat)∧inR IntKind.i64 v3∧∃ (x':SR s),(s=s∧SS.op (Subtype.val x)=SS.op (Subtype.val x')∧SS.at_ (Subtype.val x)+firstN v1=SS.at_ (Subtype.val x')∧(0:Int)=(0:Int)∧(0:Int)=(0:Int)∧List.map Iv.tok v2++[{ r:=firstR v1,q:=decide v5,p:=SS.at_ (Subtype.val x) }]=List.map Iv.tok (SS.ps (Subtype.val x')))∧List.length (SS.rest (Subtype.val x'))<List.length v4))) (br v7 (br (decide v5) (inR IntKind.i64 v3∧∃ (x':SR s),(s=s∧(-1:Int)=SS.op (Subtype.val x')∧SS.at_ (Subtype.val x)+firstN v1=SS.at_ (Subtype.val x')∧(0:Int)=(0:Int)∧(0:Int)=(0:Int)∧List.map Iv.tok v2=List.map Iv.tok (SS.ps (Subtype.val x')))∧List.length (SS.rest (Subtype.val x'))<List.length v4) (inR IntKind.i64 v3∧∃ (x':SR s),(s=s∧SS.at_ (Subtype.val x)=SS.op (Subtype.val x')∧SS.at_ (Subtype.val x)+firstN v1=SS.at_ (Subtype.val x')∧(0:Int)=(0:Int)∧(0:Int)=(0:Int)∧List.map Iv.tok v2=List.map Iv.tok (SS.ps (Subtype.val x')))∧List.length (SS.rest (Subtype.val x'))<List.length v4)) (v6*(16:Nat)≤(140737488355328:Nat)∧inR IntKind.i64 v3∧∃ (x':SR s),(s=s∧SS.op (Subtype.val x)=SS.op (Subtype.val x')∧SS.at_ (Subtype.val x)+firstN v1=SS.at_ (Subtype.val x')∧(0:Int)=(0:Int)∧(0:Int)=(0:Int)∧List.map Iv.tok v2++[{ r:=firstR v1,q:=decide v5,p:=SS.at_ (Subtype.val x) }]=List.map Iv.tok (SS.ps (Subtype.val x')))∧List.length (SS.rest (Subtype.val x'))<List.length v4))) (br (decide v5) ([]=(scanT s).1∧(3:Int)=(scanT s).2.1∧SS.op (Subtype.val x)=(scanT s).2.2) (br (decide ((↑(List.length (List.map Iv.tok v2)):Int)>(400:Int))) ([]=(scanT s).1∧(8:Int)=(scanT s).2.1∧(0:Int)=(scanT s).2.2) (List.map Iv.tok v2=(scanT s).1∧(0:Int)=(scanT s).2.1∧(0:Int)=(scanT s).2.2))))))):=by kernel_rfl
set_option maxHeartbeats 4000000 in
theorem of_rscan (h:∀ (s:List UInt8),(s.length≤1000000)→vcP [(54,sp_rrunes),(55,sp_first)] [] misc Tryz.f28 (.loop 7 (SR s) (fun x=>⟨[(0,.one (.str s)),(3,.one (.ptr 16 0)),(6,.one (.slc 17)),(7,.one (.int .i64 x.1.op)),(8,.one (.int .i64 x.1.at_))],[(16,some (.cells 28 [.int .i64 0,.int .i64 0])),(17,some (.row 71 (.toks (x.1.ps.map Iv.tok))))],18⟩) (fun x=>x.1.rest.length) (fun _=>.nil) .nil) [.one (.str s)] (.tup [(false,[.rd (.toks (scanT s).1)]),(true,[.int .i64 (scanT s).2.1,.int .i64 (scanT s).2.2])])):FnP 28 sp_rscan:=by
 refine fnP_ok (cs:=[(54,sp_rrunes),(55,sp_first)]) (cas:=[]) (ms:=misc) (.cons ok_rrunes (.cons ok_first .nil)) .nil misc_ok 28 Tryz.f28 (by kernel_rfl) (by kernel_rfl) (by kernel_rfl) (fun | [.one (.str s)]=>.loop 7 (SR s) (fun x=>⟨[(0,.one (.str s)),(3,.one (.ptr 16 0)),(6,.one (.slc 17)),(7,.one (.int .i64 x.1.op)),(8,.one (.int .i64 x.1.at_))],[(16,some (.cells 28 [.int .i64 0,.int .i64 0])),(17,some (.row 71 (.toks (x.1.ps.map Iv.tok))))],18⟩) (fun x=>x.1.rest.length) (fun _=>.nil) .nil | _=>.nil) ?_
 intro pvs p r hs hp
 unfold sp_rscan at hs
 simp only at hs
 split at hs
 ·rename_i s
  cases hs
  refine h s ?_
  ·exact hp
 ·cases hs
theorem enc39':enc 39=[39]:=by decide
theorem scanStep_drop {l:List Int} (hne:l≠[]) (a o:Int):∃ k:Nat,(scanStep l a o).2.1=a+k∧(encs l).drop k=encs (scanStep l a o).1∧k≤(encs l).length:=by
 obtain ⟨r,m,rfl⟩:=List.exists_cons_of_ne_nil hne
 have hd:(encs (r :: m)).drop (enc r).length=encs m:=by rw [encs_cons,List.drop_left]
 have hle:(enc r).length≤(encs (r :: m)).length:=by rw [encs_cons,List.length_append]; omega
 by_cases h39:r=39
 ·subst h39
  have h1:=enc39
  cases m with
  | nil=>by_cases ho:o<0<;>exact ⟨1,by simp [scanStep,ho],by rw [enc39] at hd; simpa [scanStep,ho] using hd,by rw [← h1]; exact hle⟩
  | cons x m =>
   by_cases hx:x=39
   ·subst hx
    refine ⟨2,by simp [scanStep]; omega,?_,?_⟩
    ·rw [encs_cons,encs_cons,enc39']; simp [scanStep]
    ·rw [encs_cons,encs_cons,enc39']; simp
   ·by_cases ho:o<0<;>exact ⟨1,by simp [scanStep,ho,hx],by rw [enc39] at hd; simpa [scanStep,ho,hx] using hd,by rw [← h1]; exact hle⟩
 ·by_cases ho:o<0<;>exact ⟨(enc r).length,by simp [scanStep,ho,h39],by simpa [scanStep,ho,h39] using hd,hle⟩
def SR.next {s:List UInt8} (x:SR s) (h:x.1.rest≠[]):SR s:=⟨x.1.next h,fun hb=>by
 obtain ⟨h1,h2⟩:=x.2 hb
 obtain ⟨k,g1,g2,g3⟩:=scanStep_drop h x.1.at_ x.1.op
 have h0:=x.1.at0
 have e:(x.1.next h).at_.toNat=x.1.at_.toNat+k:=by
  show (scanStep x.1.rest x.1.at_ x.1.op).2.1.toNat=_
  rw [g1]; omega
 refine ⟨?_,?_⟩
 ·rw [e,← List.drop_drop,h1,g2]; rfl
 ·have:=congrArg List.length h1
  rw [List.length_drop] at this
  omega⟩
theorem encs_ne {l:List Int} (h:encs l≠[]):l≠[]:=by rintro rfl; exact h rfl
theorem enc_head {r:Int} (h:scalar r=true):bt (enc r) 0=39↔r=39:=by
 rw [scalar_iff] at h
 by_cases h1:r<128
 ·rw [enc1 h.1 h1]
  show (UInt8.ofNat r.toNat).toNat=39↔_
  have:=ofNat_toNat h.1 (by omega:r<256)
  omega
 ·have hx:bt (enc r) 0=39→False:=by
   intro hb
   by_cases h2:r<2048
   ·rw [enc2 (by omega) h2] at hb
    have:=ofNat_toNat (n:=192+r / 64) (by omega) (by omega)
    have hb:(UInt8.ofNat (192+r / 64).toNat).toNat=39:=hb
    omega
   ·by_cases h3:r≤65535
    ·rw [enc3 (by omega)] at hb
     have:=ofNat_toNat (n:=224+r / 4096) (by omega) (by omega)
     have hb:(UInt8.ofNat (224+r / 4096).toNat).toNat=39:=hb
     omega
    ·rw [enc4 (by omega) (by omega)] at hb
     have:=ofNat_toNat (n:=240+r / 262144) (by omega) (by omega)
     have hb:(UInt8.ofNat (240+r / 262144).toNat).toNat=39:=hb
     omega
  constructor
  ·intro hb; exact (hx hb).elim
  ·intro hr; omega
theorem getD_drop' (s:List UInt8) (p:Nat) {l:List UInt8} (h:s.drop p=l) (i:Nat):s.getD (p+i) 0=l.getD i 0:=by rw [← h,getD_drop]
set_option maxHeartbeats 2000000 in
theorem ok_rscan:FnP 28 sp_rscan:=of_rscan (by
 intro s hs
 rw [vc_rscan]
 refine ⟨by omega,br_of (fun h=>?_) fun h=>?_⟩
 ·have h:badAt s≥0:=by simpa using h
  unfold scanT
  rw [if_pos h]; exact ⟨rfl,rfl,rfl⟩
 have hb:badAt s<0:=by simpa using h
 have hdl:=decomp_len s
 have hz:s=encs (decomp s).1:=by
  have h1:=(decomp_ok s).1
  rw [bad_neg.1 hb,List.append_nil] at h1
  exact h1
 refine ⟨⟨⟨.zero s,fun _=>⟨hz,Nat.zero_le _⟩⟩,rfl,rfl,rfl,rfl,rfl,rfl⟩,fun x=>?_⟩
 obtain ⟨d1,d2⟩:=x.2 hb
 have a0:=x.1.at0
 have a1:=x.1.big
 have a2:=x.1.few
 have hlm:(x.1.ps.map Iv.tok).length=x.1.ps.length:=List.length_map _
 by_cases hlt:x.1.at_<s.length
 ·have hne:x.1.rest≠[]:=by
   refine encs_ne ?_
   intro h0
   have:=congrArg List.length d1
   rw [h0,List.length_drop,List.length_nil] at this
   omega
  have hsc:=x.1.sc
  have hnx:(x.next hne).1.rest=(scanStep x.1.rest x.1.at_ x.1.op).1∧(x.next hne).1.at_=(scanStep x.1.rest x.1.at_ x.1.op).2.1∧(x.next hne).1.op=(scanStep x.1.rest x.1.at_ x.1.op).2.2.1∧(x.next hne).1.ps=x.1.ps++(scanStep x.1.rest x.1.at_ x.1.op).2.2.2:=⟨rfl,rfl,rfl,rfl⟩
  obtain ⟨n1,n2,n3,n4⟩:=hnx
  have n5:(x.next hne).1.rest.length<x.1.rest.length:=by rw [n1]; exact (scanStep_facts hsc hne _ _).2.1
  revert n1 n2 n3 n4 n5
  generalize x.next hne=x'
  obtain ⟨r,m,hr⟩:=List.exists_cons_of_ne_nil hne
  rw [hr] at hsc d1 a1 a2
  rw [hr]
  have hrs:scalar r=true:=hsc r (by simp)
  have he:=enc_len r
  rw [encs_cons] at d1
  have e1:firstR (s.drop x.1.at_.toNat)=r:=by unfold firstR; rw [d1,step_enc hrs]
  have e2:firstN (s.drop x.1.at_.toNat)=(enc r).length:=by unfold firstN; rw [d1,step_enc hrs]
  have dl:=congrArg List.length d1
  rw [List.length_drop,List.length_append] at dl
  rw [e1,e2,decide_eq_true hlt]
  intro n1 n2 n3 n4 n5
  have hll:(r :: m).length=m.length+1:=rfl
  refine ⟨⟨by omega,by omega⟩,?_⟩
  by_cases h39:r=39
  ·subst h39
   have f1:((39:Int)==39)=true:=rfl
   have f2:=enc39
   rw [enc39'] at d1
   have hbb:bAt s (x.1.at_+1)=bt (encs m) 0:=by
    unfold bAt bt
    rw [show (x.1.at_+1).toNat=x.1.at_.toNat+1 by omega,getD_drop' s _ d1]; rfl
   cases m with
   | nil =>
    have g1:decide (x.1.at_+1<s.length)=false:=by
     rw [encs_nil,f2] at dl
     simp at dl ⊢; omega
    by_cases ho:x.1.op<0
    ·have g2:decide (x.1.op≥0)=false:=by simpa using ho
     simp only [f1,f2,g1,g2,br]
     simp [scanStep,ho] at n1 n2 n3 n4
     exact ⟨by simp only [inR]; omega,by simp only [inR]; omega,x',⟨by trivial,n3.symm,n2.symm,by trivial,by trivial,by rw [n4]⟩,n5⟩
    ·have g2:decide (x.1.op≥0)=true:=by simpa using ho
     simp only [f1,f2,g1,g2,br]
     simp [scanStep,ho] at n1 n2 n3 n4
     exact ⟨by simp only [inR]; omega,by simp only [inR]; omega,x',⟨by trivial,n3.symm,n2.symm,by trivial,by trivial,by rw [n4]⟩,n5⟩
   | cons y m =>
    have hys:scalar y=true:=hsc y (by simp)
    have hy1:=enc_len y
    have g1:decide (x.1.at_+1<s.length)=true:=by
     rw [encs_cons,f2,List.length_append] at dl
     simp; omega
    have hb0:bt (encs (y :: m)) 0=bt (enc y) 0:=by
     rw [encs_cons]; unfold bt
     rw [List.getD_eq_getElem?_getD,List.getElem?_append_left (by omega),← List.getD_eq_getElem?_getD]
    rw [hb0] at hbb
    have hin:0≤x.1.at_+1∧x.1.at_+1<s.length:=⟨by omega,of_decide_eq_true g1⟩
    by_cases hy:y=39
    ·subst hy
     have g3:(bAt s (x.1.at_+1)==39)=true:=by rw [hbb]; rfl
     simp only [f1,f2,g1,g3,br]
     simp [scanStep] at n1 n2 n3 n4
     exact ⟨by simp only [inR]; omega,by simp only [inR]; omega,hin,by omega,by simp only [inR]; omega,x',⟨by trivial,n3.symm,by omega,by trivial,by trivial,by rw [n4,List.map_append]; rfl⟩,n5⟩
    ·have g3:(bAt s (x.1.at_+1)==39)=false:=by
      rw [hbb]
      have:=fun h=>hy ((enc_head hys).1 h)
      simpa using fun h=>this (by omega)
     by_cases ho:x.1.op<0
     ·have g2:decide (x.1.op≥0)=false:=by simpa using ho
      simp only [f1,f2,g1,g2,g3,br]
      simp [scanStep,ho,hy] at n1 n2 n3 n4
      exact ⟨by simp only [inR]; omega,by simp only [inR]; omega,hin,by simp only [inR]; omega,x',⟨by trivial,n3.symm,n2.symm,by trivial,by trivial,by rw [n4]⟩,n5⟩
     ·have g2:decide (x.1.op≥0)=true:=by simpa using ho
      simp only [f1,f2,g1,g2,g3,br]
      simp [scanStep,ho,hy] at n1 n2 n3 n4
      exact ⟨by simp only [inR]; omega,by simp only [inR]; omega,hin,by simp only [inR]; omega,x',⟨by trivial,n3.symm,n2.symm,by trivial,by trivial,by rw [n4]⟩,n5⟩
  ·have f1:(r==39)=false:=by simpa using h39
   simp only [f1,br]
   by_cases ho:x.1.op<0
   ·have g2:decide (x.1.op≥0)=false:=by simpa using ho
    simp [scanStep,ho,h39] at n1 n2 n3 n4
    exact ⟨by omega,by simp only [inR]; omega,x',⟨by trivial,n3.symm,n2.symm,by trivial,by trivial,by rw [n4,List.map_append,g2]; rfl⟩,n5⟩
   ·have g2:decide (x.1.op≥0)=true:=by simpa using ho
    simp [scanStep,ho,h39] at n1 n2 n3 n4
    exact ⟨by omega,by simp only [inR]; omega,x',⟨by trivial,n3.symm,n2.symm,by trivial,by trivial,by rw [n4,List.map_append,g2]; rfl⟩,n5⟩
 ·rw [decide_eq_false hlt]
  have hre:x.1.rest=[]:=by
   have:=congrArg List.length d1
   rw [List.length_drop] at this
   have h1:=(encs_len x.1.rest).1
   exact List.eq_nil_of_length_eq_zero (by omega)
  obtain ⟨q1,q2⟩:=x.1.done hre
  rw [hlm,q1,q2]
  have h:¬ 0≤badAt s:=by omega
  unfold scanT
  rw [if_neg h]
  refine br_of (fun h0=>by cases h0) fun _=>br_of (fun h2=>?_) fun h2=>br_of (fun h3=>?_) fun h3=>?_
  ·have h2:0≤(scanF s).1:=by simpa using h2
   rw [if_pos h2]; exact ⟨rfl,rfl,rfl⟩
  ·have h2:¬ 0≤(scanF s).1:=by simpa using h2
   have h3:400<(scanF s).2.length:=by have:=of_decide_eq_true h3; omega
   rw [if_neg h2,if_pos h3]; exact ⟨rfl,rfl,rfl⟩
  ·have h2:¬ 0≤(scanF s).1:=by simpa using h2
   have h3:¬ 400<(scanF s).2.length:=by have:=of_decide_eq_false h3; omega
   rw [if_neg h2,if_neg h3]; exact ⟨rfl,rfl,rfl⟩)
end Go.Proofs.YtglfkihckkjniaaGreatDoor.Vx
