/- Texts of this claim, one behind the other. -/
import Derived.Test.YtaoaemnefghnbaaGreatDoorG1
import Derived.Test.YtaoaemnefghnbaaGreatDoorProg
import Derived.Lib.TrailingZeros
import Derived.Laws.IdiomCopy
import Derived.MapKept
import Derived.Laws.RangeAny
import Derived.Laws.Strings
import Derived.Lib.OthersKept
import Derived.Laws.StructEq
import Derived.Shelf.SlSortCmp.NoneTotal
import Derived.Shelf.Sort.Plain
set_option linter.unusedVariables false
set_option linter.unusedSectionVars false
set_option maxRecDepth 100000
set_option maxHeartbeats 16000000
namespace Go.V
end Go.V
namespace Go.Proofs.YtaoaemnefghnbaaGreatDoor
end Go.Proofs.YtaoaemnefghnbaaGreatDoor
open Go.V Go.Proofs.YtaoaemnefghnbaaGreatDoor
namespace Go.Proofs.YtaoaemnefghnbaaGreatDoor
def tYq0:dp:=⟨.func,1,8,(some .nilFunc),[],[],false⟩
@[simp] def tYq1:dp:=⟨.tuple,1,0,(some (.tuple #[(vS none 0 0),(iI 0)])),[],[(.one .slice),(.one (.int .i64))],false⟩
@[simp] def tYq2:dp:=⟨.tuple,1,0,(some (.tuple #[(vP none),(iI 0)])),[],[(.one .ptr),(.one (.int .i64))],false⟩
@[simp] def tYq3:dp:=⟨.tuple,1,0,(some (.tuple #[(vS none 0 0),(vB false)])),[],[(.one .slice),(.one .bool)],false⟩
@[simp] def tYq4:dp:=⟨.tuple,1,0,(some (.tuple #[(iI 0),(iI 0)])),[],[(.one (.int .i64)),(.one (.int .i64))],false⟩
def V8:List (TypeId×dp):=[
 (0,⟨.tuple,1,0,(some (.tuple #[])),[],[],false⟩),
 (1,tYq0),
 (2,⟨(.int .i64),1,8,(some (iI 0)),[],[],true⟩),
 (3,⟨(.int .i64),1,8,(some (iI 0)),[],[],true⟩),
 (4,⟨.bool,1,1,(some (vB false)),[],[],true⟩),
 (5,⟨(.int .u8),1,1,(some (.int .u8 0)),[],[],true⟩),
 (6,⟨(.int .u8),1,1,(some (.int .u8 0)),[],[],true⟩),
 (7,⟨.struct,4,24,(some (.agg #[(iI 0),(iI 0),(vB false),(.int .u8 0)])),[(0,1,false),(1,1,false),(2,1,false),(3,1,false)],[],true⟩),
 (8,⟨.struct,4,24,(some (.agg #[(iI 0),(iI 0),(vB false),(.int .u8 0)])),[(0,1,false),(1,1,false),(2,1,false),(3,1,false)],[],true⟩),
 (9,⟨.string,1,16,(some (.string ⟨#[]⟩)),[],[],true⟩),
 (10,⟨.string,1,16,(some (.string ⟨#[]⟩)),[],[],true⟩),
 (11,⟨.string,1,16,(some (.string ⟨#[]⟩)),[],[],true⟩),
 (12,⟨(.int .u64),1,8,(some (.int .u64 0)),[],[],true⟩),
 (13,⟨.struct,2,24,(some (.agg #[(.string ⟨#[]⟩),(.int .u64 0)])),[(0,1,false),(1,1,false)],[],true⟩),
 (14,⟨.struct,2,24,(some (.agg #[(.string ⟨#[]⟩),(.int .u64 0)])),[(0,1,false),(1,1,false)],[],true⟩),
 (15,⟨(.ptr 525),1,8,(some (vP none)),[],[],true⟩),
 (16,⟨(.ptr 528),1,8,(some (vP none)),[],[],true⟩),
 (17,⟨(.ptr 535),1,8,(some (vP none)),[],[],true⟩),
 (18,⟨.struct,1,8,(some (.agg #[(vP none)])),[(0,1,false)],[],true⟩),
 (19,⟨.struct,1,8,(some (.agg #[(vP none)])),[(0,1,false)],[],true⟩),
 (20,⟨.iface,1,16,(some .nilIface),[],[],true⟩),
 (21,⟨(.int .i32),1,4,(some (.int .i32 0)),[],[],true⟩),
 (22,⟨(.slice 288),1,24,(some (vS none 0 0)),[],[],false⟩),
 (23,⟨(.slice 9),1,24,(some (vS none 0 0)),[],[],false⟩),
 (24,⟨(.slice 3),1,24,(some (vS none 0 0)),[],[],false⟩),
 (25,⟨(.slice 134),1,24,(some (vS none 0 0)),[],[],false⟩),
 (26,⟨.struct,5,104,(some (.agg #[(vS none 0 0),(vS none 0 0),(vS none 0 0),(iI 0),(vS none 0 0)])),[(0,1,false),(1,1,false),(2,1,false),(3,1,false),(4,1,false)],[],false⟩),
 (27,⟨.struct,5,104,(some (.agg #[(vS none 0 0),(vS none 0 0),(vS none 0 0),(iI 0),(vS none 0 0)])),[(0,1,false),(1,1,false),(2,1,false),(3,1,false),(4,1,false)],[],false⟩),
 (28,⟨(.ptr 110),1,8,(some (vP none)),[],[],true⟩),
 (29,⟨(.int .i64),1,8,(some (iI 0)),[],[],true⟩),
 (30,⟨.struct,3,40,(some (.agg #[(iI 0),(iI 0),(vS none 0 0)])),[(0,1,false),(1,1,false),(2,1,false)],[],false⟩),
 (31,⟨.struct,3,40,(some (.agg #[(iI 0),(iI 0),(vS none 0 0)])),[(0,1,false),(1,1,false),(2,1,false)],[],false⟩),
 (32,⟨.tuple,1,0,(some (.tuple #[(vP none),(.agg #[(iI 0),(iI 0),(vS none 0 0)])])),[],[(.one .ptr),(.agg [(.int .i64),(.int .i64),.slice])],false⟩),
 (33,tYq0),
 (34,tYq0),
 (35,tYq3),
 (36,tYq0),
 (37,tYq0),
 (38,⟨(.slice 138),1,24,(some (vS none 0 0)),[],[],false⟩),
 (39,⟨(.slice 235),1,24,(some (vS none 0 0)),[],[],false⟩),
 (40,⟨.struct,7,120,(some (.agg #[(iI 0),(iI 0),(vS none 0 0),(vS none 0 0),(vS none 0 0),(iI 0),(vS none 0 0)])),[(0,1,false),(1,1,false),(2,1,false),(3,1,false),(4,1,false),(5,1,false),(6,1,false)],[],false⟩),
 (41,⟨.struct,7,120,(some (.agg #[(iI 0),(iI 0),(vS none 0 0),(vS none 0 0),(vS none 0 0),(iI 0),(vS none 0 0)])),[(0,1,false),(1,1,false),(2,1,false),(3,1,false),(4,1,false),(5,1,false),(6,1,false)],[],false⟩),
 (42,⟨.tuple,1,0,(some (.tuple #[(.agg #[(iI 0),(iI 0),(vS none 0 0),(vS none 0 0),(vS none 0 0),(iI 0),(vS none 0 0)]),(iI 0)])),[],[(.agg [(.int .i64),(.int .i64),.slice,.slice,.slice,(.int .i64),.slice]),(.one (.int .i64))],false⟩),
 (43,tYq0),
 (44,tYq0),
 (45,tYq0),
 (46,⟨(.ptr 50),1,8,(some (vP none)),[],[],true⟩),
 (47,⟨(.slice 4),1,24,(some (vS none 0 0)),[],[],false⟩),
 (48,tYq0),
 (49,⟨.struct,8,176,(some (.agg #[(vS none 0 0),(vS none 0 0),(vS none 0 0),(iI 0),(vS none 0 0),(vS none 0 0),(vS none 0 0),(vS none 0 0)])),[(0,5,true),(5,1,false),(6,1,false),(7,1,false)],[],false⟩),
 (50,⟨.struct,8,176,(some (.agg #[(vS none 0 0),(vS none 0 0),(vS none 0 0),(iI 0),(vS none 0 0),(vS none 0 0),(vS none 0 0),(vS none 0 0)])),[(0,5,true),(5,1,false),(6,1,false),(7,1,false)],[],false⟩),
 (51,tYq0),
 (52,⟨(.ptr 144),1,8,(some (vP none)),[],[],true⟩),
 (53,tYq0),
 (54,tYq4),
 (55,tYq0),
 (56,tYq0),
 (57,⟨.tuple,1,0,(some (.tuple #[(vB false),(iI 0)])),[],[(.one .bool),(.one (.int .i64))],false⟩),
 (58,tYq0),
 (59,tYq0),
 (60,tYq0),
 (61,tYq0),
 (62,tYq0),
 (63,tYq0),
 (64,tYq0),
 (65,⟨.tuple,1,0,(some (.tuple #[(.agg #[(vS none 0 0),(vS none 0 0),(vS none 0 0),(iI 0),(vS none 0 0)]),(.agg #[(iI 0),(iI 0),(vS none 0 0)])])),[],[(.agg [.slice,.slice,.slice,(.int .i64),.slice]),(.agg [(.int .i64),(.int .i64),.slice])],false⟩),
 (66,tYq0),
 (67,tYq1),
 (68,tYq0),
 (69,⟨.tuple,1,0,(some (.tuple #[(.agg #[(vS none 0 0),(vS none 0 0),(vS none 0 0),(iI 0),(vS none 0 0)]),(iI 0)])),[],[(.agg [.slice,.slice,.slice,(.int .i64),.slice]),(.one (.int .i64))],false⟩),
 (70,tYq0),
 (71,⟨(.slice 24),1,24,(some (vS none 0 0)),[],[],false⟩),
 (72,tYq0),
 (73,tYq0),
 (74,⟨(.slice 199),1,24,(some (vS none 0 0)),[],[],false⟩),
 (75,⟨.struct,3,40,(some (.agg #[(vS none 0 0),(iI 0),(iI 0)])),[(0,1,false),(1,1,false),(2,1,false)],[],false⟩),
 (76,⟨.struct,3,40,(some (.agg #[(vS none 0 0),(iI 0),(iI 0)])),[(0,1,false),(1,1,false),(2,1,false)],[],false⟩),
 (77,⟨(.slice 297),1,24,(some (vS none 0 0)),[],[],false⟩),
 (78,⟨.struct,10,192,(some (.agg #[(vS none 0 0),(vS none 0 0),(vS none 0 0),(iI 0),(vS none 0 0),(vS none 0 0),(iI 0),(iI 0),(vS none 0 0),(vS none 0 0)])),[(0,5,true),(5,3,true),(8,1,false),(9,1,false)],[],false⟩),
 (79,⟨.struct,10,192,(some (.agg #[(vS none 0 0),(vS none 0 0),(vS none 0 0),(iI 0),(vS none 0 0),(vS none 0 0),(iI 0),(iI 0),(vS none 0 0),(vS none 0 0)])),[(0,5,true),(5,3,true),(8,1,false),(9,1,false)],[],false⟩),
 (80,⟨.tuple,1,0,(some (.tuple #[(.agg #[(vS none 0 0),(vS none 0 0),(vS none 0 0),(iI 0),(vS none 0 0),(vS none 0 0),(iI 0),(iI 0),(vS none 0 0),(vS none 0 0)]),(iI 0)])),[],[(.agg [.slice,.slice,.slice,(.int .i64),.slice,.slice,(.int .i64),(.int .i64),.slice,.slice]),(.one (.int .i64))],false⟩),
 (81,tYq0),
 (82,tYq0),
 (83,⟨(.slice 90),1,24,(some (vS none 0 0)),[],[],false⟩),
 (84,tYq1),
 (85,tYq0),
 (86,⟨(.slice 170),1,24,(some (vS none 0 0)),[],[],false⟩),
 (87,tYq3),
 (88,tYq0),
 (89,⟨.struct,3,40,(some (.agg #[(iI 0),(iI 0),(vS none 0 0)])),[(0,1,false),(1,1,false),(2,1,false)],[],false⟩),
 (90,⟨.struct,3,40,(some (.agg #[(iI 0),(iI 0),(vS none 0 0)])),[(0,1,false),(1,1,false),(2,1,false)],[],false⟩),
 (91,tYq0),
 (92,⟨(.slice 86),1,24,(some (vS none 0 0)),[],[],false⟩),
 (93,⟨.struct,2,48,(some (.agg #[(vS none 0 0),(vS none 0 0)])),[(0,1,false),(1,1,false)],[],false⟩),
 (94,⟨.struct,2,48,(some (.agg #[(vS none 0 0),(vS none 0 0)])),[(0,1,false),(1,1,false)],[],false⟩),
 (95,⟨.struct,3,72,(some (.agg #[(vS none 0 0),(vS none 0 0),(vS none 0 0)])),[(0,2,true),(2,1,false)],[],false⟩),
 (96,⟨.struct,3,72,(some (.agg #[(vS none 0 0),(vS none 0 0),(vS none 0 0)])),[(0,2,true),(2,1,false)],[],false⟩),
 (97,tYq0),
 (98,⟨.struct,5,104,(some (.agg #[(vS none 0 0),(vS none 0 0),(vS none 0 0),(iI 0),(vS none 0 0)])),[(0,5,true)],[],false⟩),
 (99,⟨.struct,5,104,(some (.agg #[(vS none 0 0),(vS none 0 0),(vS none 0 0),(iI 0),(vS none 0 0)])),[(0,5,true)],[],false⟩),
 (100,⟨(.slice 216),1,24,(some (vS none 0 0)),[],[],false⟩),
 (101,⟨.struct,4,64,(some (.agg #[(vS none 0 0),(iI 0),(iI 0),(vS none 0 0)])),[(0,3,true),(3,1,false)],[],false⟩),
 (102,⟨.struct,4,64,(some (.agg #[(vS none 0 0),(iI 0),(iI 0),(vS none 0 0)])),[(0,3,true),(3,1,false)],[],false⟩),
 (103,⟨.struct,3,72,(some (.agg #[(vS none 0 0),(vS none 0 0),(vS none 0 0)])),[(0,1,false),(1,1,false),(2,1,false)],[],false⟩),
 (104,⟨.struct,3,72,(some (.agg #[(vS none 0 0),(vS none 0 0),(vS none 0 0)])),[(0,1,false),(1,1,false),(2,1,false)],[],false⟩),
 (105,⟨.struct,8,192,(some (.agg #[(vS none 0 0),(vS none 0 0),(vS none 0 0),(vS none 0 0),(vS none 0 0),(vS none 0 0),(vS none 0 0),(vS none 0 0)])),[(0,1,false),(1,3,true),(4,1,false),(5,3,true)],[],false⟩),
 (106,⟨.struct,8,192,(some (.agg #[(vS none 0 0),(vS none 0 0),(vS none 0 0),(vS none 0 0),(vS none 0 0),(vS none 0 0),(vS none 0 0),(vS none 0 0)])),[(0,1,false),(1,3,true),(4,1,false),(5,3,true)],[],false⟩),
 (107,⟨.struct,12,272,(some (.agg #[(vS none 0 0),(vS none 0 0),(vS none 0 0),(vS none 0 0),(vS none 0 0),(vS none 0 0),(vS none 0 0),(vS none 0 0),(vS none 0 0),(vS none 0 0),(vS none 0 0),(vB false)])),[(0,3,true),(3,8,true),(11,1,false)],[],false⟩),
 (108,⟨.struct,12,272,(some (.agg #[(vS none 0 0),(vS none 0 0),(vS none 0 0),(vS none 0 0),(vS none 0 0),(vS none 0 0),(vS none 0 0),(vS none 0 0),(vS none 0 0),(vS none 0 0),(vS none 0 0),(vB false)])),[(0,3,true),(3,8,true),(11,1,false)],[],false⟩),
 (109,⟨.struct,21,440,(some (.agg #[(vS none 0 0),(vS none 0 0),(vS none 0 0),(iI 0),(vS none 0 0),(vS none 0 0),(iI 0),(iI 0),(vS none 0 0),(vS none 0 0),(vS none 0 0),(vS none 0 0),(vS none 0 0),(vS none 0 0),(vS none 0 0),(vS none 0 0),(vS none 0 0),(vS none 0 0),(vS none 0 0),(vS none 0 0),(vB false)])),[(0,5,true),(5,4,true),(9,12,true)],[],false⟩),
 (110,⟨.struct,21,440,(some (.agg #[(vS none 0 0),(vS none 0 0),(vS none 0 0),(iI 0),(vS none 0 0),(vS none 0 0),(iI 0),(iI 0),(vS none 0 0),(vS none 0 0),(vS none 0 0),(vS none 0 0),(vS none 0 0),(vS none 0 0),(vS none 0 0),(vS none 0 0),(vS none 0 0),(vS none 0 0),(vS none 0 0),(vS none 0 0),(vB false)])),[(0,5,true),(5,4,true),(9,12,true)],[],false⟩),
 (111,tYq1),
 (112,tYq0),
 (113,⟨.tuple,1,0,(some (.tuple #[(.agg #[(vS none 0 0),(iI 0),(iI 0)]),(iI 0)])),[],[(.agg [.slice,(.int .i64),(.int .i64)]),(.one (.int .i64))],false⟩),
 (114,tYq0),
 (115,tYq1),
 (116,tYq0),
 (117,⟨.tuple,1,0,(some (.tuple #[(.agg #[(vS none 0 0),(vS none 0 0),(vS none 0 0)]),(iI 0)])),[],[(.agg [.slice,.slice,.slice]),(.one (.int .i64))],false⟩),
 (118,tYq0),
 (119,⟨.tuple,1,0,(some (.tuple #[(.agg #[(vS none 0 0),(vS none 0 0),(vS none 0 0),(vS none 0 0),(vS none 0 0),(vS none 0 0),(vS none 0 0),(vS none 0 0)]),(iI 0)])),[],[(.agg [.slice,.slice,.slice,.slice,.slice,.slice,.slice,.slice]),(.one (.int .i64))],false⟩),
 (120,tYq0),
 (121,tYq0),
 (122,tYq0),
 (123,⟨(.ptr 130),1,8,(some (vP none)),[],[],true⟩),
 (124,tYq2),
 (125,tYq0),
 (126,⟨(.slice 132),1,24,(some (vS none 0 0)),[],[],false⟩),
 (127,⟨(.slice 47),1,24,(some (vS none 0 0)),[],[],false⟩),
 (128,⟨(.slice 126),1,24,(some (vS none 0 0)),[],[],false⟩),
 (129,⟨.struct,9,184,(some (.agg #[(vS none 0 0),(vS none 0 0),(vS none 0 0),(iI 0),(vS none 0 0),(vS none 0 0),(vS none 0 0),(vS none 0 0),(iI 0)])),[(0,5,true),(5,1,false),(6,1,false),(7,1,false),(8,1,false)],[],false⟩),
 (130,⟨.struct,9,184,(some (.agg #[(vS none 0 0),(vS none 0 0),(vS none 0 0),(iI 0),(vS none 0 0),(vS none 0 0),(vS none 0 0),(vS none 0 0),(iI 0)])),[(0,5,true),(5,1,false),(6,1,false),(7,1,false),(8,1,false)],[],false⟩),
 (131,⟨.struct,3,24,(some (.agg #[(iI 0),(iI 0),(iI 0)])),[(0,1,false),(1,1,false),(2,1,false)],[],true⟩),
 (132,⟨.struct,3,24,(some (.agg #[(iI 0),(iI 0),(iI 0)])),[(0,1,false),(1,1,false),(2,1,false)],[],true⟩),
 (133,⟨.struct,3,40,(some (.agg #[(iI 0),(vS none 0 0),(iI 0)])),[(0,1,false),(1,1,false),(2,1,false)],[],false⟩),
 (134,⟨.struct,3,40,(some (.agg #[(iI 0),(vS none 0 0),(iI 0)])),[(0,1,false),(1,1,false),(2,1,false)],[],false⟩),
 (135,tYq0),
 (136,tYq0),
 (137,⟨.struct,4,48,(some (.agg #[(iI 0),(iI 0),(iI 0),(vS none 0 0)])),[(0,1,false),(1,1,false),(2,1,false),(3,1,false)],[],false⟩),
 (138,⟨.struct,4,48,(some (.agg #[(iI 0),(iI 0),(iI 0),(vS none 0 0)])),[(0,1,false),(1,1,false),(2,1,false),(3,1,false)],[],false⟩),
 (139,tYq0),
 (140,tYq0),
 (141,⟨(.ptr 149),1,8,(some (vP none)),[],[],true⟩),
 (142,tYq0),
 (143,⟨.struct,1,8,(some (.agg #[(vP none)])),[(0,1,false)],[],true⟩),
 (144,⟨.struct,1,8,(some (.agg #[(vP none)])),[(0,1,false)],[],true⟩),
 (145,⟨(.ptr 253),1,8,(some (vP none)),[],[],true⟩),
 (146,⟨(.ptr 251),1,8,(some (vP none)),[],[],true⟩),
 (147,⟨(.ptr 383),1,8,(some (vP none)),[],[],true⟩),
 (148,⟨.struct,7,72,(some (.agg #[(vP none),(vP none),(vP none),(vB false),(vS none 0 0),(iI 0),(vB false)])),[(0,1,false),(1,1,false),(2,1,false),(3,1,false),(4,1,false),(5,1,false),(6,1,false)],[],false⟩),
 (149,⟨.struct,7,72,(some (.agg #[(vP none),(vP none),(vP none),(vB false),(vS none 0 0),(iI 0),(vB false)])),[(0,1,false),(1,1,false),(2,1,false),(3,1,false),(4,1,false),(5,1,false),(6,1,false)],[],false⟩),
 (150,tYq0),
 (151,tYq0),
 (152,⟨(.ptr 258),1,8,(some (vP none)),[],[],true⟩),
 (153,tYq2),
 (154,tYq0),
 (155,⟨.tuple,1,0,(some (.tuple #[(iI 0),(vB false)])),[],[(.one (.int .i64)),(.one .bool)],false⟩),
 (156,⟨(.ptr 160),1,8,(some (vP none)),[],[],true⟩),
 (157,⟨(.ptr 275),1,8,(some (vP none)),[],[],true⟩),
 (158,tYq0),
 (159,⟨.struct,2,16,(some (.agg #[(vP none),(vP none)])),[(0,1,false),(1,1,false)],[],true⟩),
 (160,⟨.struct,2,16,(some (.agg #[(vP none),(vP none)])),[(0,1,false),(1,1,false)],[],true⟩),
 (161,tYq0),
 (162,tYq0),
 (163,tYq0),
 (164,tYq0),
 (165,tYq0),
 (166,⟨(.ptr 305),1,8,(some (vP none)),[],[],true⟩),
 (167,tYq0),
 (168,tYq0),
 (169,⟨.struct,2,16,(some (.agg #[(iI 0),(iI 0)])),[(0,1,false),(1,1,false)],[],true⟩),
 (170,⟨.struct,2,16,(some (.agg #[(iI 0),(iI 0)])),[(0,1,false),(1,1,false)],[],true⟩),
 (171,tYq0),
 (172,tYq0),
 (173,tYq0),
 (174,⟨(.ptr 181),1,8,(some (vP none)),[],[],true⟩),
 (175,tYq2),
 (176,tYq0),
 (177,tYq0),
 (178,⟨(.ptr 356),1,8,(some (vP none)),[],[],true⟩),
 (179,⟨(.slice 178),1,24,(some (vS none 0 0)),[],[],false⟩),
 (180,⟨.struct,2,32,(some (.agg #[(vS none 0 0),(iI 0)])),[(0,1,false),(1,1,false)],[],false⟩),
 (181,⟨.struct,2,32,(some (.agg #[(vS none 0 0),(iI 0)])),[(0,1,false),(1,1,false)],[],false⟩),
 (182,tYq0),
 (183,tYq0),
 (184,tYq0),
 (185,⟨(.ptr 330),1,8,(some (vP none)),[],[],true⟩),
 (186,tYq0),
 (187,⟨(.ptr 190),1,8,(some (vP none)),[],[],true⟩),
 (188,⟨(.map 9 3),1,8,(some (.map none)),[],[],false⟩),
 (189,⟨.struct,4,48,(some (.agg #[(vS none 0 0),(iI 0),(iI 0),(.map none)])),[(0,3,true),(3,1,false)],[],false⟩),
 (190,⟨.struct,4,48,(some (.agg #[(vS none 0 0),(iI 0),(iI 0),(.map none)])),[(0,3,true),(3,1,false)],[],false⟩),
 (191,tYq0),
 (192,⟨.struct,2,16,(some (.agg #[(iI 0),(iI 0)])),[(0,1,false),(1,1,false)],[],true⟩),
 (193,⟨.struct,2,16,(some (.agg #[(iI 0),(iI 0)])),[(0,1,false),(1,1,false)],[],true⟩),
 (194,⟨(.slice 193),1,24,(some (vS none 0 0)),[],[],false⟩),
 (195,⟨(.map 3 194),1,8,(some (.map none)),[],[],false⟩),
 (196,tYq0),
 (197,⟨(.slice 203),1,24,(some (vS none 0 0)),[],[],false⟩),
 (198,⟨.struct,2,48,(some (.agg #[(vS none 0 0),(vS none 0 0)])),[(0,1,false),(1,1,false)],[],false⟩),
 (199,⟨.struct,2,48,(some (.agg #[(vS none 0 0),(vS none 0 0)])),[(0,1,false),(1,1,false)],[],false⟩),
 (200,tYq0),
 (201,tYq0),
 (202,⟨.struct,2,16,(some (.agg #[(iI 0),(iI 0)])),[(0,1,false),(1,1,false)],[],true⟩),
 (203,⟨.struct,2,16,(some (.agg #[(iI 0),(iI 0)])),[(0,1,false),(1,1,false)],[],true⟩),
 (204,tYq0),
 (205,tYq0),
 (206,tYq1),
 (207,tYq0),
 (208,⟨(.slice 212),1,24,(some (vS none 0 0)),[],[],false⟩),
 (209,tYq1),
 (210,tYq0),
 (211,⟨.struct,3,40,(some (.agg #[(iI 0),(iI 0),(vS none 0 0)])),[(0,1,false),(1,1,false),(2,1,false)],[],false⟩),
 (212,⟨.struct,3,40,(some (.agg #[(iI 0),(iI 0),(vS none 0 0)])),[(0,1,false),(1,1,false),(2,1,false)],[],false⟩),
 (213,tYq0),
 (214,tYq0),
 (215,⟨.struct,3,40,(some (.agg #[(iI 0),(iI 0),(vS none 0 0)])),[(0,1,false),(1,1,false),(2,1,false)],[],false⟩),
 (216,⟨.struct,3,40,(some (.agg #[(iI 0),(iI 0),(vS none 0 0)])),[(0,1,false),(1,1,false),(2,1,false)],[],false⟩),
 (217,tYq0),
 (218,⟨.tuple,1,0,(some (.tuple #[(.agg #[(iI 0),(iI 0)]),(vS none 0 0)])),[],[(.agg [(.int .i64),(.int .i64)]),(.one .slice)],false⟩),
 (219,tYq0),
 (220,tYq0),
 (221,⟨(.slice 197),1,24,(some (vS none 0 0)),[],[],false⟩),
 (222,tYq0),
 (223,tYq0),
 (224,tYq0),
 (225,⟨.tuple,1,0,(some (.tuple #[(.agg #[(vS none 0 0),(vS none 0 0),(vS none 0 0)]),(iI 0)])),[],[(.agg [.slice,.slice,.slice]),(.one (.int .i64))],false⟩),
 (226,tYq0),
 (227,tYq0),
 (228,tYq0),
 (229,tYq0),
 (230,⟨(.ptr 99),1,8,(some (vP none)),[],[],true⟩),
 (231,⟨(.ptr 108),1,8,(some (vP none)),[],[],true⟩),
 (232,tYq0),
 (233,tYq0),
 (234,⟨.struct,3,24,(some (.agg #[(iI 0),(iI 0),(iI 0)])),[(0,2,true),(2,1,false)],[],true⟩),
 (235,⟨.struct,3,24,(some (.agg #[(iI 0),(iI 0),(iI 0)])),[(0,2,true),(2,1,false)],[],true⟩),
 (236,tYq0),
 (237,tYq0),
 (238,tYq0),
 (239,tYq0),
 (240,tYq0),
 (241,tYq0),
 (242,tYq0),
 (243,tYq0),
 (244,⟨.struct,3,56,(some (.agg #[(vB false),(vS none 0 0),(vS none 0 0)])),[(0,1,false),(1,1,false),(2,1,false)],[],false⟩),
 (245,⟨.struct,3,56,(some (.agg #[(vB false),(vS none 0 0),(vS none 0 0)])),[(0,1,false),(1,1,false),(2,1,false)],[],false⟩),
 (246,⟨.tuple,1,0,(some (.tuple #[(.agg #[(vB false),(vS none 0 0),(vS none 0 0)]),(iI 0)])),[],[(.agg [.bool,.slice,.slice]),(.one (.int .i64))],false⟩),
 (247,tYq0),
 (248,tYq0),
 (249,tYq0),
 (250,⟨.struct,2,48,(some (.agg #[(vS none 0 0),(vS none 0 0)])),[(0,1,false),(1,1,false)],[],false⟩),
 (251,⟨.struct,2,48,(some (.agg #[(vS none 0 0),(vS none 0 0)])),[(0,1,false),(1,1,false)],[],false⟩),
 (252,⟨.struct,3,56,(some (.agg #[(iI 0),(vS none 0 0),(vS none 0 0)])),[(0,1,false),(1,1,false),(2,1,false)],[],false⟩),
 (253,⟨.struct,3,56,(some (.agg #[(iI 0),(vS none 0 0),(vS none 0 0)])),[(0,1,false),(1,1,false),(2,1,false)],[],false⟩),
 (254,⟨(.slice 263),1,24,(some (vS none 0 0)),[],[],false⟩),
 (255,⟨(.slice 278),1,24,(some (vS none 0 0)),[],[],false⟩),
 (256,⟨(.slice 283),1,24,(some (vS none 0 0)),[],[],false⟩),
 (257,⟨.struct,8,120,(some (.agg #[(vS none 0 0),(iI 0),(iI 0),(.map none),(vS none 0 0),(.string ⟨#[]⟩),(.map none),(vS none 0 0)])),[(0,1,false),(1,1,false),(2,1,false),(3,1,false),(4,1,false),(5,1,false),(6,1,false),(7,1,false)],[],false⟩),
 (258,⟨.struct,8,120,(some (.agg #[(vS none 0 0),(iI 0),(iI 0),(.map none),(vS none 0 0),(.string ⟨#[]⟩),(.map none),(vS none 0 0)])),[(0,1,false),(1,1,false),(2,1,false),(3,1,false),(4,1,false),(5,1,false),(6,1,false),(7,1,false)],[],false⟩),
 (259,tYq0),
 (260,tYq0),
 (261,tYq0),
 (262,⟨.struct,3,32,(some (.agg #[(iI 0),(.string ⟨#[]⟩),(iI 0)])),[(0,1,false),(1,1,false),(2,1,false)],[],true⟩),
 (263,⟨.struct,3,32,(some (.agg #[(iI 0),(.string ⟨#[]⟩),(iI 0)])),[(0,1,false),(1,1,false),(2,1,false)],[],true⟩),
 (264,⟨.tuple,1,0,(some (.tuple #[(vS none 0 0),(.agg #[(iI 0),(iI 0),(vS none 0 0)])])),[],[(.one .slice),(.agg [(.int .i64),(.int .i64),.slice])],false⟩),
 (265,tYq0),
 (266,⟨.struct,1,8,(some (.agg #[(iI 0)])),[(0,1,false)],[],true⟩),
 (267,⟨.struct,1,8,(some (.agg #[(iI 0)])),[(0,1,false)],[],true⟩),
 (268,⟨.tuple,1,0,(some (.tuple #[(.agg #[(iI 0)]),(vB false)])),[],[(.agg [(.int .i64)]),(.one .bool)],false⟩),
 (269,⟨.struct,2,32,(some (.agg #[(vS none 0 0),(.map none)])),[(0,1,false),(1,1,false)],[],false⟩),
 (270,⟨.struct,2,32,(some (.agg #[(vS none 0 0),(.map none)])),[(0,1,false),(1,1,false)],[],false⟩),
 (271,⟨.struct,2,32,(some (.agg #[(vS none 0 0),(.map none)])),[(0,2,true)],[],false⟩),
 (272,⟨.struct,2,32,(some (.agg #[(vS none 0 0),(.map none)])),[(0,2,true)],[],false⟩),
 (273,⟨(.slice 290),1,24,(some (vS none 0 0)),[],[],false⟩),
 (274,⟨.struct,8,144,(some (.agg #[(vS none 0 0),(.map none),(vS none 0 0),(.map none),(vS none 0 0),(vS none 0 0),(vS none 0 0),(iI 0)])),[(0,2,true),(2,2,true),(4,1,false),(5,1,false),(6,1,false),(7,1,false)],[],false⟩),
 (275,⟨.struct,8,144,(some (.agg #[(vS none 0 0),(.map none),(vS none 0 0),(.map none),(vS none 0 0),(vS none 0 0),(vS none 0 0),(iI 0)])),[(0,2,true),(2,2,true),(4,1,false),(5,1,false),(6,1,false),(7,1,false)],[],false⟩),
 (276,⟨(.map 3 3),1,8,(some (.map none)),[],[],false⟩),
 (277,⟨.struct,2,32,(some (.agg #[(iI 0),(vS none 0 0)])),[(0,1,false),(1,1,false)],[],false⟩),
 (278,⟨.struct,2,32,(some (.agg #[(iI 0),(vS none 0 0)])),[(0,1,false),(1,1,false)],[],false⟩),
 (279,tYq0),
 (280,tYq0),
 (281,tYq0),
 (282,⟨.struct,4,64,(some (.agg #[(.string ⟨#[]⟩),(vS none 0 0),(.string ⟨#[]⟩),(vB false)])),[(0,1,false),(1,1,false),(2,1,false),(3,1,false)],[],false⟩),
 (283,⟨.struct,4,64,(some (.agg #[(.string ⟨#[]⟩),(vS none 0 0),(.string ⟨#[]⟩),(vB false)])),[(0,1,false),(1,1,false),(2,1,false),(3,1,false)],[],false⟩),
 (284,tYq0),
 (285,tYq0),
 (286,tYq0),
 (287,⟨.struct,2,24,(some (.agg #[(.string ⟨#[]⟩),(iI 0)])),[(0,1,false),(1,1,false)],[],true⟩),
 (288,⟨.struct,2,24,(some (.agg #[(.string ⟨#[]⟩),(iI 0)])),[(0,1,false),(1,1,false)],[],true⟩),
 (289,⟨.struct,3,40,(some (.agg #[(iI 0),(vS none 0 0),(iI 0)])),[(0,1,false),(1,1,false),(2,1,false)],[],false⟩),
 (290,⟨.struct,3,40,(some (.agg #[(iI 0),(vS none 0 0),(iI 0)])),[(0,1,false),(1,1,false),(2,1,false)],[],false⟩),
 (291,tYq0),
 (292,tYq0),
 (293,tYq0),
 (294,tYq0),
 (295,tYq0),
 (296,⟨.struct,2,16,(some (.agg #[(iI 0),(iI 0)])),[(0,1,false),(1,1,false)],[],true⟩),
 (297,⟨.struct,2,16,(some (.agg #[(iI 0),(iI 0)])),[(0,1,false),(1,1,false)],[],true⟩),
 (298,⟨(.slice 100),1,24,(some (vS none 0 0)),[],[],false⟩),
 (299,tYq0),
 (300,⟨(.ptr 406),1,8,(some (vP none)),[],[],true⟩),
 (301,tYq0),
 (302,⟨(.slice 194),1,24,(some (vS none 0 0)),[],[],false⟩),
 (303,⟨(.slice 127),1,24,(some (vS none 0 0)),[],[],false⟩),
 (304,⟨.struct,11,200,(some (.agg #[(vS none 0 0),(vS none 0 0),(vS none 0 0),(iI 0),(vS none 0 0),(vS none 0 0),(iI 0),(iI 0),(vS none 0 0),(vS none 0 0),(vP none)])),[(0,5,true),(5,3,true),(8,1,false),(9,1,false),(10,1,false)],[],false⟩),
 (305,⟨.struct,11,200,(some (.agg #[(vS none 0 0),(vS none 0 0),(vS none 0 0),(iI 0),(vS none 0 0),(vS none 0 0),(iI 0),(iI 0),(vS none 0 0),(vS none 0 0),(vP none)])),[(0,5,true),(5,3,true),(8,1,false),(9,1,false),(10,1,false)],[],false⟩),
 (306,tYq0),
 (307,tYq0),
 (308,tYq0),
 (309,tYq0),
 (310,tYq0),
 (311,tYq0),
 (312,tYq0),
 (313,tYq0),
 (314,tYq0),
 (315,tYq0),
 (316,⟨.struct,2,16,(some (.agg #[(vP none),(iI 0)])),[(0,1,false),(1,1,false)],[],true⟩),
 (317,⟨.struct,2,16,(some (.agg #[(vP none),(iI 0)])),[(0,1,false),(1,1,false)],[],true⟩),
 (318,tYq0),
 (319,tYq0),
 (320,tYq0),
 (321,tYq0),
 (322,tYq0),
 (323,tYq0),
 (324,tYq0),
 (325,tYq0),
 (326,tYq0),
 (327,tYq0),
 (328,⟨(.map 3 24),1,8,(some (.map none)),[],[],false⟩),
 (329,⟨.struct,6,112,(some (.agg #[(vS none 0 0),(vS none 0 0),(vS none 0 0),(iI 0),(vS none 0 0),(.map none)])),[(0,5,true),(5,1,false)],[],false⟩),
 (330,⟨.struct,6,112,(some (.agg #[(vS none 0 0),(vS none 0 0),(vS none 0 0),(iI 0),(vS none 0 0),(.map none)])),[(0,5,true),(5,1,false)],[],false⟩),
 (331,tYq0),
 (332,tYq0),
 (333,tYq0),
 (334,tYq0),
 (335,⟨(.int .u64),1,8,(some (.int .u64 0)),[],[],true⟩),
 (336,tYq0),
 (337,tYq0),
 (338,tYq0),
 (339,⟨.struct,2,16,(some (.agg #[.nilFunc,.nilFunc])),[(0,1,false),(1,1,false)],[],false⟩),
 (340,⟨.struct,2,16,(some (.agg #[.nilFunc,.nilFunc])),[(0,1,false),(1,1,false)],[],false⟩),
 (341,⟨(.slice 340),1,24,(some (vS none 0 0)),[],[],false⟩),
 (342,tYq0),
 (343,⟨(.ptr 349),1,8,(some (vP none)),[],[],true⟩),
 (344,tYq2),
 (345,tYq0),
 (346,⟨(.map 297 24),1,8,(some (.map none)),[],[],false⟩),
 (347,⟨(.map 297 3),1,8,(some (.map none)),[],[],false⟩),
 (348,⟨.struct,13,216,(some (.agg #[(vS none 0 0),(vS none 0 0),(vS none 0 0),(iI 0),(vS none 0 0),(vS none 0 0),(iI 0),(iI 0),(vS none 0 0),(.map none),(.map none),(vS none 0 0),(.map none)])),[(0,5,true),(5,3,true),(8,1,false),(9,1,false),(10,1,false),(11,1,false),(12,1,false)],[],false⟩),
 (349,⟨.struct,13,216,(some (.agg #[(vS none 0 0),(vS none 0 0),(vS none 0 0),(iI 0),(vS none 0 0),(vS none 0 0),(iI 0),(iI 0),(vS none 0 0),(.map none),(.map none),(vS none 0 0),(.map none)])),[(0,5,true),(5,3,true),(8,1,false),(9,1,false),(10,1,false),(11,1,false),(12,1,false)],[],false⟩),
 (350,tYq0),
 (351,tYq0),
 (352,tYq0),
 (353,⟨(.slice 419),1,24,(some (vS none 0 0)),[],[],false⟩),
 (354,⟨(.slice 419),1,24,(some (vS none 0 0)),[],[],false⟩),
 (355,⟨.struct,2,32,(some (.agg #[(vS none 0 0),(iI 0)])),[(0,1,false),(1,1,false)],[],false⟩),
 (356,⟨.struct,2,32,(some (.agg #[(vS none 0 0),(iI 0)])),[(0,1,false),(1,1,false)],[],false⟩),
 (357,tYq0),
 (358,tYq0),
 (359,tYq0),
 (360,⟨.tuple,1,0,(some (.tuple #[(iI 0),(vB false)])),[],[(.one (.int .i64)),(.one .bool)],false⟩),
 (361,tYq0),
 (362,tYq0),
 (363,tYq0),
 (364,⟨(.ptr 366),1,8,(some (vP none)),[],[],true⟩),
 (365,⟨.struct,3,72,(some (.agg #[(vS none 0 0),(vS none 0 0),(vS none 0 0)])),[(0,3,true)],[],false⟩),
 (366,⟨.struct,3,72,(some (.agg #[(vS none 0 0),(vS none 0 0),(vS none 0 0)])),[(0,3,true)],[],false⟩),
 (367,tYq0),
 (368,⟨(.map 373 86),1,8,(some (.map none)),[],[],false⟩),
 (369,⟨(.map 373 86),1,8,(some (.map none)),[],[],false⟩),
 (370,⟨.tuple,1,0,(some (.tuple #[(.map none),(iI 0),(iI 0)])),[],[(.one .map),(.one (.int .i64)),(.one (.int .i64))],false⟩),
 (371,tYq0),
 (372,⟨.struct,2,16,(some (.agg #[(iI 0),(iI 0)])),[(0,1,false),(1,1,false)],[],true⟩),
 (373,⟨.struct,2,16,(some (.agg #[(iI 0),(iI 0)])),[(0,1,false),(1,1,false)],[],true⟩),
 (374,tYq0),
 (375,⟨.struct,2,48,(some (.agg #[(vS none 0 0),(vS none 0 0)])),[(0,2,true)],[],false⟩),
 (376,⟨.struct,2,48,(some (.agg #[(vS none 0 0),(vS none 0 0)])),[(0,2,true)],[],false⟩),
 (377,tYq0),
 (378,⟨.struct,8,192,(some (.agg #[(vS none 0 0),(vS none 0 0),(vS none 0 0),(vS none 0 0),(vS none 0 0),(vS none 0 0),(vS none 0 0),(vS none 0 0)])),[(0,8,true)],[],false⟩),
 (379,⟨.struct,8,192,(some (.agg #[(vS none 0 0),(vS none 0 0),(vS none 0 0),(vS none 0 0),(vS none 0 0),(vS none 0 0),(vS none 0 0),(vS none 0 0)])),[(0,8,true)],[],false⟩),
 (380,⟨.iface,1,16,(some .nilIface),[],[],true⟩),
 (381,⟨.iface,1,16,(some .nilIface),[],[],true⟩),
 (382,⟨.struct,7,136,(some (.agg #[(vS none 0 0),(vS none 0 0),(vS none 0 0),(iI 0),(vS none 0 0),.nilIface,.nilIface])),[(0,5,true),(5,1,false),(6,1,false)],[],false⟩),
 (383,⟨.struct,7,136,(some (.agg #[(vS none 0 0),(vS none 0 0),(vS none 0 0),(iI 0),(vS none 0 0),.nilIface,.nilIface])),[(0,5,true),(5,1,false),(6,1,false)],[],false⟩),
 (384,⟨(.ptr 388),1,8,(some (vP none)),[],[],true⟩),
 (385,⟨(.ptr 450),1,8,(some (vP none)),[],[],true⟩),
 (386,tYq0),
 (387,⟨.struct,8,152,(some (.agg #[(vP none),(vS none 0 0),(vS none 0 0),(vS none 0 0),(iI 0),(vS none 0 0),.nilIface,(vS none 0 0)])),[(0,1,false),(1,5,true),(6,1,false),(7,1,false)],[],false⟩),
 (388,⟨.struct,8,152,(some (.agg #[(vP none),(vS none 0 0),(vS none 0 0),(vS none 0 0),(iI 0),(vS none 0 0),.nilIface,(vS none 0 0)])),[(0,1,false),(1,5,true),(6,1,false),(7,1,false)],[],false⟩),
 (389,tYq0),
 (390,tYq0),
 (391,tYq4),
 (392,tYq0),
 (393,tYq0),
 (394,tYq0),
 (395,tYq0),
 (396,⟨(.ptr 398),1,8,(some (vP none)),[],[],true⟩),
 (397,⟨.struct,2,24,(some (.agg #[(.string ⟨#[]⟩),(iI 0)])),[(0,1,false),(1,1,false)],[],true⟩),
 (398,⟨.struct,2,24,(some (.agg #[(.string ⟨#[]⟩),(iI 0)])),[(0,1,false),(1,1,false)],[],true⟩),
 (399,tYq0),
 (400,tYq0),
 (401,⟨(.ptr 270),1,8,(some (vP none)),[],[],true⟩),
 (402,tYq0),
 (403,tYq0),
 (404,tYq0),
 (405,⟨.struct,7,152,(some (.agg #[(vS none 0 0),(vS none 0 0),(vS none 0 0),(iI 0),(vS none 0 0),(vS none 0 0),(vS none 0 0)])),[(0,5,true),(5,1,false),(6,1,false)],[],false⟩),
 (406,⟨.struct,7,152,(some (.agg #[(vS none 0 0),(vS none 0 0),(vS none 0 0),(iI 0),(vS none 0 0),(vS none 0 0),(vS none 0 0)])),[(0,5,true),(5,1,false),(6,1,false)],[],false⟩),
 (407,tYq0),
 (408,tYq3),
 (409,tYq0),
 (410,tYq0),
 (411,tYq0),
 (412,tYq0),
 (413,tYq0),
 (414,tYq0),
 (415,tYq0),
 (416,tYq0),
 (417,tYq0),
 (418,tYq0),
 (419,⟨(.int .u64),1,8,(some (.int .u64 0)),[],[],true⟩),
 (420,tYq0),
 (421,⟨.struct,7,152,(some (.agg #[(vS none 0 0),(vS none 0 0),(vS none 0 0),(iI 0),(vS none 0 0),(vS none 0 0),(vS none 0 0)])),[(0,5,true),(5,1,false),(6,1,false)],[],false⟩),
 (422,⟨.struct,7,152,(some (.agg #[(vS none 0 0),(vS none 0 0),(vS none 0 0),(iI 0),(vS none 0 0),(vS none 0 0),(vS none 0 0)])),[(0,5,true),(5,1,false),(6,1,false)],[],false⟩),
 (423,⟨(.ptr 422),1,8,(some (vP none)),[],[],true⟩),
 (424,tYq0),
 (425,tYq0),
 (426,⟨(.slice 5),1,24,(some (vS none 0 0)),[],[],false⟩),
 (427,tYq0),
 (428,⟨(.int .i64),1,8,(some (iI 0)),[],[],true⟩),
 (429,tYq4),
 (430,tYq0),
 (431,tYq0),
 (432,tYq0),
 (433,tYq0),
 (434,tYq0),
 (435,⟨(.int .u32),1,4,(some (.int .u32 0)),[],[],true⟩),
 (436,tYq0),
 (437,tYq0),
 (438,tYq1),
 (439,tYq0),
 (440,tYq0),
 (441,tYq0),
 (442,tYq0),
 (444,tYq0),
 (445,tYq0),
 (446,tYq0),
 (447,tYq0),
 (448,tYq0),
 (449,⟨.struct,3,40,(some (.agg #[(vP none),(iI 0),(vS none 0 0)])),[(0,1,false),(1,1,false),(2,1,false)],[],false⟩),
 (450,⟨.struct,3,40,(some (.agg #[(vP none),(iI 0),(vS none 0 0)])),[(0,1,false),(1,1,false),(2,1,false)],[],false⟩),
 (451,tYq0),
 (452,tYq0),
 (453,tYq0),
 (454,tYq0),
 (455,⟨.tuple,1,0,(some (.tuple #[(.agg #[(iI 0),(.string ⟨#[]⟩),(iI 0)]),(vB false)])),[],[(.agg [(.int .i64),.str,(.int .i64)]),(.one .bool)],false⟩),
 (456,tYq0),
 (457,tYq0),
 (458,tYq0),
 (459,tYq0),
 (460,tYq0),
 (461,tYq0),
 (462,tYq0),
 (463,tYq0),
 (464,tYq0),
 (465,⟨(.array 64 5),64,64,(some (.agg #[(.int .u8 0),(.int .u8 0),(.int .u8 0),(.int .u8 0),(.int .u8 0),(.int .u8 0),(.int .u8 0),(.int .u8 0),(.int .u8 0),(.int .u8 0),(.int .u8 0),(.int .u8 0),(.int .u8 0),(.int .u8 0),(.int .u8 0),(.int .u8 0),(.int .u8 0),(.int .u8 0),(.int .u8 0),(.int .u8 0),(.int .u8 0),(.int .u8 0),(.int .u8 0),(.int .u8 0),(.int .u8 0),(.int .u8 0),(.int .u8 0),(.int .u8 0),(.int .u8 0),(.int .u8 0),(.int .u8 0),(.int .u8 0),(.int .u8 0),(.int .u8 0),(.int .u8 0),(.int .u8 0),(.int .u8 0),(.int .u8 0),(.int .u8 0),(.int .u8 0),(.int .u8 0),(.int .u8 0),(.int .u8 0),(.int .u8 0),(.int .u8 0),(.int .u8 0),(.int .u8 0),(.int .u8 0),(.int .u8 0),(.int .u8 0),(.int .u8 0),(.int .u8 0),(.int .u8 0),(.int .u8 0),(.int .u8 0),(.int .u8 0),(.int .u8 0),(.int .u8 0),(.int .u8 0),(.int .u8 0),(.int .u8 0),(.int .u8 0),(.int .u8 0),(.int .u8 0)])),[],[],true⟩),
 (466,tYq0),
 (467,⟨(.int .u64),1,8,(some (.int .u64 0)),[],[],true⟩),
 (468,tYq0),
 (469,tYq0),
 (470,tYq0),
 (471,⟨(.ptr 3),1,8,(some (vP none)),[],[],true⟩),
 (472,tYq0),
 (473,tYq0),
 (474,tYq0),
 (475,tYq0),
 (476,tYq0),
 (477,tYq0),
 (478,⟨(.ptr 483),1,8,(some (vP none)),[],[],true⟩),
 (479,tYq2),
 (480,tYq0),
 (481,tYq0),
 (482,⟨.struct,9,152,(some (.agg #[(vS none 0 0),(vS none 0 0),(vS none 0 0),(iI 0),(vS none 0 0),(vS none 0 0),(iI 0),(iI 0),(.map none)])),[(0,5,true),(5,3,true),(8,1,false)],[],false⟩),
 (483,⟨.struct,9,152,(some (.agg #[(vS none 0 0),(vS none 0 0),(vS none 0 0),(iI 0),(vS none 0 0),(vS none 0 0),(iI 0),(iI 0),(.map none)])),[(0,5,true),(5,3,true),(8,1,false)],[],false⟩),
 (484,tYq0),
 (485,tYq0),
 (486,tYq0),
 (487,tYq0),
 (488,tYq0),
 (489,tYq0),
 (490,⟨(.array 4 3),4,32,(some (.agg #[(iI 0),(iI 0),(iI 0),(iI 0)])),[],[],true⟩),
 (491,tYq0),
 (492,tYq0),
 (493,tYq0),
 (494,tYq0),
 (495,tYq0),
 (496,tYq0),
 (497,tYq0),
 (498,tYq0),
 (499,tYq0),
 (500,tYq0),
 (501,tYq0),
 (502,tYq0),
 (503,tYq0),
 (504,tYq0),
 (505,⟨(.ptr 467),1,8,(some (vP none)),[],[],true⟩),
 (506,tYq0),
 (507,tYq0),
 (508,tYq0),
 (509,tYq0),
 (510,tYq0),
 (511,⟨(.slice 513),1,24,(some (vS none 0 0)),[],[],false⟩),
 (512,⟨.struct,2,16,(some (.agg #[(iI 0),(iI 0)])),[(0,1,false),(1,1,false)],[],true⟩),
 (513,⟨.struct,2,16,(some (.agg #[(iI 0),(iI 0)])),[(0,1,false),(1,1,false)],[],true⟩),
 (514,⟨(.ptr 513),1,8,(some (vP none)),[],[],true⟩),
 (515,tYq0),
 (516,tYq0),
 (517,tYq0),
 (518,tYq0),
 (519,tYq0),
 (520,⟨(.ptr 5),1,8,(some (vP none)),[],[],true⟩),
 (521,tYq0),
 (522,tYq0),
 (523,tYq0),
 (524,⟨.struct,4,40,(some (.agg #[(vP none),(vP none),(vP none),(.string ⟨#[]⟩)])),[(0,1,false),(1,1,false),(2,1,false),(3,1,false)],[],true⟩),
 (525,⟨.struct,4,40,(some (.agg #[(vP none),(vP none),(vP none),(.string ⟨#[]⟩)])),[(0,1,false),(1,1,false),(2,1,false),(3,1,false)],[],true⟩),
 (526,⟨(.array 0 16),0,0,(some (.agg #[])),[],[],true⟩),
 (527,⟨.struct,0,0,(some (.agg #[])),[(0,0,true)],[],true⟩),
 (528,⟨.struct,0,0,(some (.agg #[])),[(0,0,true)],[],true⟩),
 (529,⟨(.int .u8),1,1,(some (.int .u8 0)),[],[],true⟩),
 (530,⟨(.int .u8),1,1,(some (.int .u8 0)),[],[],true⟩),
 (531,tYq0),
 (532,⟨(.int .i32),1,4,(some (.int .i32 0)),[],[],true⟩),
 (533,⟨(.int .i32),1,4,(some (.int .i32 0)),[],[],true⟩),
 (534,⟨.struct,11,48,(some (.agg #[(.int .u64 0),(.int .u64 0),(.int .u32 0),(.int .u8 0),(.int .u8 0),(.int .u8 0),(.int .u8 0),.nilFunc,(vP none),(.int .i32 0),(.int .i32 0)])),[(0,1,false),(1,1,false),(2,1,false),(3,1,false),(4,1,false),(5,1,false),(6,1,false),(7,1,false),(8,1,false),(9,1,false),(10,1,false)],[],false⟩),
 (535,⟨.struct,11,48,(some (.agg #[(.int .u64 0),(.int .u64 0),(.int .u32 0),(.int .u8 0),(.int .u8 0),(.int .u8 0),(.int .u8 0),.nilFunc,(vP none),(.int .i32 0),(.int .i32 0)])),[(0,1,false),(1,1,false),(2,1,false),(3,1,false),(4,1,false),(5,1,false),(6,1,false),(7,1,false),(8,1,false),(9,1,false),(10,1,false)],[],false⟩),
 (536,tYq0),
 (537,tYq0),
 (538,tYq0),
 (539,⟨.other,1,8,(some (vP none)),[],[],true⟩)]
def Ty:TypeId->Option dp:=TT V8
theorem aT:dY Tryz.prog Ty:=RW (by kernel_rfl)
theorem F_{P:Program}{F F':FuncId->Bool}(h:rX P F)(h':rX P F'):rX P λg=>F g||F' g:=λg u=>by
 rcases agA _ _▸u with u|u
 ·exact h g u
 ·exact h' g u
def Fn(g:FuncId):Bool:=(Nat.ble 3 g&&Nat.ble g 349)||(Nat.ble 351 g&&Nat.ble g 397)||(Nat.ble 399 g&&Nat.ble g 400)||(Nat.ble 419 g&&Nat.ble g 425)||(Nat.ble 432 g&&Nat.ble g 432)
theorem V9:rX Tryz.prog Fn:=(F_ (F_ (F_ (F_ (Br (by kernel_rfl)) (Br (by kernel_rfl))) (Br (by kernel_rfl))) (Br (by kernel_rfl))) (Br (by kernel_rfl)))
theorem mixed:Tryz.prog.follows .mixedOrders=true:=by kernel_rfl
abbrev vU(l:List Value):Value:=.tuple (Array.mk l)
abbrev cL(w:ahs)(a:Addr)(v:Value):Prop:=w.cell? a=some v
abbrev rA(w:ahs)(a:Addr)(n:Nat)(l:List Value):Prop:=rowAt w a 0 n=some l
abbrev χ(w:ahs)(s:Addr)(K:Value->Prop):Prop:=∃a b c d e f g h i j k l m,rA w s 5 [vS a b c,vS d e f,vS g h i,iI j,vS k l m]/\K (vG [vS a b c,vS d e f,vS g h i,iI j,vS k l m])
abbrev φ(a:ahr)(b c:Nat)(d:ahr)(e f:Nat)(g:ahr)(h i:Nat)(j:Int)(k:ahr)(l m:Nat):Value:=.agg #[(vS a b c),(vS d e f),(vS g h i),(iI j),(vS k l m)]
abbrev ψ(a:ahr)(b c:Nat)(d:ahr)(e f:Nat)(g:ahr)(h i:Nat)(j:Int)(k:ahr)(l m:Nat):Obj:=oC [vS a b c,vS d e f,vS g h i,iI j,vS k l m] 27
abbrev τ(l:List (Nat×S1))(K:lP l->lN l->Prop):Prop:=∃x,∃y,K x y
abbrev ρ:=aw Tryz.prog
abbrev rE:=iK Tryz.prog Ev
abbrev bQ(p:Prop)[Decidable p](a b:Prop):Prop:=br (decide p) a b
abbrev rEs(f:FuncId)(l:List Value)(w:World)(K:Option Addr->Nat->Nat->World->Prop):Prop:=rE f l w λa b=>∃c d e,a=vS c d e/\K c d e b
abbrev cLs(w:World)(a:Addr)(K:Option Addr->Nat->Nat->Prop):Prop:=∃c d e,cL w a (vS c d e)/\K c d e
abbrev rEi(f:FuncId)(l:List Value)(w:World)(K:Int->World->Prop):Prop:=rE f l w λa b=>∃c,a=iI c/\K c b
abbrev cLi(w:World)(a:Addr)(K:Int->Prop):Prop:=∃c,cL w a (iI c)/\K c
abbrev rEb(f:FuncId)(l:List Value)(w:World)(K:Bool->World->Prop):Prop:=rE f l w λa b=>∃c,a=vB c/\K c b
abbrev cLb(w:World)(a:Addr)(K:Bool->Prop):Prop:=∃c,cL w a (vB c)/\K c
abbrev rEp(f:FuncId)(l:List Value)(w:World)(K:Option Addr->World->Prop):Prop:=rE f l w λa b=>∃c,a=vP c/\K c b
abbrev cLp(w:World)(a:Addr)(K:Option Addr->Prop):Prop:=∃c,cL w a (vP c)/\K c
abbrev rS:=@aX Value Tryz.prog
theorem rv{i:FuncId}{fn:Func}(hf:Tryz.prog.funcs[i]? =some fn)(A:aW){args:List Value}{w:ahs}{R:Value->ahs->Prop}{V:Prop}(h:V)(e:Zk Tryz.prog Ty Fn Ev A fn args w R=V:=by kernel_rfl):ρ i args w R:=V6 aT V9 mixed hf A (e▸h)
theorem rvD{i:FuncId}{fn:Func}(hf:Tryz.prog.funcs[i]? =some fn)(A:aW){args:List Value}{w:ahs}{R:Value->ahs->Prop}{V:Prop}(e:fnD Tryz.prog Ty Fn Ev A fn args w R=V)(h:V):ρ i args w R:=ZH aT V9 mixed hf A ab5 (e▸h)
section
variable{a b c d:ahr}{i j k l m n o p:Nat}{A B:Int}{w:ahs}{R:Value->WP}
theorem pV(h:br ((i:Int) !=(k:Int)) (R (vB false) w) (τ [(5,aN)] λc d=>c 0 w/\∀(_:ν) e f,c e f->bQ (e<(i:Int)) (∀g,drawn f g->∃(h:WP),h g/\idx a i e 1 λa=>∃i,(∀b,h b->cL b a (iI i))/\idx b k e 1 λa=>∃b,(∀c,h c->cL c a (iI b))/\br (i !=b) (R (vB false) g) (aD (e+1)/\c (e+1) g/\d (e+1) g<d e f)) (R (vB true) f))):ρ 23 [vS a i j,vS b k l] w R:=rv Tryz.func23 ⟨[(4,[(5,(.one (.int .i64)))])],[],[],[]⟩ h
theorem vf(h:br ((i:Int) !=(k:Int)) (R (vB false) w) (τ [(5,aN)] λc d=>c 0 w/\∀(_:ν) e f,c e f->bQ (e<(i:Int)) (∀g,drawn f g->∃(h:WP),h g/\idx a i e 1 λa=>∃i,(∀b,h b->cL b a (iI i))/\idx b k e 1 λa=>∃b,(∀c,h c->cL c a (iI b))/\br (i !=b) (R (vB false) g) (aD (e+1)/\c (e+1) g/\d (e+1) g<d e f)) (R (vB true) f))):ρ 59 [vS a i j,vS b k l] w R:=rv Tryz.func59 ⟨[(4,[(5,(.one (.int .i64)))])],[],[],[]⟩ h
theorem Fi(h:new w (ψ a i j b k l c m n A d o p) λa b=>∃(c:lP [(21,Bw)]),(cLs b (Addr.add (aM a) 1) λd e f=>br ((e:Int)==0) (c true b) (cLs b (Addr.add (aM a) 1) λd e f=>idx d e 0 1 λd=>∃e,cL b d (Value.string e)/\br (!ByteArray.toList e==ByteArray.toList (ByteArray.mk (Array.mk []))) (c true b) (χ b (aM a) λa=>rEb 164 [a,iI 1] b λd b=>c (!d) b)))/\∀(_:ν) b d,c b d->br b (R (vB false) d) (χ d (aM a) λb=>rE 165 [b,iI 1] d λb c=>∃d e f g,b=vU [vS d e f,vB g]/\cLs c (Addr.add (aM a) 4) λb d e=>∀e,drawn c e->∃(c:WP),c e/\br g (idx b d 0 3 λf=>∃g,(∀a,c a->cL a f (iI g))/\∃f h i,(∀b,c b->cL b (aM a) (vS f h i))/\br (g==(h:Int)) (idx b d 0 3 λf=>∃g h i,(∀a,c a->cL a (f.add 1) (vS g h i))/\br ((h:Int)==1) (idx b d 0 3 λf=>∃g h i,(∀a,c a->cL a (f.add 1) (vS g h i))/\idx g h 0 1 λf=>∃g,(∀a,c a->cL a f (iI g))/\∃f,(∀b,c b->cL b (Addr.add (aM a) 3) (iI f))/\br (g==f) (idx b d 0 3 λa=>∃b,(∀d,c d->cL d (a.add 2) (iI b))/\R (vB (b==0)) e) (R (vB false) e)) (R (vB false) e)) (R (vB false) e)) (R (vB false) e))):ρ 81 [φ a i j b k l c m n A d o p] w R:=rv Tryz.func81 ⟨[],[(2,[(21,(.one .bool))])],[],[]⟩ h
theorem l8{d:Bool}(h:rEi 175 [vS a i j,vB d] w λc b=>R (vB (decide (0<=c))) b):ρ 84 [vS a i j,vB d] w R:=rv Tryz.func84 ⟨[],[],[],[]⟩ h
theorem wF(h:rE 172 [vP a] w λa b=>∃c d,a=Value.func (Fn.func c) (Array.mk []) (Array.mk d)/\rEs 181 [Value.func (Fn.func c) (Array.mk []) (Array.mk d)] b λc d e b=>R (vS c d e) b):ρ 89 [.pointer a] w R:=rv Tryz.func89 ⟨[],[],[],[]⟩ h
theorem bJ{d:FuncId}{e:List Value}(h:τ [(8,aN)] λb c=>b 0 w/\∀(_:ν) f g,b f g->bQ (f<(i:Int)) (idx a i f 1 λa=>∃h,World.cell? g a=some (iI h)/\oN (Proofs.YtaoaemnefghnbaaGreatDoor.Fn d) (rEb d (iI h::e) g λe d=>br e (R (iI f) d) (aD (f+1)/\b (f+1) d/\c (f+1) d<c f g))) (R (iI (-1)) g)):ρ 90 [vS a i j,(.func (.func d) #[] ⟨e⟩)] w R:=rv Tryz.func90 ⟨[(2,[(8,(.one (.int .i64)))])],[],[],[]⟩ h
def G5(a:Int)(b:ahr)(c d:Nat)(w:ahs)(R:Value->WP):Prop:=  aD ((if 1024<if a<0 then 0 else a then 1024 else if a<0 then 0 else a)+63)/\nz 64/\aD (Int.tdiv ((if 1024<if a<0 then 0 else a then 1024 else if a<0 then 0 else a)+63) 64)/\vd (Int.tdiv ((if 1024<if a<0 then 0 else a then 1024 else if a<0 then 0 else a)+63) 64) (Int.tdiv ((if 1024<if a<0 then 0 else a then 1024 else if a<0 then 0 else a)+63) 64) 8/\new w (Obj.cells (Array.mk (iX (Int.toNat (Int.tdiv ((if 1024<if a<0 then 0 else a then 1024 else if a<0 then 0 else a)+63) 64)) [Value.int IntKind.u64 0])) 419) λe f=>new f (oC [vS (some (aM e)) (Int.toNat (Int.tdiv ((if 1024<if a<0 then 0 else a then 1024 else if a<0 then 0 else a)+63) 64)) (Int.toNat (Int.tdiv ((if 1024<if a<0 then 0 else a then 1024 else if a<0 then 0 else a)+63) 64)),iI (if 1024<if a<0 then 0 else a then 1024 else if a<0 then 0 else a)] 356) λa e=>iK Tryz.prog Ev 103 [vP (some (aM a)),vS b c d] e λb c=>∃d,b=iI d/\R (vP (some (aM a))) c
theorem NU(a:Int)(b:ahr)(c d:Nat)(w:ahs)(R:Value->WP)(h:G5 a b c d w R):ρ 102 [iI a,vS b c d] w R:=rv Tryz.func102 ⟨[],[],[],[]⟩ h
theorem Dt(h:τ [(5,aN),(10,aN)] λc d=>c 0 0 w/\∀(_:ν) e f g,c e f g->bQ (f<(i:Int)) (idx b i f 1 λb=>∃h,World.cell? g b=some (iI h)/\bQ (0<=h) (rEi 171 [vP a] g λj i=>bQ (h<j) (nn a λb=>∃j k l,World.cell? i b=some (vS j k l)/\rEb 199 [vS j k l,iI h] i λj i=>br (!j) (nn a λa=>∃b j k,World.cell? i a=some (vS b j k)/\rE 200 [vS b j k,iI h] i λa b=>a=vU []/\aD (e+1)/\aD (f+1)/\c (e+1) (f+1) b/\d (e+1) (f+1) b<d e f g) (aD (f+1)/\c e (f+1) i/\d e (f+1) i<d e f g)) (aD (f+1)/\c e (f+1) i/\d e (f+1) i<d e f g)) (aD (f+1)/\c e (f+1) g/\d e (f+1) g<d e f g)) (R (iI e) g)):ρ 103 [.pointer a,vS b i j] w R:=rv Tryz.func103 ⟨[(3,[(5,(.one (.int .i64))),(10,(.one (.int .i64)))])],[],[],[]⟩ h
theorem iD(h:br (Option.isNone a) (R (vS none 0 0) w) (new w (oC [] 3) λb c=>rS (fX 24 (Array.mk [vS (some (aM b)) 0 0,vS a i j])) c λa b=>∃c d e,a=vS c d e/\R (vS c d e) b)):ρ 115 [vS a i j] w R:=rv Tryz.func115 ⟨[],[],[],[]⟩ h
theorem bV{d:FuncId}{e:List Value}(h:rEi 90 [vS a i j,Value.func (Fn.func d) (Array.mk []) (Array.mk e)] w λc b=>R (vB (decide (0<=c))) b):ρ 126 [vS a i j,(.func (.func d) #[] ⟨e⟩)] w R:=rv Tryz.func126 ⟨[],[],[],[]⟩ h
theorem Dv(h:new w (ψ a i j b k l c m n A d o p) λa b=>∃(c:lP [(57,Bw)]),(cLs b (aM a) λd e f=>br ((e:Int)==0) (c true b) (cLs b (aM a) λd e f=>idx d e 0 2 λd=>∃e f,rA b d 2 [Value.string e,iI f]/\∃d,Sem.run Tryz.prog (qH BinOp.neq 288 (Operand.tmp 20) (Operand.tmp 21) (vG [Value.string e,iI f]) (vG [Value.string (ByteArray.mk (Array.mk [])),iI 0])) b=Result.ok d b/\∃e,d=vB e/\br e (c true b) (cLs b (Addr.add (aM a) 1) λd e f=>bQ ((e:Int)<=B) (c true b) (cLs b (aM a) λd e f=>bQ (65<(e:Int)) (c true b) (cLs b (Addr.add (aM a) 1) λd e f=>aD (64+B)/\bQ (64+B<(e:Int)) (c true b) (cLs b (aM a) λd e f=>aD ((e:Int)-1)/\cLs b (Addr.add (aM a) 1) λd f g=>aD ((e:Int)-1+(f:Int))/\aD ((e:Int)-1+(f:Int)-B)/\c (decide (64<(e:Int)-1+(f:Int)-B)) b))))))/\∀(_:ν) b d,c b d->br b (R (vB false) d) (new d (Obj.map (Array.mk []) 0) λb c=>cLs c (aM a) λd e f=>lV d e f (some 1) none none 2 λ(d:ahr)(e _:Nat)=>τ [(5,lY),(63,aN)] λf g=>f none 0 0 0 c/\∀(_:ν) c h i j k,f c h i j k->bQ (j<(e:Int)) (idx d e j 2 λd=>∃e l,rA k d 2 [Value.string e,iI l]/\new k (oC [Value.string (ByteArray.mk (Array.mk [])),iI 0] 288) λd m=>bC m (aM d) [Value.string e,iI l] λe=>∃(l:lP [(83,Bw)]),(∃b,cL e (aM d) (Value.string b)/\rEb 236 [Value.string b] e λe c=>br (!e) (l true c) (cLi c (Addr.add (aM d) 1) λb=>bQ (b<0) (l true c) (cLi c (Addr.add (aM d) 1) λb=>cLs c (Addr.add (aM a) 2) λd e f=>l (decide ((e:Int)<b)) c)))/\∀(_:ν) a e,l a e->br a (R (vB false) e) (∃a,cL e (aM d) (Value.string a)/\new e (oC [Value.string a] 9) λa e=>rS (fX 23 (Array.mk [vS c h i,vS (some (aM a)) 1 1])) e λa e=>∃l m n,a=vS l m n/\cLi e (Addr.add (aM d) 1) λa=>aX Tryz.prog (Instr.mapUpdate 276 (Value.map (some b)) (iI a) (iI 1)) e λ(_:Unit)(a:ahs)=>aD (j+1)/\f l m n (j+1) a/\g l m n (j+1) a<g c h i j k)) (cLs k (Addr.add (aM a) 2) λd e f=>τ [(96,aN)] λf g=>f 0 k/\∀(_:ν) j k,f j k->bQ (j<(e:Int)) (idx d e j 1 λa=>cLi k a λc=>bQ (c<1) (R (vB false) k) (bQ (3<c) (R (vB false) k) (aD (j+1)/\aX Tryz.prog (Instr.lookup 276 (Value.map (some b)) (iI (j+1)) false) k λa b=>∃c,a=iI c/\br (c==0) (R (vB false) b) (aD (j+1)/\f (j+1) b/\g (j+1) b<g j k)))) (cLs k (Addr.add (aM a) 1) λb d e=>lV b d e (some B) none none 1 λ(a:ahr)(b d:Nat)=>rEb 254 [vS c h i] k λf e=>br f (rEb 254 [vS a b d] e λf e=>br f (rEb 255 [vS a b d,Value.func (Fn.func 256) (Array.mk []) (Array.mk [])] e λc b=>R (vB !c) b) (R (vB false) e)) (R (vB false) e))))):ρ 164 [φ a i j b k l c m n A d o p,iI B] w R:=rv Tryz.func164 ⟨[(6,[(5,(.one .slice)),(63,(.one (.int .i64)))]),(14,[(96,(.one (.int .i64)))])],[(2,[(57,(.one .bool))]),(9,[(83,(.one .bool))])],[],[]⟩ h
theorem wI(h:new w (ψ a i j b k l c m n A d o p) λa b=>∃(c:lP [(25,Bw)]),(cLs b (Addr.add (aM a) 4) λd e f=>bQ ((e:Int)<=B) (c true b) (cLs b (Addr.add (aM a) 4) λd e f=>aD (96+B)/\c (decide (96+B<(e:Int))) b))/\∀(_:ν) b d,c b d->br b (R (vU [vS none 0 0,vB false]) d) (cLs d (aM a) λb c e=>cLs d (Addr.add (aM a) 1) λb e f=>aD ((c:Int)+(e:Int))/\cLs d (aM a) λb f g=>aD ((f:Int)+B)/\cLs d (Addr.add (aM a) 4) λb g h=>lV b g h (some B) none none 3 λ(b:ahr)(g _:Nat)=>τ [(8,lY),(43,aN)] λh i=>h none 0 0 0 d/\∀(_:ν) d j k l m,h d j k l m->bQ (l<(g:Int)) (idx b g l 3 λb=>∃g n o p q,rA m b 3 [iI g,vS n o p,iI q]/\new m (oC [iI 0,vS none 0 0,iI 0] 134) λb r=>bC r (aM b) [iI g,vS n o p,iI q] λg=>∃(n:lP [(69,Bw)]),(cLi g (aM b) λd=>bQ (d<(f:Int)+B) (n true g) (cLi g (aM b) λd=>bQ ((c:Int)+(e:Int)<=d) (n true g) (cLi g (Addr.add (aM b) 2) λc=>bQ (c<0) (n true g) (cLi g (Addr.add (aM b) 2) λc=>cLs g (Addr.add (aM a) 2) λb d e=>n (decide ((d:Int)<c)) g))))/\∀(_:ν) g o,n g o->br g (R (vU [vS none 0 0,vB false]) o) (cLs o (Addr.add (aM b) 1) λg n p=>τ [(73,aN)] λp q=>p 0 o/\∀(_:ν) o r,p o r->bQ (o<(n:Int)) (idx g n o 1 λb=>cLi r b λd=>bQ (d<1) (R (vU [vS none 0 0,vB false]) r) (bQ ((c:Int)+(e:Int)<=d) (R (vU [vS none 0 0,vB false]) r) (cLs r (aM a) λb c e=>bQ ((c:Int)<=d) (bQ (d<(f:Int)+B) (R (vU [vS none 0 0,vB false]) r) (aD (o+1)/\p (o+1) r/\q (o+1) r<q o r)) (aD (o+1)/\p (o+1) r/\q (o+1) r<q o r)))) (cLi r (aM b) λa=>rEb 257 [vS d j k,iI a] r λe c=>br (!e) (cLi c (aM b) λa=>new c (oC [iI a] 3) λa b=>rS (fX 24 (Array.mk [vS d j k,vS (some (aM a)) 1 1])) b λa b=>∃c e f,a=vS c e f/\aD (l+1)/\h c e f (l+1) b/\i c e f (l+1) b<i d j k l m) (aD (l+1)/\h d j k (l+1) c/\i d j k (l+1) c<i d j k l m)))) (∀b,drawn m b->∃(g:WP),g b/\∃h i l,(∀b,g b->cL b (Addr.add (aM a) 1) (vS h i l))/\aD ((i:Int)-B)/\br ((j:Int)==(i:Int)-B) (∃h,(∀b,g b->cL b (Addr.add (aM a) 3) (iI h))/\bQ ((f:Int)+B<=h) (∃f,(∀b,g b->cL b (Addr.add (aM a) 3) (iI f))/\R (vU [vS d j k,vB (decide (f<(c:Int)+(e:Int)))]) b) (R (vU [vS d j k,vB false]) b)) (R (vU [vS d j k,vB false]) b)))):ρ 165 [φ a i j b k l c m n A d o p,iI B] w R:=rv Tryz.func165 ⟨[(7,[(8,(.one .slice)),(43,(.one (.int .i64)))]),(12,[(73,(.one (.int .i64)))])],[(2,[(25,(.one .bool))]),(10,[(69,(.one .bool))])],[],[]⟩ h
theorem G8(h:new w (ψ a i j b k l c m n A d o p) λa b=>χ b (aM a) λc=>rEb 164 [c,iI 0] b λd c=>br (!d) (R (vB false) c) (χ c (aM a) λa=>rE 165 [a,iI 0] c λa b=>∃c d e f,a=vU [vS c d e,vB f]/\br f (rEb 258 [vS c d e] b λc b=>R (vB c) b) (R (vB false) b))):ρ 166 [φ a i j b k l c m n A d o p] w R:=rv Tryz.func166 ⟨[],[],[],[]⟩ h
theorem Dx(h:bQ (0<=A) (rEi 171 [vP a] w λd c=>bQ (A<d) (nn a λa=>∃b d e,World.cell? c a=some (vS b d e)/\rEb 199 [vS b d e,iI A] c λc b=>R (vB c) b) (R (vB false) c)) (R (vB false) w)):ρ 168 [.pointer a,iI A] w R:=rv Tryz.func168 ⟨[],[],[],[]⟩ h
theorem jc(h:br (Option.isNone a) (R (vS none 0 0) w) (new w (oC [] 288) λb c=>rS (fX 22 (Array.mk [vS (some (aM b)) 0 0,vS a i j])) c λa b=>∃c d e,a=vS c d e/\R (vS c d e) b)):ρ 170 [vS a i j] w R:=rv Tryz.func170 ⟨[],[],[],[]⟩ h
theorem ql(h:br (Option.isNone a) (R (iI 0) w) (nn a λa=>∃b,World.cell? w (a.add 1)=some (iI b)/\R (iI b) w)):ρ 171 [.pointer a] w R:=rv Tryz.func171 ⟨[],[],[],[]⟩ h
theorem Dz(h:new w (oC [vS none 0 0] 354) λb c=>br (!Option.isNone a) (nn a λa=>∃d e f,World.cell? c a=some (vS d e f)/\rEs 263 [vS d e f] c λd e f c=>st1 c (aM b) (vS d e f) λa=>R (Value.func (Fn.func 264) (Array.mk []) (Array.mk [vP (some (aM b))])) a) (R (Value.func (Fn.func 264) (Array.mk []) (Array.mk [vP (some (aM b))])) c)):ρ 172 [.pointer a] w R:=rv Tryz.func172 ⟨[],[],[],[]⟩ h
theorem nV{a:ahr}{b c:Nat}{d:Bool}{w:ahs}{R:Value->WP}(h:τ [(8,aN)] λc e=>c 0 w/\∀(_:ν) f g,c f g->bQ (f<(b:Int)) (idx a b f 1 λa=>∃b,World.cell? g a=some (vB b)/\br (d==b) (R (iI f) g) (aD (f+1)/\c (f+1) g/\e (f+1) g<e f g)) (R (iI (-1)) g)):ρ 175 [vS a b c,vB d] w R:=rv Tryz.func175 ⟨[(2,[(8,(.one (.int .i64)))])],[],[],[]⟩ h
theorem jH(h:lV a i j none (some (i:Int)) (some (i:Int)) 2 λ(a:ahr)(b c:Nat)=>R (vS a b c) w):ρ 176 [vS a i j] w R:=rv Tryz.func176 ⟨[],[],[],[]⟩ h
theorem me(h:lV a i j none (some (i:Int)) (some (i:Int)) 1 λ(a:ahr)(b c:Nat)=>R (vS a b c) w):ρ 177 [vS a i j] w R:=rv Tryz.func177 ⟨[],[],[],[]⟩ h
theorem lE(h:br (Option.isNone a) (R (vS none 0 0) w) (new w (oC [] 9) λb c=>rS (fX 23 (Array.mk [vS (some (aM b)) 0 0,vS a i j])) c λa b=>∃c d e,a=vS c d e/\R (vS c d e) b)):ρ 178 [vS a i j] w R:=rv Tryz.func178 ⟨[],[],[],[]⟩ h
theorem r_{a:FuncId}{b:List Value}(h:rEs 269 [vS none 0 0,Value.func (Fn.func a) (Array.mk []) (Array.mk b)] w λc d e b=>R (vS c d e) b):ρ 181 [(.func (.func a) #[] ⟨b⟩)] w R:=rv Tryz.func181 ⟨[],[],[],[]⟩ h
theorem oP(h:nz 64/\aD (Int.tdiv A 64)/\idx a i (Int.tdiv A 64) 1 λa=>∃b,World.cell? w a=some (Value.int IntKind.u64 b)/\nz 64/\ns (Int.tmod A 64)/\R (vB (oM BinOp.and IntKind.u64 (aZ IntKind.u64 b (Int.tmod A 64)) 1==1)) w):ρ 199 [vS a i j,iI A] w R:=rv Tryz.func199 ⟨[],[],[],[]⟩ h
theorem Ad(h:∀b,drawn w b->∃(c:WP),c b/\nz 64/\aD (Int.tdiv A 64)/\idx a i (Int.tdiv A 64) 1 λd=>∃e,(∀a,c a->World.cell? a d=some (Value.int IntKind.u64 e))/\nz 64/\ns (Int.tmod A 64)/\idx a i (Int.tdiv A 64) 1 λa=>st1 b a (Value.int IntKind.u64 (oM BinOp.or IntKind.u64 e (VD IntKind.u64 1 (Int.tmod A 64)))) λa=>R (vU []) a):ρ 200 [vS a i j,iI A] w R:=rv Tryz.func200 ⟨[],[],[],[]⟩ h
def wJ(a:ByteArray)(w:ahs)(R:Value->WP):Prop:=  br (!ByteArray.toList a==ByteArray.toList (ByteArray.mk (Array.mk []))) (br (decide ((↑(ByteArray.size a):Int)<=16)) (iK Tryz.prog Ev 319 [Value.string a,Value.func (Fn.func 320) (Array.mk []) (Array.mk [])] w λa b=>∃c,a=iI c/\R (vB (decide (c<0))) b) (R (vB false) w)) (R (vB false) w)
theorem Fk(a:ByteArray)(w:ahs)(R:Value->WP)(h:wJ a w R):ρ 236 [.string a] w R:=rv Tryz.func236 ⟨[],[],[],[]⟩ h
def wK(a:ByteArray)(w:ahs)(R:Value->WP):Prop:=  τ [(7,aN)] λb c=>b 0 w/\∀(_:ν) d e,b d e->br (decide (d<(↑(ByteArray.size a):Int))) (inS d (ByteArray.size a)/\br ((↑(UInt8.toNat (sb a (Int.toNat d))):Int) !=95) (br (decide (oM BinOp.or IntKind.u8 (↑(UInt8.toNat (sb a (Int.toNat d))):Int) 32<97)) (br (d==0) (R (vB false) e) (br (decide ((↑(UInt8.toNat (sb a (Int.toNat d))):Int)<48)) (R (vB false) e) (br (decide (57<(↑(UInt8.toNat (sb a (Int.toNat d))):Int))) (R (vB false) e) (aD (d+1)/\b (d+1) e/\c (d+1) e<c d e)))) (br (decide (122<oM BinOp.or IntKind.u8 (↑(UInt8.toNat (sb a (Int.toNat d))):Int) 32)) (br (d==0) (R (vB false) e) (br (decide ((↑(UInt8.toNat (sb a (Int.toNat d))):Int)<48)) (R (vB false) e) (br (decide (57<(↑(UInt8.toNat (sb a (Int.toNat d))):Int))) (R (vB false) e) (aD (d+1)/\b (d+1) e/\c (d+1) e<c d e)))) (aD (d+1)/\b (d+1) e/\c (d+1) e<c d e))) (aD (d+1)/\b (d+1) e/\c (d+1) e<c d e)) (br (!ByteArray.toList a==ByteArray.toList (ByteArray.mk (Array.mk []))) (R (vB (decide ((↑(ByteArray.size a):Int)<=16))) e) (R (vB false) e))
theorem Fm(a:ByteArray)(w:ahs)(R:Value->WP)(h:wK a w R):ρ 240 [.string a] w R:=rv Tryz.func240 ⟨[(2,[(7,(.one (.int .i64)))])],[],[],[]⟩ h
theorem jJ(h:lV a i j none (some (i:Int)) (some (i:Int)) 3 λ(a:ahr)(b c:Nat)=>R (vS a b c) w):ρ 253 [vS a i j] w R:=rv Tryz.func253 ⟨[],[],[],[]⟩ h
theorem Fp(h:new w (Obj.map (Array.mk []) 0) λb c=>τ [(9,aN)] λd e=>d 0 c/\∀(_:ν) c f,d c f->bQ (c<(i:Int)) (idx a i c 1 λa=>∃g,cL f a (Value.string g)/\aX Tryz.prog (Instr.lookup 188 (Value.map (some b)) (Value.string g) false) f λa h=>∃i,a=iI i/\aD (i+1)/\aX Tryz.prog (Instr.mapUpdate 188 (Value.map (some b)) (Value.string g) (iI (i+1))) h λ(_:Unit)(a:ahs)=>aD (c+1)/\d (c+1) a/\e (c+1) a<e c f) (∃a,Sem.run Tryz.prog (Builtin.len_ (Array.mk [188]) 3 (Array.mk [Value.map (some b)])) f=Result.ok a f/\∃b,a=iI b/\R (vB (b==(i:Int))) f)):ρ 254 [vS a i j] w R:=rv Tryz.func254 ⟨[(3,[(9,(.one (.int .i64)))])],[],[],[]⟩ h
theorem gP{d:FuncId}{e:List Value}(h:rEi 322 [vS a i j,Value.func (Fn.func d) (Array.mk []) (Array.mk e)] w λc b=>R (vB (decide (0<=c))) b):ρ 255 [vS a i j,(.func (.func d) #[] ⟨e⟩)] w R:=rv Tryz.func255 ⟨[],[],[],[]⟩ h
abbrev kK:FuncId:=256
theorem yN{a:ByteArray}(h:rEb 240 [Value.string a] w λc b=>R (vB !c) b):ρ 256 [.string a] w R:=rv Tryz.func256 ⟨[],[],[],[]⟩ h
theorem nw(h:rEi 323 [vS a i j,iI A] w λc b=>R (vB (decide (0<=c))) b):ρ 257 [vS a i j,iI A] w R:=rv Tryz.func257 ⟨[],[],[],[]⟩ h
theorem nA(h:aD ((i:Int)-1)/\τ [(3,aN)] λb c=>b ((i:Int)-1) w/\∀(_:ν) d e,b d e->bQ (0<d) (∀f,drawn e f->∃(g:WP),g f/\idx a i d 1 λh=>∃j,(∀a,g a->World.cell? a h=some (iI j))/\aD (d-1)/\idx a i (d-1) 1 λa=>∃h,(∀b,g b->World.cell? b a=some (iI h))/\rEb 277 [iI j,iI h] f λg f=>br g (R (vB false) f) (aD (d-1)/\b (d-1) f/\c (d-1) f<c d e)) (R (vB true) e)):ρ 258 [vS a i j] w R:=rv Tryz.func258 ⟨[(2,[(3,(.one (.int .i64)))])],[],[],[]⟩ h
theorem je(h:br (Option.isNone a) (R (vS none 0 0) w) (new w (oC [] 419) λb c=>rS (fX 354 (Array.mk [vS (some (aM b)) 0 0,vS a i j])) c λa b=>∃c d e,a=vS c d e/\R (vS c d e) b)):ρ 263 [vS a i j] w R:=rv Tryz.func263 ⟨[],[],[],[]⟩ h
abbrev qo:FuncId:=264
def nJ:aW:={ rngs:=[],loops:=[(1,[(7,(.one (.int .i64)))]),(3,[(4,(.one (.int .u64)))])],joins:=[],blocks:=[] }
def mH(E:ahs->ahs->Prop)(p0yield:Nat)(c0:Addr)(w:ahs)(R:Value->ahs->Prop):Prop:=  ∃a b c,World.cell? w c0=some (vS a b c)/\τ [(7,aN)] λc d=>c 0 w/\∀(_:ν) e f,c e f->br (decide (e<(↑b:Int))) (idx a b e 1 λa=>∃b,World.cell? f a=some (Value.int IntKind.u64 b)/\τ [(4,S1.one (Cs.int IntKind.u64))] λa g=>a b f/\∀(_:ν) b h,a b h->br (b !=0) (aD (64*e)/\iK Tryz.prog E 265 [Value.int IntKind.u64 b] h λc d=>∃f,c=iI f/\aD (64*e+f)/\yld Tryz.prog E p0yield [iI (64*e+f)] d λc d=>∃e,c=vB e/\br (!e) (R (vT (Array.mk [])) d) (a (oM BinOp.and IntKind.u64 b (IntKind.wrap IntKind.u64 (b-1))) d/\g (oM BinOp.and IntKind.u64 b (IntKind.wrap IntKind.u64 (b-1))) d<g b h)) (aD (e+1)/\c (e+1) h/\d (e+1) h<d e f)) (R (vT (Array.mk [])) f)
theorem vh(E:ahs->ahs->Prop)(p0yield:Nat)(c0:Addr)(hE:Jg E)(w:ahs)(R:Value->ahs->Prop)(h:mH E p0yield c0 w R):iK Tryz.prog E 264 [(.func (.yield p0yield) #[] #[]),(.pointer (some c0))] w R:=
 ZD aT V9 mixed Tryz.func264 nJ hE (by kernel_rfl) ((by kernel_rfl:Zk Tryz.prog Ty Fn E nJ Tryz.f264 [(.func (.yield p0yield) #[] #[]),(.pointer (some c0))] w R=mH E p0yield c0 w R)▸h)
theorem mK(h:br (A==0) (R (iI 64) w) (ns 58/\idx (some (aM 0)) 64 (aZ IntKind.u64 (IntKind.wrap IntKind.u64 (oM BinOp.and IntKind.u64 A (IntKind.wrap IntKind.u64 (0-A))*285870213051353865)) 58) 1 λa=>∃b,World.cell? w a=some (Value.int IntKind.u8 b)/\aD b/\R (iI b) w)):ρ 265 [.int .u64 A] w R:=rv Tryz.func265 ⟨[],[],[],[]⟩ h
theorem mM{d:FuncId}{e:List Value}(h:new w (oC [vS a i j] 24) λa b=>oN (Proofs.YtaoaemnefghnbaaGreatDoor.Fn d) (∃(c:List (List Value)),∃(f:aC),∃(g:aC),∃(h:Nat->aC),∃(i:aC),∃(_:Nat->aC),∃(j:List aC),St b (h 0::f::j)/\(∀(a:Hp),aG j a->g a)/\Zj Tryz.prog d [] e f g c/\(∀(a:List Value),a∈c->∃b,a=[iI b])/\(∀(b:Nat)(d:Int),List.get?Internal c b=some [iI d]->∀(c:List aC)(e:ahs),Nt c j->St e (h b::c)->∃(f:aC),St e (f::c)/\∀(c:List aC)(e:ahs),Nt c j->St e (f::c)->∃f g i,World.cell? e (aM a)=some (vS f g i)/\new e (oC [iI d] 3) λd e=>rS (fX 24 (Array.mk [vS f g i,vS (some (aM d)) 1 1])) e λd e=>∃f g i,d=vS f g i/\st1 e (aM a) (vS f g i) λa=>St a (h (b+1)::c))/\(∀(b:ahs),St b (h (List.length c)::f::j)->∃c d e,World.cell? b (aM a)=some (vS c d e)/\∀(a:ahs),hp a=hp b->R (vS c d e) a)/\(∀(a:ahs),St a (i::f::j)->∀(b:ahs),hp b=hp a->R (vS none 0 0) b)/\True)):ρ 269 [vS a i j,(.func (.func d) #[] ⟨e⟩)] w R:=rv Tryz.func269 ⟨[],[],[],[(2,[(7,(.one (.int .i64)))])]⟩ h
theorem BA(h:rEb 283 [iI A] w λc b=>br c (rEb 283 [iI B] b λc b=>br (!c) (R (vB true) b) (R (vB (decide (A<B))) b)) (R (vB (decide (A<B))) b)):ρ 277 [iI A,iI B] w R:=rv Tryz.func277 ⟨[],[],[],[]⟩ h
theorem oU(h:R (vB (A !=A)) w):ρ 283 [iI A] w R:=rv Tryz.func283 ⟨[],[],[],[]⟩ h
theorem gT(h:new w (oC [iI A,iI B] 193) λb c=>∃d e,rowAt c (aM b) 0 2=some [iI d,iI e]/\rEi 356 [vS a i j,vG [iI d,iI e]] c λc b=>R (vB (decide (0<=c))) b):ρ 297 [vS a i j,(.agg #[iI A,iI B])] w R:=rv Tryz.func297 ⟨[],[],[],[]⟩ h
theorem vj{a:ByteArray}{b:FuncId}{c:List Value}(h:rEi 370 [Value.string a,Value.func (Fn.func b) (Array.mk []) (Array.mk c),vB true] w λc b=>R (iI c) b):ρ 319 [.string a,(.func (.func b) #[] ⟨c⟩)] w R:=rv Tryz.func319 ⟨[],[],[],[]⟩ h
abbrev mf:FuncId:=320
theorem Ag(h:bQ (A<32) (R (vB true) w) (bQ (126<A) (R (vB true) w) (R (vB (A==39)) w))):ρ 320 [.int .i32 A] w R:=rv Tryz.func320 ⟨[],[],[],[]⟩ h
theorem jg{d:FuncId}{e:List Value}(h:τ [(8,aN)] λb c=>b 0 w/\∀(_:ν) f g,b f g->bQ (f<(i:Int)) (idx a i f 1 λa=>∃h,World.cell? g a=some (Value.string h)/\oN (Proofs.YtaoaemnefghnbaaGreatDoor.Fn d) (rEb d (Value.string h::e) g λe d=>br e (R (iI f) d) (aD (f+1)/\b (f+1) d/\c (f+1) d<c f g))) (R (iI (-1)) g)):ρ 322 [vS a i j,(.func (.func d) #[] ⟨e⟩)] w R:=rv Tryz.func322 ⟨[(2,[(8,(.one (.int .i64)))])],[],[],[]⟩ h
theorem pY(h:τ [(8,aN)] λb c=>b 0 w/\∀(_:ν) d e,b d e->bQ (d<(i:Int)) (idx a i d 1 λa=>∃f,World.cell? e a=some (iI f)/\br (A==f) (R (iI d) e) (aD (d+1)/\b (d+1) e/\c (d+1) e<c d e)) (R (iI (-1)) e)):ρ 323 [vS a i j,iI A] w R:=rv Tryz.func323 ⟨[(2,[(8,(.one (.int .i64)))])],[],[],[]⟩ h
theorem Ai(h:new w (oC [vP a] 178) λa c=>new c (oC [iI 0] 3) λc d=>st1 d (aM c) (iI 0) λd=>τ [(11,aN)] λe f=>e 0 d/\∀(_:ν) d g,e d g->bQ (d<(i:Int)) (idx b i d 1 λb=>∃h,World.cell? g b=some (vP h)/\rE 172 [vP h] g λb h=>∃i j,b=Value.func (Fn.func i) (Array.mk []) (Array.mk j)/\oN (Proofs.YtaoaemnefghnbaaGreatDoor.Fn i) (∃(b:List (List Value)),∃(k:aC),∃(l:aC),∃(m:Nat->aC),∃(n:aC),∃(_:Nat->aC),∃(o:List aC),St h (m 0::k::o)/\(∀(a:Hp),aG o a->l a)/\Zj Tryz.prog i [] j k l b/\(∀(a:List Value),a∈b->∃b,a=[iI b])/\(∀(d:Nat)(e:Int),List.get?Internal b d=some [iI e]->∀(b:List aC)(f:ahs),Nt b o->St f (m d::b)->∃(g:aC),St f (g::b)/\∀(b:List aC)(f:ahs),Nt b o->St f (g::b)->∀g,drawn f g->∃(f:WP),f g/\∃h,(∀a,f a->World.cell? a (aM c)=some (iI h))/\∃i,(∀b,f b->World.cell? b (aM a)=some (vP i))/\new g (oC [iI e] 3) λa e=>f e/\rEi 103 [vP i,vS (some (aM a)) 1 1] e λg e=>f e/\aD (h+g)/\st1 e (aM c) (iI (h+g)) λa=>St a (m (d+1)::b))/\(∀(a:ahs),St a (m (List.length b)::k::o)->aD (d+1)/\e (d+1) a/\f (d+1) a<f d g)/\(∀(a:ahs),St a (n::k::o)->∀(b:ahs),hp b=hp a->R (iI 0) b)/\True)) (∃a,World.cell? g (aM c)=some (iI a)/\∀(b:ahs),hp b=hp g->R (iI a) b)):ρ 349 [.pointer a,vS b i j] w R:=rv Tryz.func349 ⟨[(3,[(11,(.one (.int .i64)))])],[],[],[(6,[(17,(.one (.int .i64)))])]⟩ h
theorem ji(h:new w (oC [iI A,iI B] 193) λb c=>τ [(8,aN)] λd e=>d 0 c/\∀(_:ν) c f,d c f->bQ (c<(i:Int)) (∀g,drawn f g->∃(h:WP),h g/\∃j k,(∀a,h a->rowAt a (aM b) 0 2=some [iI j,iI k])/\idx a i c 2 λa=>∃b i,(∀c,h c->rowAt c a 0 2=some [iI b,iI i])/\∃a,(∀c,h c->Sem.run Tryz.prog (qH BinOp.eql 193 (Operand.tmp 11) (Operand.tmp 15) (vG [iI j,iI k]) (vG [iI b,iI i])) c=Result.ok a c)/\∃b,a=vB b/\br b (R (iI c) g) (aD (c+1)/\d (c+1) g/\e (c+1) g<e c f)) (R (iI (-1)) f)):ρ 356 [vS a i j,(.agg #[iI A,iI B])] w R:=rv Tryz.func356 ⟨[(2,[(8,(.one (.int .i64)))])],[],[],[]⟩ h
theorem vl{a:ByteArray}{b:FuncId}{c:List Value}{d:Bool}(h:aX Tryz.prog (Instr.range 9 (Value.string a)) w λa e=>∃f,a=vP f/\τ [] λa g=>a e/\∀(_:ν) e,a e->aX Tryz.prog (Instr.next (vP f) true 0) e λf h=>f=vU [vB false]/\R (iI (-1)) h\/∃i j,f=vU [vB true,iI i,Value.int IntKind.i32 j]/\oN (Proofs.YtaoaemnefghnbaaGreatDoor.Fn b) (rEb b (Value.int IntKind.i32 j::c) h λf c=>br (f==d) (R (iI i) c) (a c/\g c<g e))):ρ 370 [.string a,(.func (.func b) #[] ⟨c⟩),vB d] w R:=rv Tryz.func370 ⟨[(2,[])],[],[],[]⟩ h
theorem jL{d:FuncId}{e:List Value}(h:rEi 394 [vS a i j,Value.func (Fn.func d) (Array.mk []) (Array.mk e)] w λc b=>R (vB (decide (0<=c))) b):ρ 380 [vS a i j,(.func (.func d) #[] ⟨e⟩)] w R:=rv Tryz.func380 ⟨[],[],[],[]⟩ h
theorem lH{d:FuncId}{e:List Value}(h:τ [(8,aN)] λb c=>b 0 w/\∀(_:ν) f g,b f g->bQ (f<(i:Int)) (idx a i f 1 λa=>∃h i j,World.cell? g a=some (vS h i j)/\oN (Proofs.YtaoaemnefghnbaaGreatDoor.Fn d) (rEb d (vS h i j::e) g λe d=>br e (R (iI f) d) (aD (f+1)/\b (f+1) d/\c (f+1) d<c f g))) (R (iI (-1)) g)):ρ 394 [vS a i j,(.func (.func d) #[] ⟨e⟩)] w R:=rv Tryz.func394 ⟨[(2,[(8,(.one (.int .i64)))])],[],[],[]⟩ h
end
section
variable{P:Program}{w w':ahs}{L:List aC}{b:Nat}{vs:List Value}
theorem gE{sz l c j:Nat}{a:ahr}{ad:Addr}{v:Value}{k:ahs->Prop}(h:St w (own sz a l c vs::L))(ha:a=some ad)(hj:j<vs.length)
  (hk:∀w',St w' (own sz a l c (vs.set j v)::L)->k w') (hv:aK v=true:=by rfl):st1 w (ad.add j) v k:=by
 rcases dq h with⟨rfl,_⟩|⟨b,O,cs,u,rfl,h,V,U,J⟩
 ·cases ha
 ·cases ha;rw[add_lit];refine aR h (by grind) (λw' h'=>?_) hv;rw[agS _ _ ω,agy,List.set_append_left _ _ hj] at h';refine hk w' (fj h' (by simp_all) (by simp_all) J)
theorem ay{a:ahr}{ad:Addr}{len i:Nat}{k:Addr->Prop}(ha:a=some ad)(hi:i<len)(hk:k (ad.add i)):idx a len (i:Int) 1 k:=
 ⟨ad,ha,ω,ω,by simpa[eV] using hk⟩
theorem eE{sz l c:Nat}{a:ahr}(h:St w (own sz a l c vs::L))(hl:0<vs.length):∃ad,a=some ad:=by
 rcases dq h with⟨rfl,_,_,rfl⟩|⟨b,J,cs,u,rfl,_⟩
 ·simp_all
 simp
theorem qp{sz l c:Nat}{a:ahr}{ad:Addr}(h:St w (own sz a l c vs::L))(ha:a=some ad){j:Nat}{v:Value}(hj:vs[j]? =some v):w.cell? (ad.add j)=some v:=by grind[cH]
theorem gU(h:drawn w w'):hp w'=hp w:=by unfold drawn at h;subst h;rfl
theorem St.drawn(h:St w L)(hd:Proofs.YtaoaemnefghnbaaGreatDoor.drawn w w'):St w' L:=h.eq (gU hd)
end
def cw(ws:List Nat):List Value:=ws.map λ(n:Nat)=>Value.int .u64 (n:Int)
def mem(ws:List Nat)(k:Nat):Bool:=(ws.getD (k/64) 0).testBit (k%64)
structure Inv(n:Nat)(ws:List Nat)(m:Nat->Bool):Prop where
 len:ws.length=(n+63)/64
 le:n<=1024
 lt:∀x∈ws,x<2^64
 mm:∀k,m k=mem ws k
 out:∀k,n<=k->m k=false
def BB(p:ahr)(n:Nat)(m:Nat->Bool):aC:=λh=>
 (p=none/\n=0/\m=λ_=>false)\/
 ∃b a c ws,p=some ⟨b,0,none⟩/\Inv n ws m/\aG [az b [vS a ws.length c,iI (n:Int)],own 1 a ws.length c (cw ws)] h
section
variable{w w':ahs}{L:List aC}{p:ahr}{n:Nat}{m:Nat->Bool}
theorem mg(h:St w (BB p n m::L)):(p=none/\n=0/\(m=λ_=>false)/\St w L)\/
  ∃b a c ws,p=some ⟨b,0,none⟩/\Inv n ws m/\St w (az b [vS a ws.length c,iI (n:Int)]::own 1 a ws.length c (cw ws)::L):=by
 have ht:=h.tail;obtain⟨V,U,d,s1,s2,ha,hl⟩:=h
 rcases ha with⟨J,u,O⟩|⟨b,a,c,ws,J,u,O⟩
 ·simp_all
 ·exact .inr ⟨b,a,c,ws,J,u,St.flat.1 (show St w (aV [_,_]::L) from⟨V,U,d,s1,s2,O,hl⟩)⟩
theorem Sm{b:Nat}{a:ahr}{c:Nat}{ws:List Nat}(hi:Inv n ws m)(h:St w (az b [vS a ws.length c,iI (n:Int)]::own 1 a ws.length c (cw ws)::L)):St w (BB (some ⟨b,0,none⟩) n m::L):=
 (St.flat.2 (show St w ([_,_]++L) from h)).head λh ha=>.inr ⟨b,a,c,ws,rfl,hi,ha⟩
theorem V_(h:St w (BB p n m::L)){k:Nat}(hk:n<=k):m k=false:=by
 rcases mg h with⟨_,_,rfl,_⟩|⟨_,_,_,_,_,hi,_⟩
 ·rfl
 ·exact hi.out k hk
theorem ZI(h:St w (BB p n m::L)):n<=1024:=by
 rcases mg h with⟨_,rfl,_,_⟩|⟨_,_,_,_,_,hi,_⟩
 ·omega
 ·exact hi.le
end
section
variable{w:ahs}{L:List aC}{a:ahr}{c:Nat}{ws:List Nat}{p:ahr}{n:Nat}{m:Nat->Bool}
theorem LD{ws:List Nat}{j:Nat}(h:j<ws.length):(cw ws)[j]? =some (.int .u64 ((ws.getD j 0:Nat):Int)):=by grind[cw]
theorem BC{ws:List Nat}(hl:∀x∈ws,x<2^64)(j:Nat):ws.getD j 0<2^64:=by grind[List.getElem?_eq_getElem,List.getElem_mem,List.getElem?_eq_none]
theorem Qw:nz 64:=by simp[nz]
theorem BD{k:Nat}(h:k<9223372036854775807):aD (k:Int):=⟨ω,ω⟩
theorem NV(h:St w (own 1 a ws.length c (cw ws)::L))(hlt:∀x∈ws,x<2^64){k:Nat}(hk:k/64<ws.length)(hb:k<4096):
  ρ 199 [vS a ws.length c,iI (k:Int)] w λv w'=>v=vB (mem ws k)/\w'=w:=by
 refine oP ?_;obtain⟨J,rfl⟩:=eE h (by grind[cw]);have u:=qp h rfl (LD hk)
 refine⟨Qw,?_,?_⟩
 ·grind[z7,BD]
 ·rw[z7,Qv]
  refine ay rfl hk ⟨_,u,Qw,?_,?_,rfl⟩
  ·show(0:Int)<=_;omega
  ·rw[NR (BC hlt _) (Nat.mod_lt _ ω)];rfl
theorem mem_set{ws:List Nat}{k r:Nat}(hk:k/64<ws.length)(j:Nat):mem (ws.set (k/64) r) j=if j/64=k/64 then r.testBit (j%64) else mem ws j:=by
 unfold mem
 grind
theorem ack{ws:List Nat}{i r:Nat}:(cw ws).set i (.int .u64 (r:Int))=cw (ws.set i r):=by simp[cw]
theorem NW(h:St w (own 1 a ws.length c (cw ws)::L))(hlt:∀x∈ws,x<2^64){k:Nat}(hk:k/64<ws.length)(hb:k<4096):
  ρ 200 [vS a ws.length c,iI (k:Int)] w λv w'=>v=.tuple #[]/\∃ws',ws'.length=ws.length/\(∀x∈ws',x<2^64)/\(∀j,mem ws' j=(mem ws j||j==k))/\St w' (own 1 a ws.length c (cw ws')::L):=by
 refine Ad ?_;intro w1 V;have W:=h.drawn V;obtain⟨Z,rfl⟩:=eE h (by grind[cw]);have X:=λu(e:hp u=hp w)=>qp (h.eq e) rfl (LD hk)
 refine⟨λu=>hp u=hp w,gU V,Qw,?_,?_⟩
 ·grind[z7,BD]
 ·rw[z7,Qv]
  refine ay rfl hk ⟨_,X,Qw,?_,ay rfl hk ?_⟩
  ·show(0:Int)<=_;omega
  ·have J:k%64<64:=Nat.mod_lt _ ω;rw[V7 J,ZF (BC hlt _) (Nat.pow_lt_pow_right ω J)];refine gE W rfl (by simp_all[cw]) λY U=>?_;rw[ack] at U
   refine⟨rfl,_,σ,λx O=>?_,λj=>?_,U⟩
   ·rcases List.mem_or_eq_of_mem_set O with O|rfl
    ·simp_all
    ·exact Nat.or_lt_two_pow (BC hlt _) (Nat.pow_lt_pow_right ω J)
   grind[mem_set,mem]
theorem acm(h:St w (BB p n m::L)):ρ 171 [.pointer p] w λv w'=>v=iI (n:Int)/\w'=w:=by
 refine ql ?_
 rcases mg h with⟨rfl,rfl,rfl,_⟩|⟨b,a,c,ws,rfl,hi,h⟩
 ·exact⟨rfl,rfl⟩
 ·refine⟨(n:Int),?_,rfl,rfl⟩;rw[ak,h.cell];rfl
theorem Wa(hi:Inv n ws m){k:Nat}(hk:k<n):k/64<ws.length:=by rw[hi.len];omega
end
def uY(h:Hp)(a:Addr):Option Value:=
 match h a.block with
 |some (.cells c _ _)=>if a.spot.isSome then none else c[a.off]?
 |_=>none
theorem sf{h h':Hp}(s:sub h h'){a:Addr}{v:Value}(hc:uY h a=some v):uY h' a=some v:=by
 unfold uY at*
 split at hc
 ·rename_i c _ _ he;rw[s _ _ he];omega
 simp_all
theorem jA{w:ahs}{a:Addr}{v:Value}(hc:uY (hp w) a=some v):w.cell? a=some v:=by
 unfold uY at hc
 split at hc
 ·rename_i c _ _ he;unfold World.cell?;rw[rQ he];omega
 simp_all
def ec(a:ahr)(vs:List Value):aC:=λh=>vs=[]\/∃ad,a=some ad/\∀j v,vs[j]? =some v->uY h (ad.add j)=some v
section
variable{w w':ahs}{L:List aC}{a:ahr}{vs:List Value}
theorem Ga(h:St w (ec a vs::L)){j:Nat}{v:Value}(hj:vs[j]? =some v):∃ad,a=some ad/\w.cell? (ad.add j)=some v:=by
 obtain⟨J,u,d,s1,s2,ha,hl⟩:=h
 rcases ha with rfl|⟨ad,e,hc⟩
 ·simp_all
 grind[jA,sf]
theorem bK{sz l c:Nat}{h:Hp}(ha:own sz a l c vs h):ec a vs h:=by
 rcases ha with⟨_,_,_,rfl⟩|⟨b,J,cs,u,rfl,⟨e,O⟩,_⟩
 ·exact .inl rfl
 ·refine .inr ⟨_,rfl,λj v U=>?_⟩;rw[add_lit];unfold uY;grind
end
def iv(xs:List Int):List Value:=xs.map λx=>iI x
theorem LF{xs:List Int}{j:Nat}{x:Int}(h:xs[j]? =some x):(iv xs)[j]? =some (iI x):=by grind[iv]
theorem bY{l j:Nat}(h:j<l):l-((j:Int)+1).toNat<l-(j:Int).toNat:=ω
def de(n:Nat)(m:Nat->Bool):Nat:=((List.range n).filter m).length
theorem DD(n:Nat)(m:Nat->Bool):de n m<=n:=by grind[de,Nat.le_trans,List.length_filter_le]
theorem wL(n:Nat)(m:Nat->Bool):de (n+1) m=de n m+(if m n then 1 else 0):=by grind[de,List.range_succ,List.length_append]
theorem Ku{n:Nat}{m m':Nat->Bool}(h:∀k,k<n->m k=m' k):de n m=de n m':=by grind[de,List.filter_congr]
theorem Sn{n:Nat}{m:Nat->Bool}{k:Nat}(hk:k<n)(hm:m k=false):de n (λj=>m j||j==k)=de n m+1:=by
  induction n with
  |zero=>omega
  |succ n ih=>
    rw[wL,wL]
    by_cases h:k=n
    · subst h
      rw [Ku (m' := m) λj hj => by have:(j==k)=false:=by grind
                                   simp_all]
      grind
    grind
def fY(n:Nat)(m:Nat->Bool)(xs:List Int):Nat->Bool:=λk=>m k||(decide (k<n)&&xs.contains (k:Int))
theorem cQ{xs:List Int}{j:Nat}{x:Int}(h:xs[j]? =some x):xs.take (j+1)=xs.take j++[x]:=by simp_all[afM]
theorem qK(l:List Int)(x y:Int):(l++[x]).contains y=(l.contains y||y==x):=by grind
theorem T9{n:Nat}{m:Nat->Bool}{xs:List Int}{j:Nat}{x:Nat}(h:xs[j]? =some (x:Int))(hx:x<n):fY n m (xs.take (j+1))=λk=>fY n m (xs.take j) k||k==x:=by
 funext k
 simp only[fY,cQ h,qK]
 grind
theorem Kv{n:Nat}{m:Nat->Bool}{xs:List Int}{j:Nat}{x:Int}(h:xs[j]? =some x)(hx:∀k:Nat,k<n->(k:Int)=x->fY n m (xs.take j) k=true):fY n m (xs.take (j+1))=fY n m (xs.take j):=by
 funext k
 have u:=hx k;simp only[fY,cQ h,qK] at u ⊢
 grind
theorem NX(n:Nat)(m:Nat->Bool):fY n m []=m:=by grind[fY]
section
variable{w:ahs}{L:List aC}{a:ahr}{l c:Nat}{p:ahr}{n:Nat}{m:Nat->Bool}{xs:List Int}
theorem abK{D:aC}(hD:∀h,D h->ec a (iv xs) h)(h:St w (BB p n m::D::L))(hl:xs.length=l)(hb:l<=4611686018427387904):
  ρ 103 [.pointer p,vS a l c] w λv w'=>v=iI ((de n (fY n m xs):Int)-de n m)/\St w' (BB p n (fY n m xs)::D::L):=by
 refine Dt ?_
 refine⟨λn1 n2 w=>∃j:Nat,n2=j/\j<=l/\n1=(de n (fY n m (xs.take j)):Int)-de n m/\St w (BB p n (fY n m (xs.take j))::D::L),
  λ_ n2 _=>l-n2.toNat,⟨0,rfl,ω,by simp[NX],by simp_all[NX]⟩,?_⟩
 rintro _ n1 n2 w1⟨j,rfl,hj,a7,U⟩
 refine ae (λh0=>?_) λh0=>?_
 ·have h0:j<l:=by simp_all
  obtain⟨x,hx⟩:∃x,xs[j]? =some x:=⟨xs[j],σ⟩;obtain⟨ad,rfl,hc⟩:=Ga (U.swap.head hD) (LF hx);have a8:=DD n (fY n m (xs.take j));have a5:=DD n m;have hn:=ZI U;have mI:aD ((j:Int)+1):=⟨ω,ω⟩;refine ay rfl h0 ⟨x,hc,?_⟩
  have skip:(∀k:Nat,k<n->(k:Int)=x->fY n m (xs.take j) k=true)->∀w2,St w2 (BB p n (fY n m (xs.take j))::D::L)->aD ((j:Int)+1)/\
    (∃Z:Nat,(j:Int)+1=Z/\Z<=l/\n1=(de n (fY n m (xs.take Z)):Int)-de n m/\St w2 (BB p n (fY n m (xs.take Z))::D::L))/\l-((j:Int)+1).toNat<l-(j:Int).toNat:=by
   intro a6 w2 u
   refine⟨mI,⟨j+1,σ,ω,?_,?_⟩,bY h0⟩
   ·simp_all[Kv]
   simp_all[Kv]
  refine ae (λX=>?_) λX=>?_
  ·have X:=afO X;obtain⟨x,rfl⟩:=Int.eq_ofNat_of_zero_le X;refine(acm U).mono ?_;rintro _ _⟨rfl,rfl⟩
   refine⟨_,rfl,ae (λV=>?_) λV=>?_⟩
   ·have V:x<n:=by simp_all
    rcases mg U with⟨rfl,rfl,_⟩|⟨b,ab,cb,ws,rfl,hi,u⟩
    ·omega
    have hw:=Wa hi V;have W:x<4096:=ω
    refine⟨ab,ws.length,cb,by rw[u.cell];rfl,?_⟩;refine(NV u.swap hi.lt hw W).mono ?_;rintro _ _⟨rfl,rfl⟩
    refine⟨_,rfl,ae (λh3=>?_) λh3=>?_⟩
    ·refine⟨ab,ws.length,cb,by rw[u.cell];rfl,?_⟩;refine(NW u.swap hi.lt hw W).mono ?_;rintro _ w3⟨rfl,a9,e1,e2,e3,O⟩;have J:fY n m (xs.take j) x=false:=by rw[hi.mm];simp_all
     have a4:=Sn V J;have a0:=T9 (m:=m) hx V
     refine⟨rfl,⟨ω,ω⟩,mI,⟨j+1,σ,ω,?_,?_⟩,bY h0⟩
     ·grind
     ·rw[a0];rw[<-e1] at O
      refine Sm ⟨e1▸hi.len,hi.le,e2,λk=>?_,λk Y=>?_⟩ (by rw[e1] at O ⊢;exact O.swap)
      ·rw[e3,hi.mm]
      ·rw[hi.out k Y];grind
    ·refine skip (λk Y he=>?_) _ U;have:k=x:=ω
     subst this;rw[hi.mm];simp_all
   ·refine skip (λk Y he=>?_) _ U
    grind
  ·refine skip (λk Y he=>?_) _ U
   grind
 grind
end
theorem LG(n:Nat):IntKind.u64.wrap (n:Int)=((n%18446744073709551616:Nat):Int):=by rfl
theorem LH{x:Nat}(h0:x≠0)(hx:x<2^64):IntKind.u64.wrap (0-(x:Int))=((18446744073709551616-x:Nat):Int):=by grind[IntKind.wrap,IntKind.signed,IntKind.bits]
theorem Wb{T:List Nat}{i k:Nat}{f:Nat->Value}(h:T.getD i 0=k)(hi:i<T.length):(T.map f)[i]? =some (f k):=by simp_all
theorem acn{x a:Nat}(h0:x≠0)(hx:x<2^64)(ha:x&&& (18446744073709551616-x)=a):
  aZ .u64 (IntKind.u64.wrap (oM .and .u64 (x:Int) (IntKind.u64.wrap (0-(x:Int)))*285870213051353865)) 58=((a*285870213051353865%18446744073709551616/2^58:Nat):Int):=by
 have J:=G3 (a:=x) (b:=18446744073709551616-x) hx ω;rw[LH h0 hx,J,ha];have u:=LG (a*285870213051353865);rw[Int.natCast_mul] at u;have O:((285870213051353865:Nat):Int)=285870213051353865:=rfl;rw[O] at u;rw[u];exact G4 (s:=58) ω
theorem BE{x:Nat}(hx:x<2^64)(w:ahs){L:List aC}(h:St w (ec (some ⟨0,0,none⟩) (Lib.deBruijn64tab.map λ(k:Nat)=>Value.int .u8 (k:Int))::L)):ρ 265 [.int .u64 (x:Int)] w λv w'=>v=iI ((Lib.ctz 64 x:Nat):Int)/\w'=w:=by
 refine mK ?_
 refine ae (λh0=>?_) λh0=>?_
 ·have:x=0:=by simp_all
  subst this;exact⟨rfl,rfl⟩
 ·have h0:x≠0:=by simp_all
  obtain⟨J,U⟩:=Lib.lowest_bit 64 x h0 hx;obtain⟨hi,u⟩:=Lib.deBruijn64_at _ U;rw[acn h0 hx J];generalize Lib.ctz 64 x=k at U hi u ⊢;have O:(2:Nat)^58=288230376151711744:=by rfl
  rw[O];generalize 2^k*285870213051353865%18446744073709551616/288230376151711744=i at hi u ⊢;refine⟨show(0:Int)<=58 by simp,ay rfl hi ⟨(k:Int),?_,⟨ω,ω⟩,rfl,rfl⟩⟩;have V:=Wb (f:=λ(k:Nat)=>Value.int .u8 (k:Int)) u hi
  grind[Ga]
theorem Kw(a b:Nat)(m:Nat->Bool):de (a+b) m=de a m+de b (λk=>m (a+k)):=by
 unfold de;rw[List.range_add,ago,afS,List.filter_map,af4];rfl
theorem NY{a:Nat}{m:Nat->Bool}(h:∀k,k<a->m k=false):de a m=0:=by simp_all[de]
theorem ZJ{n:Nat}{ws:List Nat}{m:Nat->Bool}(hi:Inv n ws m):de (64*ws.length) m=de n m:=by
 have h:64*ws.length=n+(64*ws.length-n):=by rw[hi.len];omega
 rw[h,Kw,NY (a:=64*ws.length-n) λk _=>hi.out _ ω];omega
def Kx(s:Int):Nat:=(if 1024<if s<0 then 0 else s then 1024 else if s<0 then 0 else s).toNat
theorem aco(s:Int):(if 1024<if s<0 then 0 else s then(1024:Int) else if s<0 then 0 else s)=(Kx s:Int):=by grind[Kx]
theorem acp(s:Int):Kx s<=1024:=by grind[Kx]
theorem ZK{n:Nat}(h:n<=1024):Kx (n:Int)=n:=by
 unfold Kx;omega
theorem dR(v:Value):∀n,iX n [v]=List.replicate n v
 |0=>rfl
 |n+1=>by simp[iX,dR v n,agW]
theorem ZL(n:Nat):cw (List.replicate n 0)=List.replicate n (.int .u64 0):=by simp[cw]
theorem Wc(n k:Nat):mem (List.replicate n 0) k=false:=by grind[mem]
theorem inv_zero{n:Nat}(h:n<=1024):Inv n (List.replicate ((n+63)/64) 0) (λ_=>false):=
 ⟨σ,h,λx u=>by simp_all,λk=>(Wc _ k).symm,λ_ _=>rfl⟩
section
variable{w:ahs}{L:List aC}{a:ahr}{l c:Nat}{p:ahr}{n:Nat}{m:Nat->Bool}{xs:List Int}
theorem afl(size:Int){D:aC}(hD:∀h,D h->ec a (iv xs) h)(h:St w (D::L))(hl:xs.length=l)(hb:l<=4611686018427387904):
  ρ 102 [iI size,vS a l c] w λv w'=>∃b,v=.pointer (some ⟨b,0,none⟩)/\St w' (BB (some ⟨b,0,none⟩) (Kx size) (fY (Kx size) (λ_=>false) xs)::D::L):=by
 refine NU _ _ _ _ w _ ?_;unfold G5;rw[aco];have J:=acp size;generalize Kx size=N at*;have O:((N:Int)+63)=((N+63:Nat):Int):=by rfl
 rw[O,z7,afU];refine⟨BD ω,Qw,BD ω,⟨ω,rfl,ω⟩,?_⟩;rw[dR];refine ag h λZ w1 X=>ag X λW U V=>?_
 have Y:St U (BB (some ⟨W,0,none⟩) N (λ_=>false)::D::L):=by
  refine Sm (a:=some ⟨Z,0,none⟩) (c:=(N+63)/64) (inv_zero J) ?_;have u:(List.replicate ((N+63)/64) 0:List Nat).length=(N+63)/64:=σ
  rw[u]
  refine St.swap (bj (cs:=[]) ?_ ?_ ?_ (afR _))
  ·rw[agc,ZL];exact V.swap
  ·simp[cw]
  simp[cw]
 refine(abK hD Y hl hb).mono ?_
 simp_all
end
def Wd(b:Nat)(n:Nat)(m:Nat->Bool):aC:=ex λx:ahr×Nat×List Nat=>aV [pu (Inv n x.2.2 m),az b [vS x.1 x.2.2.length x.2.1],own 1 x.1 x.2.2.length x.2.1 (cw x.2.2)]
theorem BF{w:ahs}{L:List aC}{b n:Nat}{m:Nat->Bool}:St w (Wd b n m::L)↔∃a c ws,Inv n ws m/\St w (az b [vS a ws.length c]::own 1 a ws.length c (cw ws)::L):=by simp[Wd,St.ex,St.pu,St.flat]
theorem acq{ws:List Nat}(h:cw ws=[]):ws=[]:=by simp_all[cw]
section
variable{w:ahs}{L:List aC}{a:ahr}{l c:Nat}{p:ahr}{n:Nat}{m:Nat->Bool}{xs:List Int}{ws:List Nat}
theorem ZM{D:aC}(hD:∀h,D h->ec a (cw ws) h)(h:St w (D::L))(hb:ws.length<=1024)(hn:a=none->ws=[]):
  ρ 263 [vS a ws.length c] w λv w'=>∃a' c',v=vS a' ws.length c'/\St w' (own 1 a' ws.length c' (cw ws)::D::L):=by
 refine je ?_;cases a with
 |none=>
  have W:=hn rfl;subst W;exact⟨none,0,rfl,aI 1 h⟩
 |some ad=>
  refine ag h λb X V=>?_;have O:St X (own 1 (some ⟨b,0,none⟩) 0 0 []::D::L):=bj (cs:=[]) V rfl rfl (afR _)
  refine(ja aT (rfl:ai Ty _=.slice _) rfl rfl rfl O (n:=ws.length) (news:=cw ws) ?_ ?_ ω).mono ?_
  ·exact gk aT (rfl:ai Ty _=.slice _) (by simp[cw]) (.inr ⟨ad,rfl,λj u U=>by
    obtain⟨_,e,hc⟩:=Ga (O.swap.head hD) U
    simp_all⟩) (λu J=>by
    simp only[cw,afW] at J;obtain⟨_,_,rfl⟩:=J;rfl)
  ·grind
  grind
end
def dj(n:Nat)(m:Nat->Bool):List Nat:=(List.range n).filter m
theorem mh(n:Nat)(m:Nat->Bool):(dj n m).length=de n m:=rfl
theorem We{n k:Nat}{m:Nat->Bool}(hk:k<n)(hm:m k=true):(dj n m)[de k m]? =some k:=by
 have e:n=k+(n-k-1+1):=ω
 unfold dj;rw[e,List.range_add,ago,agf (by simp[de])];have:de k m-(List.filter m (List.range k)).length=0:=by simp[de]
 grind[List.range_succ_eq_map]
theorem Wf{x:Nat}(h0:x≠0)(hx:x<2^64):Lib.ctz 64 x<64/\x.testBit (Lib.ctz 64 x)=true/\(∀k,k<Lib.ctz 64 x->x.testBit k=false)/\∀k,(x&&& (x-1)).testBit k=(x.testBit k&& !(k==Lib.ctz 64 x)):=by
 have e:Lib.ctz 64 x=Lib.ctzFrom 64 x:=by simp_all[Lib.ctz]
 obtain⟨q,U,hc⟩:=Lib.ctzFrom_spec 64 x ω hx;rw[e];generalize Lib.ctzFrom 64 x=c at*;have hp:0<2^c:=Nat.two_pow_pos c;have u:x-1=2^c*(2*q)+(2^c-1):=by grind
 have t1:∀k,x.testBit k=if k<c then false else(2*q+1).testBit (k-c):=λk=>by grind
 have t2:∀k,(x-1).testBit k=if k<c then true else(2*q).testBit (k-c):=λk=>by
  rw[u,Nat.testBit_two_pow_mul_add _ ω];simp
 refine⟨hc,?_,λk J=>?_,λk=>?_⟩
 ·simp_all
 ·simp_all
 ·rw[Nat.testBit_and,t2,t1]
  by_cases J:k<c
  ·grind
  ·rw[afV J,afV J]
   by_cases O:k=c
   ·simp_all
   ·have V:k-c=(k-c-1)+1:=ω
    grind
def rM(l:List Nat):List (List Value):=l.map λ(k:Nat)=>[iI (k:Int)]
theorem zO{a b:Nat}{m:Nat->Bool}(h:a<=b)(hf:∀k,a<=k->k<b->m k=false):de b m=de a m:=by
 have e:b=a+(b-a):=ω
 grind[Kw,NY]
def ZN:List Value:=Lib.deBruijn64tab.map λ(k:Nat)=>Value.int .u8 (k:Int)
def dK:aC:=ec (some ⟨0,0,none⟩) ZN
theorem acr{A:aC}{w:ahs}(h:A (hp w)):St w [A]:=⟨hp w,λ_=>none,λ_=>.inr rfl,sZZ,λ_ _ h=>(nomatch h),h,trivial⟩
section
variable{w:ahs}{L:List aC}{b:Nat}{n:Nat}{m:Nat->Bool}
theorem oH:Zj Tryz.prog qo [] [.pointer (some ⟨b,0,none⟩)] (Wd b n m) dK (rM (dj n m)):=by
 intro l E hE J Jx L w0 h0 hQ hy
 have al:∃a c ws,Inv n ws m/\St w0 (J 0::az b [vS a ws.length c]::own 1 a ws.length c (cw ws)::L):=by
  obtain⟨a,c,ws,hi,V⟩:=BF.1 h0.swap;exact⟨a,c,ws,hi,V.Nj⟩
 obtain⟨a,c,ws,hi,am⟩:=al
 have back:∀(A:aC) w',St w' (A::az b [vS a ws.length c]::own 1 a ws.length c (cw ws)::L)->St w' (A::Wd b n m::L):=by
  intro A w' h;exact(BF.2 ⟨a,c,ws,hi,h.perm ((List.Perm.swap _ _ _).trans (List.Perm.cons _ (List.Perm.swap _ _ _)))⟩).swap
 have a6:∀{A B C:aC}{w'},St w' (A::B::C::L)->St w' [dK]:=λ{A B C w'} h=>acr (hQ _ (aq (aq (aq h))));refine vh E l ⟨b,0,none⟩ hE w0 _ ?_;refine⟨a,ws.length,c,by rw[am.swap.cell];rfl,?_⟩
 refine⟨λn1 w=>∃j:Nat,n1=j/\j<=ws.length/\St w (J (de (64*j) m)::az b [vS a ws.length c]::own 1 a ws.length c (cw ws)::L),λn1 _=>ws.length-n1.toNat,
  ⟨0,rfl,ω,by simp_all[de]⟩,?_⟩
 rintro _ n1 w1⟨j,rfl,hj,hs⟩;have b8:=hi.len;have hn:=hi.le
 refine ae (λZ=>?_) λZ=>?_
 ·have Z:j<ws.length:=by grind
  obtain⟨ad,rfl⟩:=eE hs.Nj (by grind[cw]);have hg:=qp hs.Nj rfl (LD Z);refine ay rfl Z ⟨_,hg,?_⟩;have U:=BC hi.lt j
  have O:∀k,k<64->m (64*j+k)=(ws.getD j 0).testBit k:=λk hk=>by
   rw[hi.mm];grind[mem]
  generalize ws.getD j 0=W at hg U O ⊢
  refine⟨λn3 w=>∃(r s:Nat),n3=r/\r<2^64/\s<=64/\(∀k,r.testBit k=(decide (s<=k)&&W.testBit k))/\St w (J (de (64*j+s) m)::az b [vS (some ad) ws.length c]::own 1 (some ad) ws.length c (cw ws)::L),λn3 _=>n3.toNat,
   ⟨W,0,rfl,U,ω,σ,ω⟩,?_⟩
  rintro _ n3 w2⟨r,s,rfl,hr,b7,u,a4⟩
  refine ae (λV=>?_) λV=>?_
  ·have V:r≠0:=by simp_all
   obtain⟨k1,k2,k3,k4⟩:=Wf V hr;have a8:aD (64*(j:Int)):=⟨ω,ω⟩;refine⟨a8,?_⟩;refine((BE hr w2 (a6 a4)).toE hE).mono ?_;rintro _ _⟨rfl,rfl⟩;generalize Lib.ctz 64 r=k at k1 k2 k3 k4 ⊢;refine⟨_,rfl,⟨ω,ω⟩,?_⟩;have ba:s<=k/\W.testBit k=true:=by simp_all
   have Y:m (64*j+k)=true:=by simp_all
   have b4:64*j+k<n:=Nat.lt_of_not_le λb1=>by rw[hi.out _ b1] at Y;grind
   have X:de (64*j+k) m=de (64*j+s) m:=zO ω λq a9 b3=>by
    have h3:=k3 (q-64*j) ω;rw[u] at h3;have:s<=q-64*j:=ω
    have h4:=O (q-64*j) ω;rw[show 64*j+(q-64*j)=q by omega] at h4
    simp_all
   have b5:(rM (dj n m))[de (64*j+s) m]? =some [iI ((64*j+k:Nat):Int)]:=by
    unfold rM;rw[afQ,<-X,We b4 Y];rfl
   have aa:(64*(j:Int)+(k:Int))=((64*j+k:Nat):Int):=by rfl
   rw[aa];obtain⟨f',a5,av,a7,y1,y2⟩:=hy _ _ b5 _ _ (λh hh=>aq (aq hh)) a4;refine⟨f',a5,av,a7,y1,RoundIn.mono y2 ?_⟩;rintro e w4⟨v,rfl,b2,hv⟩;refine⟨v,rfl,b2,?_⟩;have b6:de (64*j+(k+1)) m=de (64*j+s) m+1:=by grind[wL]
   rcases hv with⟨rfl,a0⟩|⟨rfl,a0⟩
   ·refine⟨true,rfl,?_⟩
    have e1:IntKind.u64.wrap ((r:Int)-1)=((r-1:Nat):Int):=by
     have:=wrap_u64 (r-1) ω
     grind
    have e2:=G3 (a:=r) (b:=r-1) hr ω
    show(∃r' s':Nat,_/\_)/\_
    rw[e1,e2]
    refine⟨⟨r&&& (r-1),k+1,rfl,Nat.and_lt_two_pow _ ω,ω,λq=>?_,?_⟩,?_⟩
    ·grind
    ·grind
    grind[Nat.and_le_right,Int.toNat_natCast]
   ·refine⟨false,rfl,?_⟩;exact .inr (back _ _ a0)
  ·have V:r=0:=by simp_all
   subst V;refine⟨⟨ω,ω⟩,⟨j+1,σ,ω,?_⟩,bY Z⟩
   have:de (64*(j+1)) m=de (64*j+s) m:=zO ω λq a9 b3=>by
    have h3:=u (q-64*j);have h4:=O (q-64*j) ω;rw[show 64*j+(q-64*j)=q by omega] at h4
    grind
   simp_all
 grind[of_decide_eq_false,ZJ,mh,rM,dj]
end
def dN(l:List Nat):List Value:=l.map λ(k:Nat)=>iI (k:Int)
theorem Wg{ks:List Nat}{i k:Nat}(h:ks[i]? =some k):dN (ks.take (i+1))=dN (ks.take i)++[iI (k:Int)]:=by simp_all[dN,afM]
section
variable{w:ahs}{L:List aC}{a:ahr}{l c:Nat}{p:ahr}{n:Nat}{m:Nat->Bool}{xs:List Int}{ws:List Nat}
theorem NZ{g:FuncId}{cap:List Value}{D Q:aC}{ks:List Nat}{vs:List Value}(hg:Fn g=true)(hI:Zj Tryz.prog g [] cap D Q (rM ks))(hQ:∀h,aG L h->Q h)(hb:l+ks.length<=1099511627776)
  (h:St w (own 1 a l c vs::D::L)):
  ρ 269 [vS a l c,.func (.func g) #[] ⟨cap⟩] w λv w'=>∃a' c',v=vS a' (l+ks.length) c'/\St w' (own 1 a' (l+ks.length) c' (vs++dN ks)::D::L):=by
 refine mM ?_;refine ag h λb w1 h1=>a_.2 ⟨hg,?_⟩
 refine⟨rM ks,D,Q,λi=>ex λy:ahr×Nat=>aV [az b [vS y.1 (l+i) y.2],own 1 y.1 (l+i) y.2 (vs++dN (ks.take i))],pu False,λ_=>pu False,L,?_,hQ,hI,?_,?_,?_,?_,trivial⟩
 ·refine St.ex.2 ⟨(a,c),St.flat.2 ?_⟩
  simp_all[dN]
 ·intro x U;simp only[rM,afW] at U
  grind
 ·intro i x U L' w2 _ O;refine⟨_,O,λV w3 _ J=>?_⟩;obtain⟨⟨a1,c1⟩,J⟩:=St.ex.1 J;have J:=St.flat.1 J;have U:(rM ks)[i]? =some [iI x]:=U
  obtain⟨k,Y,rfl⟩:∃k,ks[i]? =some k/\x=(k:Int):=by
   unfold rM at U
   grind
  have a0:=(afK.1 Y).1;refine⟨a1,l+i,c1,by rw[J.cell];rfl,?_⟩;refine ag J λZ w4 W=>?_
  refine(ja aT (rfl:ai Ty _=.slice _) rfl rfl rfl W.Nj (n:=1) (news:=[iI (k:Int)]) ?_ ?_ ω).mono ?_
  ·refine gk aT (rfl:ai Ty _=.slice _) rfl (.inr ⟨_,rfl,λj u hj=>?_⟩) (λu X=>?_)
   ·rw[ak,W.cell];omega
   ·simp only[af_] at X;subst X;rfl
  ·grind
  ·rintro _ w5⟨a',c',rfl,h5⟩;refine⟨_,_,_,rfl,aR h5.Nj σ λw6 h6=>St.ex.2 ⟨(a',c'),St.flat.2 ?_⟩⟩;rw[Wg Y,<-af0];have h7:St w6 (az b [vS a' (l+i+1) c']::own 1 a' (l+i+1) c' (vs++dN (ks.take i)++[iI (k:Int)])::az Z [iI (k:Int)]::V):=h6;exact h7.perm (List.Perm.refl _)|>.Nj.tail
 ·intro w2 O;obtain⟨⟨a1,c1⟩,O⟩:=St.ex.1 O;have O:=St.flat.1 O;have e:(rM ks).length=ks.length:=by simp[rM]
  rw[e,af7] at O;refine⟨a1,_,c1,by rw[O.cell];rfl,λw3 h3=>⟨a1,c1,rfl,(O.eq h3).tail⟩⟩
 simp[St.pu]
theorem T_{g:FuncId}{cap:List Value}{D Q:aC}{ks:List Nat}(hg:Fn g=true)(hI:Zj Tryz.prog g [] cap D Q (rM ks))(hQ:∀h,aG L h->Q h)(hb:ks.length<=1099511627776)(h:St w (D::L)):
  ρ 181 [.func (.func g) #[] ⟨cap⟩] w λv w'=>∃a' c',v=vS a' ks.length c'/\St w' (own 1 a' ks.length c' (dN ks)::D::L):=by
 refine r_ ?_;refine(NZ hg hI hQ (l:=0) ω (aI 1 h)).mono ?_
 grind
end
theorem aeu{a b:Nat}(h:((a:Int)==b)=true):a=b:=by grind
theorem acs{a b:Nat}(h:((a:Int)==b)=false):a≠b:=by grind
theorem qq{ks:List Nat}{j k:Nat}(h:ks[j]? =some k):(dN ks)[j]? =some (iI (k:Int)):=by grind[dN]
theorem Wh(ks:List Nat):dN ks=iv (ks.map λ(k:Nat)=>(k:Int)):=by simp[dN,iv]
def tlA:List aC->List aC
 |[]=>[]
 |_::L=>L
def Sp:Nat->List aC->List aC
 |0,L=>L
 |n+1,L=>Sp n (tlA L)
abbrev abL(L:List aC)(n:Nat):List aC:=Sp n L
theorem Ky:∀n,Sp n []=[]
 |0=>rfl
 |n+1=>Ky n
def ZO(i:Nat):List Nat->Bool
 |[]=>false
 |j::l=>Nat.beq i j||ZO i l
theorem Sq(i:Nat):∀l,ZO i l=l.contains i
 |[]=>rfl
 |j::l=>by
  rw[ZO,Sq i l,List.contains_cons];congr 1;rw[agM];simp
def Wi(L:List aC):List Nat->List aC->List aC
 |[],T=>T
 |i::is,T=>vc L i::Wi L is T
def okP(n:Nat):List Nat->Bool
 |[]=>true
 |i::is=>Nat.blt i n&& !ZO i is&&okP n is
theorem ET:∀(n:Nat)(L:List aC)(h:Hp),aG L h->
  ∃(f:Nat->Hp)(g:Hp),(∀i j,i≠j->i<n->j<n->Ll (f i) (f j))/\(∀i,i<n->Ll (f i) g)/\(∀i,i<n->sub (f i) h)/\sub g h/\(∀i,i<n->vc L i (f i))/\aG (abL L n) g
 |0,L,h,hs=>⟨λ_=>h,h,λ_ _ _ hi=>absurd hi ω,λ_ hi=>absurd hi ω,λ_ hi=>absurd hi ω,sZZ,λ_ hi=>absurd hi ω,hs⟩
 |n+1,[],h,hs=>⟨λ_ _=>none,h,λ_ _ _ _ _ _=>.inl rfl,λ_ _ _=>.inl rfl,λ_ _ _ _ h=>(nomatch h),sZZ,λ_ _=>trivial,by simp[aG,Ky]⟩
 |n+1,A::L,h,⟨h1,h2,d,s1,s2,ha,hl⟩=>by
  obtain⟨f,g,f1,f2,f3,f4,f5,f6⟩:=ET n L h2 hl
  refine⟨λi=>match i with|0=>h1|i+1=>f i,g,λi j hne hi hj=>?_,λi hi=>?_,λi hi=>?_,f4.trans s2,λi hi=>?_,f6⟩
  ·cases i with
   |zero=>cases j with
    |zero=>omega
    |succ j=>exact d.sub sZZ (f3 j ω)
   |succ i=>cases j with
    |zero=>exact(d.sub sZZ (f3 i ω)).symm
    |succ j=>simp_all
  ·cases i with
   |zero=>exact d.sub sZZ f4
   |succ i=>simp_all
  ·cases i with
   |zero=>omega
   |succ i=>exact(f3 i ω).trans s2
  ·cases i with
   |zero=>exact ha
   |succ i=>exact f5 i ω
theorem Ha{L T:List aC}{n:Nat}{f:Nat->Hp}{g h:Hp}(f1:∀i j,i≠j->i<n->j<n->Ll (f i) (f j))(f2:∀i,i<n->Ll (f i) g)(f3:∀i,i<n->sub (f i) h)(f4:sub g h)
  (f5:∀i,i<n->vc L i (f i)) (f6:aG T g):∀is:List Nat,okP n is=true->∃u,sub u h/\aG (Wi L is T) u/\∀i,i<n->i∉is->Ll (f i) u
 |[],_=>⟨g,f4,f6,λi hi _=>f2 i hi⟩
 |i::is,hok=>by
  simp only[okP,Sq,afX,ag9,Nat.blt_eq] at hok
  obtain⟨⟨hi,hni⟩,hok⟩:=hok
  have hni:i∉is:=by simp_all
  obtain⟨u,u1,u2,u3⟩:=Ha f1 f2 f3 f4 f5 f6 is hok
  have d:=u3 i hi hni
  refine⟨Vm (f i) u,F7 (f3 i hi) u1,⟨f i,u,d,yf _ _,yg d,f5 i hi,u2⟩,λj hj hjn=>?_⟩
  simp only[af6,not_or] at hjn
  exact(F8 (f1 i j (λe=>hjn.1 e.symm) hi hj) (u3 j hj hjn.2).symm).symm
theorem St.pick{w:ahs}{L:List aC}(h:St w L)(n:Nat)(is:List Nat)(hok:okP n is=true:=by rfl):St w (Wi L is (abL L n)):=by
 obtain⟨f,g,f1,U,O,W,J,Y⟩:=ET n L _ h;obtain⟨u,X,V,_⟩:=Ha f1 U O W J Y is hok;exact lT V X
example {w:ahs} {A B C:aC} {L:List aC} (h:St w (A::B::C::L)):St w (C::A::L):=h.pick 3 [2,0]
def Gr(w w':ahs):Prop:=sub (hp w) (hp w')
theorem Gr.refl(w:ahs):Gr w w:=sZZ
theorem Gr.trans{a b c:ahs}(h:Gr a b)(k:Gr b c):Gr a c:=sub.trans h k
theorem Gr.of_eq{w w':ahs}(h:hp w'=hp w):Gr w w':=by simp_all[Gr,sub.refl]
theorem St.gr{w w':ahs}{L:List aC}(h:St w L)(g:Gr w w'):St w' L:=lT h g
abbrev all(w:ahs):List aC:=[has (hp w)]
theorem bH{h0 h:Hp}(s:sub h0 h):aG [has h0] h:=⟨h0,λ_=>none,λ_=>.inr rfl,s,λ_ _ h=>(nomatch h),sZZ,trivial⟩
theorem St.here{w:ahs}{h0:Hp}(s:sub h0 (hp w)):St w [Proofs.YtaoaemnefghnbaaGreatDoor.has h0]:=bH s
theorem St.all(w:ahs):St w (Proofs.YtaoaemnefghnbaaGreatDoor.all w):=bH sZZ
theorem EU{L M N:List aC}(hm:∀h,aG M h->aG N h):∀{h:Hp},aG (L++M) h->aG (L++N) h:=by
 induction L with
 |nil=>simp_all
 |cons A L ih=>exactλ⟨J,u,d,s1,s2,ha,hl⟩=>⟨J,u,d,s1,s2,ha,ih hl⟩
theorem Ua{L:List aC}{h0:Hp}(hl:aG L h0):∀h,aG [has h0] h->aG L h:=λh u=>lT hl (lU u)
theorem St.on{w':ahs}{N L:List aC}{h0:Hp}(h:St w' (N++[Proofs.YtaoaemnefghnbaaGreatDoor.has h0]))(hl:aG L h0):St w' (N++L):=EU (Ua hl) h
theorem St.fb{w':ahs}{A:aC}{L:List aC}{h0:Hp}(h:St w' [A,Proofs.YtaoaemnefghnbaaGreatDoor.has h0])(hl:aG L h0):St w' (A::L):=St.on (N:=[A]) h hl
theorem St.N0{w':ahs}{A B:aC}{L:List aC}{h0:Hp}(h:St w' [A,B,Proofs.YtaoaemnefghnbaaGreatDoor.has h0])(hl:aG L h0):St w' (A::B::L):=St.on (N:=[A,B]) h hl
theorem St.gone{w':ahs}{N:List aC}{h0:Hp}(h:St w' (N++[Proofs.YtaoaemnefghnbaaGreatDoor.has h0])):sub h0 (hp w'):=by
 induction N with
 |nil=>exact lU h
 |cons A N ih=>exact ih h.tail
theorem St.aQ{w':ahs}{A:aC}{h0:Hp}(h:St w' [A,Proofs.YtaoaemnefghnbaaGreatDoor.has h0]):sub h0 (hp w'):=St.gone (N:=[A]) h
theorem St.aev{w':ahs}{A B:aC}{h0:Hp}(h:St w' [A,B,Proofs.YtaoaemnefghnbaaGreatDoor.has h0]):sub h0 (hp w'):=St.gone (N:=[A,B]) h
theorem St.freeze{w:ahs}{A:aC}{L:List aC}(h:St w (A::L)):∃h0,aG L h0/\sub h0 (hp w)/\St w [A,Proofs.YtaoaemnefghnbaaGreatDoor.has h0]:=by
 obtain⟨J,u,d,s1,s2,ha,hl⟩:=h;exact⟨u,hl,s2,J,u,d,s1,s2,ha,bH sZZ⟩
theorem St.Sr{w:ahs}{A B:aC}{L:List aC}(h:St w (A::B::L)):∃h0,aG L h0/\sub h0 (hp w)/\St w [A,B,Proofs.YtaoaemnefghnbaaGreatDoor.has h0]:=by
 obtain⟨W,O,d,s1,s2,ha,X,J,U,V,u,hb,hl⟩:=h;exact⟨J,hl,u.trans s2,W,O,d,s1,s2,ha,X,J,U,V,u,hb,bH sZZ⟩
theorem St.first{w:ahs}{A:aC}{L:List aC}(h:St w (A::L)):∃h1,sub h1 (hp w)/\A h1:=by
 obtain⟨h1,u,d,s1,s2,ha,hl⟩:=h
 grind
def aj(h:Hp)(a:Addr)(vs:List Value):Prop:=∀j v,vs[j]? =some v->uY h (a.add j)=some v
theorem aj.mono{h h':Hp}{a:Addr}{vs:List Value}(s:sub h h')(r:aj h a vs):aj h' a vs:=λj v u=>sf s (r j v u)
theorem aj.cell{w:ahs}{h:Hp}{a:Addr}{vs:List Value}(r:aj h a vs)(s:sub h (hp w)){j:Nat}{v:Value}(hj:vs[j]? =some v):w.cell? (a.add j)=some v:=jA (sf s (r j v hj))
theorem aj.cell0{w:ahs}{h:Hp}{a:Addr}{v:Value}{vs:List Value}(r:aj h a (v::vs))(s:sub h (hp w)):w.cell? a=some v:=by
 have:=r.cell s (j:=0) (v:=v) rfl
 simp_all[Addr.add]
theorem aj.drop{h:Hp}{a:Addr}{us vs:List Value}(r:aj h a (us++vs)):aj h (a.add us.length) vs:=λj v u=>by
 rw[add_add];exact r _ v (by grind)
theorem aj.take{h:Hp}{a:Addr}{us vs:List Value}(r:aj h a (us++vs)):aj h a us:=λj v u=>
 r j v (by grind)
theorem Kz{w:ahs}{h:Hp}{a:Addr}(s:sub h (hp w)):∀(vs:List Value)(i:Nat),aj h (a.add i) vs->rowAt w a i vs.length=some vs
 |[],i,_=>rfl
 |v::vs,i,r=>by
  have h1:w.cell? (a.add i)=some v:=r.cell0 s
  have h2:aj h (a.add (i+1)) vs:=by
   rw[<-add_add];exact aj.drop (us:=[v]) r
  simp only[agk,rowAt,h1,Kz s vs (i+1) h2]
theorem aj.at{w:ahs}{h:Hp}{a:Addr}{vs:List Value}{n:Nat}(r:aj h a vs)(s:sub h (hp w))(hn:vs.length=n):rowAt w a 0 n=some vs:=by grind[Kz,Addr.add]
theorem kM{b:Nat}{vs:List Value}{h:Hp}(hc:az b vs h):aj h ⟨b,0,none⟩ vs:=λj v J=>by
 obtain⟨e,u⟩:=hc
 simp_all[ak,uY]
class tQ (α:Type) where
 n:Nat
 rd:Hp->α->List Value->Prop
 mono:∀{h h':Hp}{x:α}{vs:List Value},sub h h'->rd h x vs->rd h' x vs
 len:∀{h:Hp}{x:α}{vs:List Value},rd h x vs->vs.length=n
abbrev rd{α:Type}[tQ α](h:Hp)(x:α)(vs:List Value):Prop:=tQ.rd h x vs
def aY{α:Type}[tQ α](h:Hp)(xs:List α)(a:ahr)(l:Nat):Prop:=
 xs.length=l/\∀i x,xs[i]? =some x->∃ad vs,a=some ad/\aj h (ad.add (eV i (tQ.n α))) vs/\rd h x vs
section
variable{α:Type}[tQ α]{h h':Hp}{w:ahs}{xs:List α}{a:ahr}{l:Nat}
theorem aY.mono(s:sub h h')(r:aY h xs a l):aY h' xs a l:=
 ⟨r.1,λi x U=>by obtain⟨V,vs,O,J,u⟩:=r.2 i x U;exact⟨V,vs,O,J.mono s,tQ.mono s u⟩⟩
theorem aY.nil:aY h ([]:List α) a 0:=⟨rfl,λi x u=>by simp_all⟩
theorem aY.get(r:aY h xs a l){i:Nat}(hi:i<l):∃x ad vs,xs[i]? =some x/\a=some ad/\aj h (ad.add (eV i (tQ.n α))) vs/\rd h x vs:=by
 have hl:i<xs.length:=by rw[r.1];omega
 obtain⟨ad,vs,J,u,O⟩:=r.2 i xs[i] (afJ hl)
 grind
theorem aY.drop{k m:Nat}(r:aY h xs a l)(hk:k<=l)(hm:l<=m):aY h (xs.drop k) (fE a k m (tQ.n α)) (l-k):=by
 refine⟨by rw[ag3,r.1],λi x u=>?_⟩;rw[agG] at u;have J:=(afK.1 u).1;obtain⟨U,vs,rfl,V,O⟩:=r.2 _ x u;have W:=r.1
 refine⟨U.add (eV k (tQ.n α)),vs,?_,?_,O⟩
 ·unfold fE;grind
 simp_all[add_add,bg,Nat.add_mul]
theorem aY.take{k:Nat}(r:aY h xs a l)(hk:k<=l):aY h (xs.take k) a k:=by
 refine⟨by rw[agj,r.1];omega,λi x u=>?_⟩;rw[agH] at u
 split at u
 ·exact r.2 i x u
 simp_all
class kN (α:Type) extends tQ α where
 val:α->Value
 one:∀{h:Hp}{x:α}{vs:List Value},rd h x vs↔vs=[val x]
 n1:n=1
end
section
variable{α:Type}[kN α]{h h':Hp}{w:ahs}{xs:List α}{a:ahr}{l:Nat}
theorem aY.at(r:aY h xs a l){i:Nat}{x:α}(hx:xs[i]? =some x):∃ad,a=some ad/\∀w,sub h (hp w)->w.cell? (ad.add i)=some (kN.val x):=by
 obtain⟨ad,vs,J,u,O⟩:=r.2 i x hx;have:=kN.one.1 O;subst this;refine⟨ad,J,λw s=>?_⟩;have:=u.cell0 s
 simp_all[bg,kN.n1]
theorem aY.dS(r:aY h xs a l){i:Nat}(hi:i<l):∃x ad,xs[i]? =some x/\a=some ad/\∀w,sub h (hp w)->w.cell? (ad.add i)=some (kN.val x):=by
 have hl:i<xs.length:=by rw[r.1];omega
 obtain⟨ad,J,u⟩:=r.at (afJ hl)
 simp_all
theorem gV(hl:xs.length=l)(hr:ec a (xs.map kN.val) h):aY h xs a l:=by
 refine⟨hl,λi x O=>?_⟩
 rcases hr with hn|⟨u,rfl,hc⟩
 ·simp_all
 ·refine⟨u,[kN.val x],rfl,λj v J=>?_,kN.one.2 rfl⟩;cases j with
  |zero=>
   simp_all[Option.some.injEq,bg,kN.n1,add_add]
  |succ j=>simp_all
theorem aY.row(r:aY h xs a l):ec a (xs.map kN.val) h:=by
 cases xs with
 |nil=>exact .inl rfl
 |cons x0 xs'=>
  obtain⟨V,vs,rfl,_⟩:=r.2 0 x0 rfl;refine .inr ⟨V,rfl,λj v u=>?_⟩;rw[afQ] at u;cases hx:(x0::xs')[j]? with
  |none=>simp_all
  |some x=>
   rw[hx] at u;cases u;obtain⟨U,vs,e,J,O⟩:=r.2 j x hx;cases e;have:=kN.one.1 O;subst this;have:=J 0 _ rfl
   simp_all[bg,kN.n1,add_add]
end
instance:kN Int:={ n:=1,rd:=λ_ x vs=>vs=[iI x],mono:=λ_ h=>h,len:=λh=>by simp_all,val:=λx=>iI x,one:=Iff.rfl,n1:=rfl }
instance:kN Bool:={ n:=1,rd:=λ_ x vs=>vs=[vB x],mono:=λ_ h=>h,len:=λh=>by simp_all,val:=λx=>vB x,one:=Iff.rfl,n1:=rfl }
instance:kN ByteArray:={ n:=1,rd:=λ_ x vs=>vs=[.string x],mono:=λ_ h=>h,len:=λh=>by simp_all,val:=λx=>.string x,one:=Iff.rfl,n1:=rfl }
instance {α:Type} [tQ α]:tQ (List α):=
 { n:=1,rd:=λh xs vs=>∃a l c,vs=[vS a l c]/\l<=c/\aY h xs a l,mono:=λs ⟨a,l,c,h1,h3,h2⟩=>⟨a,l,c,h1,h3,h2.mono s⟩,len:=λ⟨_,_,_,h,_⟩=>by simp_all }
def anyI:Int->Prop:=λz=>-9223372036854775808<=z/\z<=9223372036854775807
def bv(bs:List Bool):List Value:=bs.map λb=>vB b
theorem kN.Ss:(kN.val:Int->Value)=λx=>iI x:=rfl
theorem bp{h:Hp}{xs:List Int}{a:ahr}{l:Nat}(hl:xs.length=l)(hr:ec a (iv xs) h):aY h xs a l:=gV hl hr
theorem Hb{h:Hp}{xs:List Bool}{a:ahr}{l:Nat}(hl:xs.length=l)(hr:ec a (bv xs) h):aY h xs a l:=gV hl hr
theorem aY.iv{h:Hp}{xs:List Int}{a:ahr}{l:Nat}(r:aY h xs a l):ec a (Proofs.YtaoaemnefghnbaaGreatDoor.iv xs) h:=r.row
theorem cZ(xs:List Int):(iv xs).length=xs.length:=by simp[iv]
theorem qL(xs:List Bool):(bv xs).length=xs.length:=by simp[bv]
theorem LI{w w':ahs}(h:hp w'=hp w):sub (hp w) (hp w'):=Gr.of_eq h
def bt(bs:List Bool):Nat->Bool:=λk=>bs.getD k false
def mb(bs:List Bool):List Nat:=dj bs.length (bt bs)
def iW(bs:List Bool):List Int:=(mb bs).map λ(k:Nat)=>(k:Int)
def bF(bs:List Bool):Nat:=de bs.length (bt bs)
def Hc(n:Nat)(m:Nat->Bool):List Bool:=(List.range n).map m
def db(bs:List Bool)(xs:List Int):List Bool:=Hc bs.length (fY bs.length (bt bs) xs)
def hasB(bs:List Bool)(k:Int):Bool:=decide (0<=k)&&bt bs k.toNat
def yk(size:Int)(xs:List Int):List Bool:=db (List.replicate (Kx size) false) xs
def dr(bs:List Bool)(vss:List (List Bool)):List Bool:=vss.foldl (λb v=>db b (iW v)) bs
theorem sg(n:Nat)(m:Nat->Bool):(Hc n m).length=n:=by simp[Hc]
theorem bu(bs:List Bool)(xs:List Int):(db bs xs).length=bs.length:=sg _ _
theorem LJ(size:Int)(xs:List Int):(yk size xs).length=Kx size:=by simp[yk,bu]
theorem tV{bs:List Bool}{k:Nat}(h:bs.length<=k):bt bs k=false:=by simp_all[bt]
theorem LK{bs:List Bool}{k:Nat}{b:Bool}(h:bs[k]? =some b):bt bs k=b:=by simp_all[bt]
theorem Gb{n:Nat}{m:Nat->Bool}(hm:∀k,n<=k->m k=false):bt (Hc n m)=m:=by
 funext k
 by_cases h:k<n
 ·simp_all[LK,Hc]
 simp_all[tV,sg]
theorem Su(bs:List Bool):Hc bs.length (bt bs)=bs:=by
 apply agq
 grind[Hc,bt,List.getElem?_eq_none,sg]
theorem kO{cs bs:List Bool}(hl:cs.length=bs.length)(h:∀k,bt cs k=bt bs k):cs=bs:=by
 rw[<-Su cs,<-Su bs,hl];congr 1;grind
theorem eF(bs:List Bool)(xs:List Int):bt (db bs xs)=fY bs.length (bt bs) xs:=
 Gb λk u=>by grind[fY,tV]
theorem qt(n k:Nat):bt (List.replicate n false) k=false:=by grind[bt]
theorem im(bs:List Bool):bF bs<=bs.length:=DD _ _
theorem BG(bs:List Bool):(iW bs).length=bF bs:=by rw[iW,af4];rfl
theorem tW{bs:List Bool}{k:Nat}:k∈mb bs↔bt bs k=true:=by grind[mb,dj,Nat.lt_of_not_le,tV]
theorem ZP{bs:List Bool}{x:Int}:x∈iW bs↔hasB bs x=true:=by
 simp only[iW,afW,tW,hasB,afX,aga]
 grind
theorem LL{bs:List Bool}{k:Nat}:(iW bs).contains (k:Int)=bt bs k:=by
 rw[agM,List.contains_iff_mem,ZP];rfl
theorem acu(bs:List Bool):iv (iW bs)=dN (mb bs):=by rw[iW,Wh]
theorem gW(bs vs:List Bool)(k:Nat):bt (db bs (iW vs)) k=(bt bs k||(decide (k<bs.length)&&bt vs k)):=by
 rw[eF,fY,LL]
theorem Aj(vss:List (List Bool)):∀bs,(dr bs vss).length=bs.length:=by
 induction vss with
 |nil=>exactλ_=>rfl
 |cons v l ih=>exactλbs=>(ih _).trans (bu _ _)
theorem Ub(vss:List (List Bool)):∀(bs:List Bool)(k:Nat),bt (dr bs vss) k=(bt bs k||(decide (k<bs.length)&&vss.any λv=>bt v k)):=by
 induction vss with
 |nil=>simp[dr]
 |cons v l ih=>
  grind[bt,dr,db,iW,bu,gW,decide]
theorem N1{vss:List (List Bool)}{bs v:List Bool}{j:Nat}(h:vss[j]? =some v):dr bs (vss.take (j+1))=db (dr bs (vss.take j)) (iW v):=by simp_all[dr,afM,List.foldl_append]
theorem Uc{bs:List Bool}{xs:List Int}{j:Nat}{x:Int}(h:xs[j]? =some x):db (db bs (xs.take j)) [x]=db bs (xs.take (j+1)):=by
 refine kO (by simp[bu]) λk=>?_;rw[eF,eF,eF];simp only[fY,bu,cQ h,qK,List.contains_cons,List.contains_nil,Bool.or_false]
 grind
theorem Wj{n:Nat}{m m':Nat->Bool}(h:∀k,m k=true->m' k=true):de n m<=de n m':=by
 unfold de;rw[<-List.countP_eq_length_filter,<-List.countP_eq_length_filter]
 simp_all[List.countP_mono_left]
theorem si(bs:List Bool)(xs:List Int):bF bs<=bF (db bs xs):=by simp_all[bF,bu,eF,Wj,fY]
def cN(p:ahr)(bs:List Bool):aC:=BB p bs.length (bt bs)
def eH(h:Hp)(p:ahr)(bs:List Bool):Prop:=
 (p=none/\bs=[])\/∃b a c ws,p=some ⟨b,0,none⟩/\Inv bs.length ws (bt bs)/\aj h ⟨b,0,none⟩ [vS a (List.length ws) c,iI (bs.length:Int)]/\ec a (cw ws) h
theorem ec.mono{h h':Hp}{a:ahr}{vs:List Value}(s:sub h h')(r:ec a vs h):ec a vs h':=by
 rcases r with r|⟨J,e,hc⟩
 ·exact .inl r
 ·exact .inr ⟨J,e,λj v u=>sf s (hc j v u)⟩
theorem eH.mono{h h':Hp}{p:ahr}{bs:List Bool}(s:sub h h')(r:eH h p bs):eH h' p bs:=by
 rcases r with r|⟨b,a,c,ws,J,u,O,U⟩
 ·exact .inl r
 ·exact .inr ⟨b,a,c,ws,J,u,O.mono s,U.mono s⟩
theorem DE{h:Hp}{p:ahr}{bs:List Bool}(ho:cN p bs h):eH h p bs:=by
 rcases ho with⟨u,J,_⟩|⟨b,a,c,ws,u,J,U⟩
 ·exact .inl ⟨u,afY J⟩
 ·obtain⟨g1,g2,d,s1,s2,ha,g3,W,V,O,X,hb,_⟩:=U;exact .inr ⟨b,a,c,ws,u,J,(kM ha).mono s1,(bK hb).mono (O.trans s2)⟩
theorem St.eH{w:ahs}{L:List aC}{p:ahr}{bs:List Bool}(h:St w (cN p bs::L)):eH (hp w) p bs:=by
 obtain⟨u,s,ha⟩:=h.first;exact(DE ha).mono s
theorem eH.le{h:Hp}{p:ahr}{bs:List Bool}(r:Proofs.YtaoaemnefghnbaaGreatDoor.eH h p bs):bs.length<=1024:=by
 rcases r with⟨_,rfl⟩|⟨b,a,c,ws,_,u,_⟩
 ·simp
 ·exact u.le
theorem Wk{w:ahs}{L:List aC}{p:ahr}{n:Nat}{m:Nat->Bool}(h:St w (BB p n m::L)):St w (cN p (Hc n m)::L):=by grind[cN,sg,Gb,V_]
instance:kN (ahr):={ n:=1,rd:=λ_ x vs=>vs=[.pointer x],mono:=λ_ h=>h,len:=λh=>by simp_all,val:=λx=>.pointer x,one:=Iff.rfl,n1:=rfl }
theorem aew{A:aC}{w:ahs}(h:A (hp w)):St w [A]:=⟨hp w,λ_=>none,λ_=>.inr rfl,sZZ,λ_ _ h=>(nomatch h),h,trivial⟩
section
variable{w:ahs}{L:List aC}{a:ahr}{l c:Nat}{p q:ahr}{bs cs:List Bool}{xs:List Int}{ws:List Nat}
theorem N2(h:ec a (cw ws) (hp w))(hlt:∀x∈ws,x<2^64){k:Nat}(hk:k/64<ws.length)(hb:k<4096):
  ρ 199 [vS a ws.length c,iI (k:Int)] w λv w'=>v=vB (mem ws k)/\w'=w:=by
 refine oP ?_;obtain⟨J,rfl,u⟩:=Ga (aew h) (LD hk)
 refine⟨Qw,?_,?_⟩
 ·rw[z7];exact BD ω
 ·rw[z7,Qv]
  refine ay rfl hk ⟨_,u,Qw,?_,?_,rfl⟩
  ·show(0:Int)<=_;omega
  ·rw[NR (BC hlt _) (Nat.mod_lt _ ω)];rfl
theorem LM(h:eH (hp w) p bs):ρ 171 [.pointer p] w λv w'=>v=iI (bs.length:Int)/\w'=w:=by
 refine ql ?_
 rcases h with⟨rfl,rfl⟩|⟨b,a,c,ws,rfl,hi,h,_⟩
 ·exact⟨rfl,rfl⟩
 ·exact⟨_,h.cell sZZ (j:=1) rfl,rfl,rfl⟩
theorem KA(h:eH (hp w) p bs)(k:Int):ρ 168 [.pointer p,iI k] w λv w'=>v=vB (hasB bs k)/\w'=w:=by
 refine Dx ?_;unfold hasB
 refine ae (λh0=>?_) λh0=>?_
 ·refine(LM h).mono ?_;rintro _ _⟨rfl,rfl⟩
  refine⟨_,rfl,ae (λu=>?_) λu=>?_⟩
  ·have h0:=afO h0;have u:=afO u
   rcases h with⟨rfl,rfl⟩|⟨b,a,c,ws,rfl,hi,h,J⟩
   ·simp at u;omega
   ·obtain⟨j,rfl⟩:=Int.eq_ofNat_of_zero_le h0;have O:j<bs.length:=ω
    refine⟨a,ws.length,c,h.cell0 sZZ,?_⟩;refine(N2 J hi.lt (Wa hi O) (by have:=hi.le;omega)).mono ?_;rintro _ _⟨rfl,rfl⟩;refine⟨_,rfl,?_,rfl⟩;simp[hi.mm]
  ·refine⟨?_,rfl⟩;have u:=afN u;rw[tV (k:=k.toNat) ω];simp
 ·exact⟨by rw[h0];rfl,rfl⟩
theorem zP(h:St w (cN p bs::L))(hx:∀h,aG L h->aY h xs a l)(hb:l<=4611686018427387904):
  ρ 103 [.pointer p,vS a l c] w λv w'=>v=iI ((bF (db bs xs):Int)-bF bs)/\St w' (cN p (db bs xs)::L):=by
 obtain⟨h0,hl,U,J⟩:=h.freeze;have hx:=hx h0 hl;refine(abK (D:=has h0) (L:=[]) (λh O=>hx.iv.mono O) J hx.1 hb).mono ?_;rintro _ w'⟨rfl,u⟩
 refine⟨?_,?_⟩
 ·simp[bF,bu,eF]
 ·have u:=Wk u;exact u.fb hl
theorem Ud(size:Int)(hx:aY (hp w) xs a l)(hb:l<=4611686018427387904):
  ρ 102 [iI size,vS a l c] w λv w'=>∃b,v=.pointer (some ⟨b,0,none⟩)/\St w' (cN (some ⟨b,0,none⟩) (yk size xs)::all w):=by
 refine(afl size (D:=has (hp w)) (L:=[]) (λh J=>hx.iv.mono J) (St.all w) hx.1 hb).mono ?_;rintro _ w'⟨b,rfl,u⟩;refine⟨b,rfl,?_⟩;have u:=Wk u
 have e:Hc (Kx size) (fY (Kx size) (λ_=>false) xs)=yk size xs:=by
  unfold yk db;rw[agT];congr 2
  grind[qt]
 simp_all
theorem KB(h:eH (hp w) p bs):ρ 172 [.pointer p] w λv w'=>∃b,v=.func (.func qo) #[] #[.pointer (some ⟨b,0,none⟩)]/\St w' (Wd b bs.length (bt bs)::all w):=by
 refine Dz ?_;refine ag (St.all w) λb w1 J=>?_
 rcases h with⟨rfl,rfl⟩|⟨Z,a,c,ws,rfl,hi,W,u⟩
 ·refine⟨b,rfl,BF.2 ⟨none,0,[],inv_zero (afL _),?_⟩⟩;exact(aI 1 J).swap
 ·have hl:ws.length<=1024:=by rw[hi.len];have:=hi.le;omega
  refine⟨a,ws.length,c,W.cell0 J.aQ,?_⟩
  refine(ZM (D:=has (hp w)) (λh Y=>u.mono Y) J.swap hl (λe=>?_)).mono ?_
  ·subst e
   rcases u with u|⟨_,u,_⟩
   ·exact acq u
   simp_all
  rintro _ w2⟨U,O,rfl,X⟩;refine⟨_,_,_,rfl,?_⟩;refine aR X.Nj σ λw3 V=>?_;exact⟨b,rfl,BF.2 ⟨U,O,ws,hi,V⟩⟩
theorem DF(h:eH (hp w) p bs)(ht:dK (hp w)):ρ 89 [.pointer p] w λv w'=>∃a' c',v=vS a' (bF bs) c'/\St w' (own 1 a' (bF bs) c' (iv (iW bs))::all w):=by
 refine wF ?_;have hn:=h.le;have hc:=im bs;refine(KB h).mono ?_;rintro _ V⟨b,rfl,u⟩;refine⟨_,_,rfl,?_⟩;refine(T_ (rfl:Fn _=true) oH (λh O=>ec.mono (lU O) ht) (by grind[mh,bF]) u).mono ?_;rintro _ U⟨a',c',rfl,J⟩;refine⟨_,_,_,rfl,a',c',rfl,?_⟩;rw[acu];exact J.swap.tail
theorem jBZ(h:St w (own 1 a l c (iv xs)::L)):aY (hp w) xs a l:=by
 have hl:=fO h;obtain⟨u,s,ha⟩:=h.first;exact(bp (by simp_all[iv]) (bK ha)).mono s
end
theorem KC{bs cs:List Bool}(h:∀k,bt cs k=true->bt bs k=true):db bs (iW cs)=bs:=by grind[kO,bu,gW,bt]
theorem Jw(bs:List Bool)(vss:List (List Bool))(k:Nat)(h:bt bs k=true):bt (dr bs vss) k=true:=by simp_all[Ub]
theorem Qx(vss:List (List Bool)):∀bs,bF bs<=bF (dr bs vss):=by
 induction vss with
 |nil=>exactλ_=>afR _
 |cons v l ih=>exactλbs=>agn (si bs (iW v)) (ih _)
theorem Sv{ks:List Nat}{i:Nat}{us:List Value}(h:(rM ks)[i]? =some us):∃k,ks[i]? =some k/\us=[iI (k:Int)]:=by
 unfold rM at h
 grind
theorem ZQ(ks:List Nat):(rM ks).length=ks.length:=by simp[rM]
theorem Sw{bs:List Bool}{i k:Nat}(h:(mb bs)[i]? =some k):(iW bs)[i]? =some (k:Int):=by grind[iW]
theorem kP{L:List aC}{A:aC}:∀{h:Hp},A∈L->aG L h->∃h1,sub h1 h/\A h1:=by
 induction L with
 |nil=>simp
 |cons B L ih=>
  rintro h u⟨h1,V,d,s1,s2,ha,hl⟩
  rcases af6.1 u with rfl|u
  ·grind
  ·obtain⟨O,J,U⟩:=ih u hl;exact⟨O,J.trans s2,U⟩
section
variable{w:ahs}{L:List aC}{a:ahr}{l c:Nat}{p q:ahr}{bs cs:List Bool}{xs:List Int}{os:List (ahr)}{vss:List (List Bool)}
theorem Sx(h:St w (cN p bs::L))(hx:∀h,aG L h->aY h os a l)(hv:vss.length=os.length)(ho:∀h,aG L h->∀(i:Nat) q v,os[i]? =some q->vss[i]? =some v->eH h q v\/(q=p/\v=bs))
  (ht:∀h,aG L h->dK h) (hb:l<=4611686018427387904):
  ρ 349 [.pointer p,vS a l c] w λv w'=>v=iI ((bF (dr bs vss):Int)-bF bs)/\St w' (cN p (dr bs vss)::L):=by
 obtain⟨h0,hl,_,V⟩:=h.freeze;have hx:=hx h0 hl;have ho:=ho h0 hl;have ht:dK h0:=ht h0 hl;have hn:=h.eH.le;have done:∀w',St w' (cN p (dr bs vss)::[has h0])->St w' (cN p (dr bs vss)::L):=λw' h=>h.fb hl;clear h hl;refine Ai ?_;refine ag V λb1 w1 V=>ag V λZ w2 V=>aR V σ λw3 V=>?_;have cb:∀j,bF (dr bs (vss.take j))<=1024:=λj=>by grind[im,dr,Aj]
 refine⟨λn1 w=>∃j:Nat,n1=j/\j<=l/\St w [az Z [iI ((bF (dr bs (vss.take j)):Int)-bF bs)],az b1 [.pointer p],cN p (dr bs (vss.take j)),has h0],λn1 _=>l-n1.toNat,
  ⟨0,rfl,ω,?_⟩,?_⟩
 ·show St w3 [az Z [iI ((bF bs:Int)-bF bs)],_,_,_]
  rw[Int.sub_self];exact V
 rintro _ n1 w4⟨j,rfl,hj,X⟩
 refine ae (λJ=>?_) λJ=>?_
 ·have J:j<l:=by simp_all
  obtain⟨q,ad,hq,rfl,hc⟩:=hx.dS J;have a6:sub h0 (hp w4):=(X.pick 4 [3]).has;refine ay rfl J ⟨q,hc _ a6,?_⟩;obtain⟨v,a5⟩:∃v,vss[j]? =some v:=⟨vss[j]'(by grind),afJ _⟩;have hU:=N1 (bs:=bs) a5;have a8:(dr bs (vss.take j)).length=bs.length:=Aj _ _;have av:=cb j;have a4:=cb (j+1);have c0:=Qx (vss.take j) bs;have c1:=si (dr bs (vss.take j)) (iW v);rw[<-hU] at c1
  obtain⟨u,a7,Y⟩:∃u,eH (hp w4) q u/\db (dr bs (vss.take j)) (iW u)=dr bs (vss.take (j+1)):=by
   rcases ho j q v hq a5 with hr|⟨rfl,rfl⟩
   ·exact⟨v,hr.mono a6,hU.symm⟩
   ·refine⟨dr v (vss.take j),(X.pick 4 [2]).eH,?_⟩
    simp_all[KC,Jw]
  rw[<-Y] at c1 a4;generalize hU0:dr bs (vss.take j)=U at*;refine(KB a7).mono ?_;rintro _ w5⟨b3,rfl,h5⟩;have h6:=h5.fb X;refine⟨_,_,rfl,a_.2 ⟨rfl,?_⟩⟩
  refine⟨rM (mb u),Wd b3 u.length (bt u),dK,λi=>aV [az Z [iI ((bF (db U ((iW u).take i)):Int)-bF bs)],az b1 [.pointer p],cN p (db U ((iW u).take i))],pu False,λ_=>pu False,[has h0],?_,(λh hh=>ec.mono (lU hh) ht),oH,?_,?_,?_,?_,trivial⟩
  ·have h7:=h6.pick 5 [1,2,3,0,4];have e:db U []=U:=kO (bu _ _) λk=>by simp[eF,fY]
   show St w5 [aV [az Z [iI ((bF (db U []):Int)-bF bs)],_,cN p (db U [])],_,_]
   rw[e];exact(St.flat.2 (show St w5 ([_,_,_]++[_,_]) from h7))
  ·intro x hx;obtain⟨i,hi,rfl⟩:=List.mem_iff_getElem.1 hx;obtain⟨k,_,e⟩:=Sv (afJ hi)
   simp_all
  ·intro i x hx L' w6 _ a9;obtain⟨k,hk,e⟩:=Sv hx;cases e;refine⟨_,a9,λb4 w7 _ aa w8 hd=>?_⟩;have W:=St.flat.1 (aa.drawn hd);refine⟨λw=>w.cell? ⟨Z,0,none⟩=some (iI ((bF (db U ((iW u).take i)):Int)-bF bs))/\w.cell? ⟨b1,0,none⟩=some (.pointer p),⟨W.cell 0,W.swap.cell 0⟩,_,λw h=>h.1,_,λw h=>h.2,?_⟩;refine ag W λb4 w9 h9=>⟨⟨h9.swap.cell 0,h9.Nj.cell 0⟩,?_⟩
   refine(zP (xs:=[(k:Int)]) (l:=1) (h9.pick 4 [3,0,1,2]) (λh hh=>?_) ω).mono ?_
   ·obtain⟨V,_,_,s1,_,⟨e,he⟩,_⟩:=hh;exact(bp (xs:=[(k:Int)]) rfl (.inr ⟨_,rfl,kM ⟨e,he⟩⟩)).mono s1
   ·rintro _ al⟨rfl,O⟩;rw[Uc (Sw hk)] at O ⊢;have k1:=si U ((iW u).take i);have k2:=im (db U ((iW u).take i));have k3:=im (db U ((iW u).take (i+1)));rw[bu] at k2 k3;refine⟨_,rfl,⟨(O.pick 4 [2]).cell 0,(O.pick 4 [3]).cell 0⟩,⟨ω,ω⟩,?_⟩;refine aR (O.pick 4 [2,3,0]) σ λam a0=>St.flat.2 ?_;have e:((bF (db U ((iW u).take i)):Int)-bF bs+((bF (db U ((iW u).take (i+1))):Int)-bF (db U ((iW u).take i))))=(bF (db U ((iW u).take (i+1))):Int)-bF bs:=ω
    rw[e] at a0;exact a0
  ·intro w6 h6;refine⟨⟨ω,ω⟩,⟨j+1,σ,ω,?_⟩,bY J⟩;have e:(iW u).take (rM (mb u)).length=iW u:=af3 (by rw[ZQ,BG];exact afR _);dsimp only at h6;rw[e,Y] at h6;exact(show St w6 [_,_,_,_,_] from St.flat.1 h6).pick 5 [0,1,2,4]
  simp[St.pu]
 ·have J:j=l:=by grind
  subst J;rw[<-hx.1,<-hv,af7] at X;refine⟨_,X.cell 0,λw5 h5=>⟨rfl,done _ ?_⟩⟩;exact(X.eq h5).pick 4 [2,3]
end
section
theorem aJ{a:ahr}{ad:Addr}{len i sz:Nat}{k:Addr->Prop}(ha:a=some ad)(hi:i<len)(hk:k (ad.add (eV i sz))):idx a len (i:Int) sz k:=
 ⟨ad,ha,ω,ω,by simpa using hk⟩
section
variable{P:Program}{w w':ahs}{L:List aC}{b:Nat}{us vs:List Value}{e e':TypeId}{A B C D:aC}
theorem aU{Ty:TypeId->Option dp}(hT:dY P Ty){t tx ty:TypeId}{i:dp}{z:Value}(hk:ai Ty t=.slice e)(hkx:ai Ty tx=.slice e')(hi:Ty e=some i)(hz:i.zero=some z)(hzs:(cellsOf z).length=i.size)
  {a:ahr} {l c:Nat} (h:St w (az b vs::own i.size a l c us::L)) (hv:vs.length=i.size) (h1:∀u∈vs,aK u=true) (hb:(l+1)*i.bytes<=140737488355328) (h63:l<9223372036854775807):
  aX P (Builtin.append_ (Array.mk [t,tx]) ty (Array.mk [vS a l c,vS (some ⟨b,0,none⟩) 1 1])) w λv w'=>∃a' c',v=vS a' (l+1) c'/\St w' (own i.size a' (l+1) c' (us++vs)::az b vs::L):=by
 refine ja hT hk hi hz hzs h.swap (n:=1) (news:=vs) ?_ hb ω;refine gk hT hkx ω (.inr ⟨_,rfl,λj u J=>?_⟩) h1;rw[ak,h.cell];omega
theorem Wl{α:Type}[kN α]{Ty:TypeId->Option dp}(hT:dY P Ty){t tx ty:TypeId}{i:dp}{z:Value}(hk:ai Ty t=.slice e)(hkx:ai Ty tx=.slice e')(hi:Ty e=some i)(hz:i.zero=some z)(hzs:(cellsOf z).length=i.size)
  {a a2:ahr} {l c n c2:Nat} {xs:List α} (h:St w (own i.size a l c us::L)) (hs:i.size=1) (hx:aY (hp w) xs a2 n) (h1:∀x:α,aK (kN.val x)=true) (hb:(l+n)*i.bytes<=140737488355328) (h63:l+n<=9223372036854775807):
  aX P (Builtin.append_ (Array.mk [t,tx]) ty (Array.mk [vS a l c,vS a2 n c2])) w λv w'=>∃a' c',v=vS a' (l+n) c'/\St w' (own i.size a' (l+n) c' (us++xs.map kN.val)::L):=by
 have hl:=hx.1
 refine ja hT hk hi hz hzs h (n:=n) (news:=xs.map kN.val) (gk hT hkx (by rw[hs,af4,agE];exact hx.1) ?_ ?_) hb h63
 ·rcases hx.row with O|⟨V,rfl,hc⟩
  ·left;have:xs=[]:=by simpa using O
   subst this;simpa using hl.symm
  ·exact .inr ⟨V,rfl,λj u U=>jA (hc j u U)⟩
 ·intro u J;obtain⟨x,_,rfl⟩:=afW.1 J;exact h1 x
end
theorem Sy{w:ahs}{L:List aC}{a:ahr}{l c:Nat}{bs:List Bool}(h:St w (own 1 a l c (bv bs)::L)):aY (hp w) bs a l:=by
 have hl:=fO h;obtain⟨u,s,ha⟩:=h.first;exact(Hb (by simpa[bv] using hl) (bK ha)).mono s
theorem St.row{w:ahs}{L:List aC}{b:Nat}{vs:List Value}(h:St w (az b vs::L)):aj (hp w) ⟨b,0,none⟩ vs:=by
 obtain⟨u,s,ha⟩:=h.first;exact(kM ha).mono s
theorem dL{c:Bool}{a b:Prop}(h:c=true)(ha:a):br c a b:=by subst h;exact ha
theorem bn{c:Bool}{a b:Prop}(h:c=false)(hb:b):br c a b:=by subst h;exact hb
theorem ew{L:List aC}:∀{h:Hp}(i:Nat),i<L.length->aG L h->∃h1,sub h1 h/\vc L i h1:=by
 induction L with
 |nil=>simp
 |cons A L ih=>
  rintro h i hi⟨h1,U,d,s1,s2,ha,hl⟩;cases i with
  |zero=>exact⟨h1,s1,ha⟩
  |succ i=>
   obtain⟨J,u,O⟩:=ih i (by simp_all) hl;exact⟨J,u.trans s2,O⟩
def DG:List aC->Nat
 |[]=>0
 |_::L=>DG L+1
theorem kQ:∀L,DG L=L.length
 |[]=>rfl
 |_::L=>by simp[DG,kQ L]
theorem aA{L:List aC}{h h0:Hp}(i:Nat)(hl:aG L h)(e:vc L i=has h0:=by rfl)(hi:Nat.blt i (DG L)=true:=by rfl):sub h0 h:=by
 obtain⟨u,s,ha⟩:=ew i (by simp_all[kQ]) hl;rw[e] at ha;exact sub.trans ha s
theorem St.l{w:ahs}{L:List aC}(h:St w L):aG L (hp w):=h
theorem LN{bs:List Bool}{k:Nat}(h:bt bs k=true):k<bs.length:=Nat.lt_of_not_le λhl=>by simp_all[tV]
section
variable{A B C:List Bool}{N:Nat}(hA:A.length=N)(hB:B.length=N)(hC:C.length=N)
include hA hB hC
end
theorem Qy{M:List aC}:∀{i:Nat}{A:aC},M[i]? =some A->M.Perm (A::M.eraseIdx i):=by
 induction M with
 |nil=>simp
 |cons B M ih=>
  intro i A h;cases i with
  |zero=>simp_all
  |succ i=>exact(List.Perm.cons B (ih (by simp_all))).trans (List.Perm.swap _ _ _)
theorem Wm{M:List aC}{B:aC}:∀{i:Nat}{A:aC},M[i]? =some A->(M.set i B).Perm (B::M.eraseIdx i):=by
 induction M with
 |nil=>simp
 |cons C M ih=>
  intro i A h;cases i with
  |zero=>rfl
  |succ i=>exact(List.Perm.cons C (ih (A:=A) (by simp_all))).trans (List.Perm.swap _ _ _)
section
variable{w:ahs}{L M:List aC}{A B:aC}{i:Nat}
theorem St.out(h:St w (aV M::L))(hi:M[i]? =some A):St w (A::aV (M.eraseIdx i)::L):=by
 have u:St w (M.eraseIdx i++A::L):=(St.flat.1 h).perm (((Qy hi).append_right L).trans agC.symm)
 grind[St.flat,swap]
theorem St.back(h:St w (B::aV (M.eraseIdx i)::L))(hi:M[i]? =some A):St w (aV (M.set i B)::L):=by
 have u:=St.flat.1 h.swap;exact St.flat.2 (u.perm (agC.trans ((Wm hi).symm.append_right L)))
theorem St.snoc(h:St w (A::aV M::L)):St w (aV (M++[A])::L):=by
 have u:=St.flat.1 h.swap
 simp_all[St.flat]
theorem ZR{h:Hp}(hs:aG (aV M::L) h)(hi:A∈M):∃h1,sub h1 h/\A h1:=by
 obtain⟨h1,U,d,s1,s2,ha,hl⟩:=hs;obtain⟨J,u,O⟩:=kP hi ha;exact⟨J,u.trans s1,O⟩
end
theorem Sz{α β:Type}(f:α->β->aC){ps:List α}{vs:List β}{i:Nat}{p:α}{v':β}(hp:ps[i]? =some p):(List.zipWith f ps vs).set i (f p v')=List.zipWith f ps (vs.set i v'):=by
 apply agq
 grind
def bk(p:Nat):ahr:=some ⟨p,0,none⟩
def pv(os:List (ahr)):List Value:=os.map λo=>Value.pointer o
def cU(ps:List Nat)(vss:List (List Bool)):List aC:=List.zipWith (λp v=>cN (bk p) v) ps vss
theorem afm{L:List aC}{h:Hp}{ps:List Nat}{vss:List (List Bool)}{k m p:Nat}{v:List Bool}(i:Nat)(hl:aG L h)(hp:ps[k]? =some p)(hv:vss[k]? =some v)(hk:k≠m)(e:vc L i=aV ((cU ps vss).eraseIdx m):=by rfl)(hi:Nat.blt i (DG L)=true:=by rfl):eH h (bk p) v:=by
 obtain⟨J,s,ha⟩:=ew i (by simp_all[kQ]) hl;rw[e] at ha;obtain⟨u,s2,hb⟩:=kP (A:=cN (bk p) v) (List.mem_eraseIdx_iff_getElem?.2 ⟨k,hk,by simp_all[cU,List.getElem?_zipWith]⟩) ha;exact(DE hb).mono (s2.trans s)
theorem Ue{L:List aC}{h:Hp}{a:ahr}{l c:Nat}{os:List (ahr)}(i:Nat)(hl:aG L h)(e:vc L i=own 1 a l c (pv os):=by rfl)(hi:Nat.blt i (DG L)=true:=by rfl):os.length=l->aY h os a l:=λu=>by
 obtain⟨J,s,ha⟩:=ew i (by simp_all[kQ]) hl
 rw[e] at ha
 exact(gV u (bK ha)).mono s
theorem af{L:List aC}{h:Hp}{b:Nat}{vs:List Value}(i:Nat)(hl:aG L h)(e:vc L i=az b vs:=by rfl)(hi:Nat.blt i (DG L)=true:=by rfl):aj h ⟨b,0,none⟩ vs:=by
 obtain⟨u,s,ha⟩:=ew i (by simp_all[kQ]) hl;rw[e] at ha;exact(kM ha).mono s
open MapKept
class MVal (κ:Type) where
 val:κ->Value
 inj:∀a b:κ,val a=val b->a=b
class BI (κ:Type) [DecidableEq κ] extends MVal κ where
 kd:TypeDesc
 now:∀a b:κ,Instr.sameNow kd (val a) (val b)=some (decide (a=b))
 key:∀a,IsKey kd (val a)
 bits:∀a,Instr.sameBits 10000 (val a) (val a)=true
instance:BI Int:={ kd:=.int .i64,val:=λx=>iI x,inj:=λa b h=>by simp_all,now:=λa b=>by rfl,key:=λ_=>rfl,bits:=λa=>by simp[Instr.sameBits] }
instance:BI ByteArray:={ kd:=.string,val:=λx=>.string x,inj:=λa b h=>by simp_all,now:=λa b=>by simp only[Instr.sameNow,Option.some.injEq];rw[agM,aga];simp[bytes_beq],key:=λ_=>trivial,bits:=λa=>by simp only[Instr.sameBits];exact(bytes_beq a a).2 rfl }
section
variable{κ:Type}[DecidableEq κ]{P:Program}{w:ahs}{L:List aC}
def assoc(k:κ):List (κ×Value)->Option Value
 |[]=>none
 |(a,v)::m=>if k=a then some v else assoc k m
def cO(k:κ)(v:Value):List (κ×Value)->List (κ×Value)
 |[]=>[(k,v)]
 |(a,u)::m=>if k=a then(k,v)::m else(a,u)::cO k v m
theorem fl(k a:κ)(v:Value):∀m,assoc a (cO k v m)=if a=k then some v else assoc a m
 |[]=>by rfl
 |(b,u)::m=>by
  unfold cO
  by_cases h:k=b
  ·simp_all[assoc]
  ·rw[afV h]
   by_cases hab:a=b
   ·simp_all[assoc,Ne.symm]
   ·simp[assoc,hab,fl k a v m]
theorem Hd(k:κ)(v:Value):∀m,(cO k v m).length=if(assoc k m).isSome then m.length else m.length+1
 |[]=>rfl
 |(b,u)::m=>by
  unfold cO assoc
  by_cases h:k=b
  ·grind
  ·simp only[afV h,agk,Hd k v m]
   grind
variable[MVal κ]
structure zQ(es:Array MapEntry)(clock:Nat)(m:List (κ×Value)):Prop where
 eq:es.toList.map (λe=>(e.key,e.val))=m.map λx=>(MVal.val x.1,x.2)
 nd:(es.toList.map (·.born)).Nodup
 lt:∀e∈es.toList,e.born<clock
def mapA(b:Nat)(m:List (κ×Value)):aC:=λh=>∃es clock,h b=some (.map es clock)/\zQ es clock m
theorem mA{b:Nat}{m:List (κ×Value)}:St w (mapA b m::L)↔∃es clock,zQ es clock m/\St w (blk b (.map es clock)::L):=
 ⟨λ⟨O,J,d,s1,s2,⟨es,cl,ha,u⟩,hl⟩=>⟨es,cl,u,O,J,d,s1,s2,ha,hl⟩,λ⟨es,cl,u,O,J,d,s1,s2,ha,hl⟩=>⟨O,J,d,s1,s2,⟨es,cl,ha,u⟩,hl⟩⟩
theorem dT{b:Nat}(h:St w (blk b (.map #[] 0)::L)):St w (mapA b ([]:List (κ×Value))::L):=mA.2 ⟨_,_,⟨rfl,σ,σ⟩,h⟩
structure aex(k:κ)(m:List (κ×Value))(r:Option (Nat×Value)):Prop where
 eq:(r.map (·.2))=assoc k m
 at':∀j v,r=some (j,v)->j<m.length/\(m[j]?).map (·.1)=some k/\∀u,cO k u m=m.set j (k,u)
 no:r=none->∀u,cO k u m=m++[(k,u)]
structure wM(P:Program)(kt:TypeId)(κ:Type)[DecidableEq κ][MVal κ]:Prop where
 check:∀(w:ahs)(em:Bool)(k:κ),(Instr.checkKey em 10000 kt (MVal.val k)).run P w=.ok () w
 find:∀(w:ahs)(k:κ)(es:List MapEntry)(m:List (κ×Value)),es.map (λe=>(e.key,e.val))=m.map (λx=>(MVal.val x.1,x.2))->∃r,(Instr.findKey kt (MVal.val k) es).run P w=.ok r w/\aex k m r
 bits:∀k:κ,Instr.sameBits 10000 (MVal.val k) (MVal.val k)=true
end
section
variable{κ:Type}[DecidableEq κ]{P:Program}{w:ahs}{L:List aC}
theorem He[BI κ](k:κ):∀(es:List MapEntry)(m:List (κ×Value))(i:Nat),es.map (λe=>(e.key,e.val))=m.map (λx=>(MVal.val x.1,x.2))->
  ∃r,Instr.findNow (BI.kd κ) (MVal.val k) es i=some r/\(r.map (·.2))=assoc k m/\(∀j v,r=some (j,v)->i<=j/\j<i+m.length/\(m[j-i]?).map (·.1)=some k/\∀u,cO k u m=m.set (j-i) (k,u))/\(r=none->∀u,cO k u m=m++[(k,u)])
 |[],[],i,_=>⟨none,rfl,rfl,λj v h=>(by grind),λ_ u=>rfl⟩
 |[],_::_,i,h=>by grind
 |_::_,[],i,h=>by grind
 |e::es,(a,v)::m,i,h=>by
  simp only[agv,List.cons.injEq,Prod.mk.injEq] at h
  obtain⟨⟨h1,h2⟩,h3⟩:=h
  unfold Instr.findNow
  rw[h1,BI.now]
  by_cases hk:k=a
  ·simp_all[assoc,cO]
  ·obtain⟨r,q1,q2,q3,q4⟩:=He k es m (i+1) h3
   refine⟨r,by simp_all,by simp_all[assoc],λj u hj=>?_,λhn u=>by simp_all[cO]⟩
   obtain⟨p1,p2,p3,p4⟩:=q3 j u hj
   have e1:j-i=(j-(i+1))+1:=ω
   grind[cO]
theorem wM.Hf[BI κ]{kt:TypeId}(hkt:P.underlying kt=some (BI.kd κ)):wM P kt κ where
 check:=λw O k=>run_checkKey (P:=P) (w:=w) hkt (BI.key k) O 9999
 find:=λw k es m u=>by
  obtain⟨r,J,U,W,V⟩:=He k es m 0 u
  refine⟨r,run_findKey (P:=P) (w:=w) hkt J,U,λj v X=>?_,V⟩
  grind
 bits:=BI.bits
variable[MVal κ]
variable{Ty:TypeId->Option dp}
theorem BJ{d:TypeDesc}{k e:TypeId}(h:Kd.map k e=ij d):d=.map k e:=by cases d<;>simp[ij] at h;simp_all
theorem qu(hT:dY P Ty){t kt et:TypeId}{i:dp}{z:Value}(hk:ai Ty t=.map kt et)(hkt:wM P kt κ)(hi:Ty et=some i)(hz:i.zero=some z){b:Nat}{m:List (κ×Value)}(h:St w (mapA b m::L))(k:κ):
  aX P (Instr.lookup t (.map (some b)) (MVal.val k) false) w λv w'=>v=(assoc k m).getD z/\w'=w:=by
 obtain⟨d,U,J⟩:=dv hT hk σ;rw[BJ J] at U;obtain⟨es,cl,⟨V,_,_⟩,h⟩:=mA.1 h;obtain⟨r,hf,W,_,_⟩:=hkt.find w k es.toList m V;obtain⟨O,d2,ha⟩:=rU hT hi;have u:(zeroValue et).run P w=.ok z w:=mF ha.inf (by rw[<-ha.zero,hz]);refine⟨_,w,?_,Ev.refl w,rfl,rfl⟩;have X:=h.get;have hc:=λe=>hkt.check w e k;unfold Instr.lookup;simp only[Sem.run_bind,bm U,Result.andThen_ok,run_getObj_map w b es cl X,Sem.run_pure,hc,hf];rw[<-W];cases r with
 |none=>simp[u]
 |some x=>simp
theorem qv(hT:dY P Ty){t kt et:TypeId}(hk:ai Ty t=.map kt et)(hkt:wM P kt κ){b:Nat}{m:List (κ×Value)}(h:St w (mapA b m::L))(k:κ)(v:Value):
  aX P (Instr.mapUpdate t (.map (some b)) (MVal.val k) v) w λ_ w'=>St w' (mapA b (cO k v m)::L):=by
 obtain⟨d,V,U⟩:=dv hT hk σ;rw[BJ U] at V;obtain⟨es,cl,⟨O,Z,a0⟩,h⟩:=mA.1 h;obtain⟨r,hf,q2,q3,q4⟩:=hkt.find w k es.toList m O;have W:=h.get;have hc:=λe=>hkt.check w e k;have X:es.size=m.length:=by have:=congrArg List.length O;grind
 have ev:∀o:Array MapEntry×Nat,Ev w { w with heap:=w.heap.setIfInBounds b (.map o.1 o.2) }:=λo=>by
  refine⟨rfl,rfl,rfl,σ,?_,?_⟩<;>
  ·grind
 cases r with
 |none=>
  refine⟨(),_,?_,ev (es.push { key:=MVal.val k,val:=v,born:=cl },cl+1),mA.2 ⟨_,_,?_,h.setObj _⟩⟩
  ·unfold Instr.mapUpdate;simp only[Sem.run_bind,bm V,Result.andThen_ok,run_getObj_map w b es cl W,hc,hf]
   grind[run_setObj_map]
  ·refine⟨by simp_all,?_,?_⟩
   ·grind
   grind
 |some x=>
  obtain⟨j,u⟩:=x;obtain⟨p2,p3,p4⟩:=q3 j u rfl;have hj:j<es.size:=ω
  have J:((es[j]?).map (·.key)).getD (MVal.val k)=MVal.val k:=by
   have Y:=congrArg (λl=>l[j]?) O
   grind
  refine⟨(),_,?_,ev (es.modify j λe=>{ e with key:=MVal.val k,val:=v },cl),mA.2 ⟨_,_,?_,h.setObj _⟩⟩
  ·unfold Instr.mapUpdate;simp only[Sem.run_bind,bm V,Result.andThen_ok,run_getObj_map w b es cl W,hc,hf,J,Instr.keyThatStays,hkt.bits,if_true,Sem.run_pure]
   grind[run_setObj_map]
  ·refine⟨?_,?_,?_⟩
   rotate_left
   ·have:(es.modify j λe=>{ e with key:=MVal.val k,val:=v }).toList.map (·.born)=es.toList.map (·.born):=by
     apply agq
     grind
    simp_all
   ·grind[List.getElem?_of_mem,List.mem_of_getElem?]
   rw[p4 v];apply agq;intro i;have Y:=congrArg (λl=>l[i]?) O
   grind
theorem ZS(hT:dY P Ty){t kt et ty:TypeId}(hk:ai Ty t=.map kt et){b:Nat}{m:List (κ×Value)}(h:St w (mapA b m::L)):(Builtin.len_ #[t] ty #[.map (some b)]).run P w=.ok (iI (m.length:Int)) w:=by
 obtain⟨d,O,J⟩:=dv hT hk σ;rw[BJ J] at O;obtain⟨es,cl,⟨U,_,_⟩,h⟩:=mA.1 h;have u:es.size=m.length:=by have:=congrArg List.length U;grind
 have V:=h.get;simp[Builtin.len_,run_underlying O,run_getObj_map w b es cl V,u,goInt]
end
section
variable{κ:Type}[DecidableEq κ][BI κ]{P:Program}{w:ahs}{L:List aC}{Ty:TypeId->Option dp}
theorem cq(hT:dY P Ty){t kt et:TypeId}{i:dp}{z:Value}(hk:ai Ty t=.map kt et)(hkt:P.underlying kt=some (BI.kd κ))(hi:Ty et=some i)(hz:i.zero=some z){b:Nat}{m:List (κ×Value)}(h:St w (mapA b m::L))(k:κ):
  aX P (Instr.lookup t (.map (some b)) (MVal.val k) false) w λv w'=>v=(assoc k m).getD z/\w'=w:=qu hT hk (wM.Hf hkt) hi hz h k
theorem dh(hT:dY P Ty){t kt et:TypeId}(hk:ai Ty t=.map kt et)(hkt:P.underlying kt=some (BI.kd κ)){b:Nat}{m:List (κ×Value)}(h:St w (mapA b m::L))(k:κ)(v:Value):
  aX P (Instr.mapUpdate t (.map (some b)) (MVal.val k) v) w λ_ w'=>St w' (mapA b (cO k v m)::L):=qv hT hk (wM.Hf hkt) h k v
end
def qw(s:ByteArray)(i:Nat):Nat:=(sb s i).toNat
theorem acv(s:ByteArray)(i:Nat):qw s i<256:=(sb s i).toNat_lt
theorem acw{s:ByteArray}{i:Nat}(h:i<s.size):sb s i=s[i]'h:=by
 unfold sb;have:i<s.data.size:=h;rw[Array.getElem?_eq_getElem this];rfl
theorem toList_data(s:ByteArray):s.toList=s.data.toList:=by rw[ByteArray.toList_eq]
theorem Wn(x y:ByteArray):(x.toList==y.toList)=decide (x=y):=by
 rw[agM,beq_iff_eq,aga,toList_data,toList_data]
 grind[WideShapes.bytes_inj]
theorem N3(x:ByteArray):(x.toList==ByteArray.toList (ByteArray.mk (Array.mk [])))=decide (x.size=0):=by
 rw[Wn,agM,aga,aga]
 constructor
 ·rintro rfl;rfl
 ·intro h;refine WideShapes.bytes_inj ?_
  simp_all
def okT(c:Nat):Bool:=decide (32<=c)&&decide (c<=126)&& !decide (c=39)
def tX(s:ByteArray):Bool:=decide (1<=s.size)&&decide (s.size<=16)&&(List.range s.size).all λi=>okT (qw s i)
def okN(i c:Nat):Bool:=decide (c=95)||(decide (65<=c)&&decide (c<=90))||(decide (97<=c)&&decide (c<=122))||(decide (i≠0)&&decide (48<=c)&&decide (c<=57))
def kR(s:ByteArray):Bool:=decide (1<=s.size)&&decide (s.size<=16)&&(List.range s.size).all λi=>okN i (qw s i)
theorem Uf{n:Nat}{p:Nat->Bool}:(List.range n).all p=true↔∀i,i<n->p i=true:=σ
theorem Ug(s:ByteArray)(pos:Nat)(h:pos<s.size)(hb:128<=(s[pos]'h).toNat):128<=(Utf8.decode s pos).1:=by
 have e:s.get! (pos+0)=s[pos]'h:=by
  show s.get! pos=_
  simp[ByteArray.get!,getElem!_pos,h];rfl
 grind[Utf8.decode,Utf8.runeError]
theorem wrap_u8(n:Nat)(h:n<256):IntKind.u8.wrap (n:Int)=n:=by grind[Int.emod_eq_of_lt,IntKind.wrap,IntKind.signed,IntKind.bits]
theorem Wo{a b:Nat}(ha:a<256)(hb:b<256):oM .or .u8 (a:Int) (b:Int)=((a|||b:Nat):Int):=by
 show IntKind.u8.wrap (((BitVec.ofInt 8 (a:Int))|||(BitVec.ofInt 8 (b:Int))).toNat:Int)=_
 grind[BitVec.ofInt,BitVec.ofNat,BitVec.eq_of_toNat_eq,BitVec.toNat_or,BitVec.toNat_ofNat,Nat.mod_eq_of_lt,wrap_u8,Nat.or_lt_two_pow]
theorem afn:∀c:Fin 256,(decide (97<=(c.val|||32))&&decide ((c.val|||32)<=122))=((decide (65<=c.val)&&decide (c.val<=90))||(decide (97<=c.val)&&decide (c.val<=122))):=by decide+kernel
instance instRepList1 {α:Type} [tQ α]:tQ (List α):=inferInstance
def SA(xs:List Int):Prop:=∀i x y,xs[i]? =some x->xs[i+1]? =some y->x<=y
end
section
variable{w:ahs}{L:List aC}{a:ahr}{l c:Nat}{s:ByteArray}{ss:List ByteArray}{xs:List Int}
theorem Uh(r:Int):ρ mf [.int .i32 r] w λv w'=>v=vB (decide (r<32)||decide (126<r)||(r==39))/\w'=w:=by
 refine Ag ?_;refine ae (λh=>⟨by simp_all,rfl⟩) λh=>ae (λu=>⟨by simp_all,rfl⟩) λu=>⟨by grind,rfl⟩
theorem N4(hs:s.size<=4611686018427387904):ρ 319 [.string s,.func (.func mf) #[] #[]] w λv w'=>(∃n:Int,v=iI n/\(decide (n<0)=(List.range s.size).all λi=>okT (qw s i)))/\Gr w w':=by
 refine vj ?_
 have key:ρ 370 [.string s,.func (.func mf) #[] #[],vB true] w λv w'=>(∃n:Int,v=iI n/\(decide (n<0)=(List.range s.size).all λi=>okT (qw s i)))/\Gr w w':=by
  refine vl ?_;have h0:=St.all w;refine⟨_,_,run_range_string w 9 s Tryz.underlying9,Ev.push _ _,_,rfl,?_⟩;have X:=h0.push (.stringIter s 0);generalize w.heap.size=b at X;refine⟨λw'=>∃p,p<=s.size/\(∀i,i<p->okT (qw s i)=true)/\St w' (blk b (.stringIter s p)::all w),λw'=>s.size-w'.iterPos b,⟨0,ω,λi hi=>ω,X⟩,?_⟩;rintro _ J⟨p,hp,W,U⟩;have Z:=U.get
  by_cases u:p<s.size
  ·have V:Ev J (J.iterAt b s (p+(Utf8.decode s p).2)):=by
    refine⟨rfl,rfl,rfl,by simp[World.iterAt],?_,?_⟩<;>
    ·grind[World.iterAt,Array.getElem?_setIfInBounds_ne]
   refine⟨_,_,Lib.run_next_any_at J b s p _ Z u,V,.inr ⟨_,_,rfl,a_.2 ⟨rfl,(Uh _).mono ?_⟩⟩⟩;have O:St (J.iterAt b s (p+(Utf8.decode s p).2)) (blk b (.stringIter s (p+(Utf8.decode s p).2))::all w):=U.setObj _;rintro _ _⟨rfl,rfl⟩;refine⟨_,rfl,?_⟩;have a0:qw s p=(s[p]'u).toNat:=by simp_all[qw,acw]
   refine ae (λY=>?_) λY=>?_
   ·refine⟨⟨_,rfl,?_⟩,O.tail.has⟩;have:okT (qw s p)=false:=by grind[decode_ascii,okT]
    grind
   ·have h5:(s[p]'u).toNat<128:=by grind[Nat.lt_of_not_le,Ug]
    rw[decode_ascii s p u h5] at O Y ⊢;have a4:okT (qw s p)=true:=by grind[okT]
    refine⟨⟨p+1,u,λi hi=>?_,O⟩,?_⟩
    ·grind
    ·have e1:World.iterPos J b=p:=by grind[World.iterPos]
     have e2:World.iterPos (J.iterAt b s (p+1)) b=p+1:=by simp[World.iterPos,O.get]
     grind
  ·refine⟨_,_,Lib.run_next_end_at J b s p _ Z u,Ev.refl _,.inl ⟨rfl,⟨_,rfl,?_⟩,U.tail.has⟩⟩
   grind
 refine key.mono ?_
 simp_all
theorem Wp(hs:s.size<=4611686018427387904):ρ 236 [.string s] w λv w'=>v=vB (tX s)/\Gr w w':=by
 refine Fk _ w _ ?_;unfold wJ;rw[N3];unfold tX
 refine ae (λh=>?_) λh=>?_
 ·have h:1<=s.size:=by grind
  refine ae (λu=>?_) λu=>?_
  ·have u:s.size<=16:=by grind
   refine(N4 hs).mono ?_
   simp_all
  grind[of_decide_eq_false,Gr.refl]
 simp_all[Gr.refl]
theorem Wq(hs:s.size<=4611686018427387904):ρ 240 [.string s] w λv w'=>v=vB (kR s)/\w'=w:=by
 refine Fm _ w _ ?_;unfold wK;rw[N3];refine⟨λn w'=>∃j:Nat,n=j/\j<=s.size/\(∀i,i<j->okN i (qw s i)=true)/\w'=w,λn _=>s.size-n.toNat,⟨0,rfl,ω,λi hi=>ω,rfl⟩,?_⟩;rintro _ n w1⟨j,rfl,hj,O,rfl⟩
 refine ae (λh=>?_) λh=>?_
 ·have h:j<s.size:=by simp_all
  refine⟨⟨ω,ω⟩,?_⟩;rw[afU];have V:=acv s j;have a4:=afn ⟨qw s j,V⟩;have e8:oM .or .u8 ((sb s j).toNat:Int) 32=((qw s j|||32:Nat):Int):=Wo (b:=32) V ω;rw[e8]
  show br (((qw s j:Nat):Int) !=95) _ _
  have a0:okN j (qw s j)=true->aD ((j:Int)+1)/\(∃j':Nat,(j:Int)+1=j'/\j'<=s.size/\(∀i,i<j'->okN i (qw s i)=true)/\w1=w1)/\s.size-((j:Int)+1).toNat<s.size-(j:Int).toNat:=λa6=>by
   refine⟨⟨ω,ω⟩,⟨j+1,σ,ω,λi hi=>?_,rfl⟩,bY h⟩
   grind
  have X:okN j (qw s j)=false->vB false=vB (kR s)/\w1=w1:=λa5=>by
   refine⟨?_,rfl⟩;have:(List.range s.size).all (λi=>okN i (qw s i))=false:=by grind
   simp_all[kR]
  have W:(qw s j=95\/(97<=(qw s j|||32)/\(qw s j|||32)<=122)\/(j≠0/\48<=qw s j/\qw s j<=57))↔okN j (qw s j)=true:=by
   have Z:(97<=(qw s j|||32)/\(qw s j|||32)<=122)↔((65<=qw s j/\qw s j<=90)\/(97<=qw s j/\qw s j<=122)):=by grind
   rw[Z];unfold okN
   grind
  generalize qw s j|||32=d at*
  have u:(qw s j=95\/(97<=d/\d<=122)\/(j≠0/\48<=qw s j/\qw s j<=57))->_:=λhh=>a0 (W.1 hh);have no:¬(qw s j=95\/(97<=d/\d<=122)\/(j≠0/\48<=qw s j/\qw s j<=57))->_:=λhh=>X (by simp_all);clear W a4 e8 a0 X
  refine ae (λh1=>?_) λh1=>?_
  ·have h1:qw s j≠95:=by grind
   refine ae (λh2=>?_) λh2=>?_
   ·have h2:d<97:=by grind
    refine ae (λh3=>no (by grind)) λh3=>ae (λU=>no (by have:((qw s j:Nat):Int)<48:=afO U;omega)) λU=>ae (λY=>no (by have:57<((qw s j:Nat):Int):=afO Y;omega)) λY=>u (.inr (.inr ?_))
    grind[qw,of_decide_eq_false]
   ·have h2:97<=d:=by grind
    refine ae (λh6=>?_) λh6=>u (.inr (.inl ⟨h2,by grind⟩));have h6:122<d:=by grind
    refine ae (λh3=>no (by simp_all)) λh3=>ae (λU=>no (by have:((qw s j:Nat):Int)<48:=afO U;omega)) λU=>ae (λY=>no (by have:57<((qw s j:Nat):Int):=afO Y;omega)) λY=>u (.inr (.inr ?_))
    grind[qw,of_decide_eq_false]
  grind
 ·have h:j=s.size:=by grind
  subst h;have J:=Uf.2 O;unfold kR;rw[J]
  refine ae (λh=>?_) λh=>?_
  ·have h:1<=s.size:=by grind
   refine⟨?_,rfl⟩;have e:decide ((s.size:Int)<=16)=decide (s.size<=16):=by grind
   simp_all
  simp_all
theorem Qz(hx:aY (hp w) xs a l)(hb:l<=4611686018427387904)(x:Int):ρ 257 [vS a l c,iI x] w λv w'=>v=vB (decide (x∈xs))/\w'=w:=by
 refine nw ?_
 have key:ρ 323 [vS a l c,iI x] w λv w'=>(∃n:Int,v=iI n/\decide (0<=n)=decide (x∈xs))/\w'=w:=by
  refine pY ?_;have hl:=hx.1;refine⟨λn w'=>∃j:Nat,n=j/\j<=l/\x∉xs.take j/\w'=w,λn _=>l-n.toNat,⟨0,rfl,ω,σ,rfl⟩,?_⟩;rintro _ n W⟨j,rfl,V,U,rfl⟩
  refine ae (λh=>?_) λh=>?_
  ·have h:j<l:=by simp_all
   obtain⟨y,X,O,rfl,u⟩:=hx.dS h
   refine ay rfl h ⟨y,u _ sZZ,ae (λJ=>?_) λJ=>?_⟩
   ·grind
   ·have J:x≠y:=by simp_all
    refine⟨⟨ω,ω⟩,⟨j+1,σ,ω,?_,rfl⟩,bY h⟩
    simp_all[cQ]
  grind
 refine key.mono ?_
 simp_all
theorem ZT(x:Int):ρ 283 [iI x] w λv w'=>v=vB false/\w'=w:=oU ⟨σ,rfl⟩
theorem acx(x y:Int):ρ 277 [iI x,iI y] w λv w'=>v=vB (decide (x<y))/\w'=w:=by
 refine BA ((ZT x).mono ?_);rintro _ _⟨rfl,rfl⟩;exact⟨_,rfl,bn rfl ⟨rfl,rfl⟩⟩
theorem QA(hx:aY (hp w) xs a l)(hb:l<=4611686018427387904):ρ 258 [vS a l c] w λv w'=>(∃r:Bool,v=vB r/\(r=true↔SA xs))/\hp w'=hp w:=by
 refine nA ?_;have hl:=hx.1
 refine⟨⟨ω,ω⟩,λn w'=>∃j:Nat,n=(l:Int)-1-j/\j<=l/\(∀i x y,l-1-j<=i->xs[i]? =some x->xs[i+1]? =some y->x<=y)/\hp w'=hp w,λn _=>n.toNat,⟨0,ω,ω,?_,rfl⟩,?_⟩
 ·simp_all
 rintro _ n w1⟨j,rfl,hj,u,hw⟩
 refine ae (λh=>?_) λh=>?_
 ·have h:=afO h;have a4:j+1<l:=ω
  intro w2 hd;have J:=(gU hd).trans hw;have e1:((l:Int)-1-j)=((l-1-j:Nat):Int):=ω
  have e2:(((l-1-j:Nat):Int)-1)=((l-2-j:Nat):Int):=ω
  rw[e1,e2];obtain⟨x,ad,a0,rfl,W⟩:=hx.dS (by omega:l-1-j<l);obtain⟨y,a5,U,e3,Y⟩:=hx.dS (by omega:l-2-j<l);cases e3;refine⟨λw'=>hp w'=hp w,J,ay rfl ω ⟨x,λw3 Z=>W _ (LI Z),⟨ω,ω⟩,ay rfl ω ⟨y,λw3 Z=>Y _ (LI Z),(acx x y).mono ?_⟩⟩⟩;rintro _ _⟨rfl,rfl⟩
  refine⟨_,rfl,ae (λO=>?_) λO=>?_⟩
  ·have O:=afO O;refine⟨⟨false,rfl,by simp;intro hs;have:=hs (l-2-j) y x U (by grind);omega⟩,J⟩
  ·have O:=afN O;refine⟨⟨ω,ω⟩,⟨j+1,ω,ω,λi x' y' hi V X=>?_,J⟩,by grind⟩
   by_cases e:i=l-2-j
   ·grind
   ·exact u i x' y' ω V X
 ·have h:=afN h;exact⟨⟨true,rfl,by simp;exactλi x y V X=>u i x y ω V X⟩,hw⟩
theorem QB(hs:s.size<=4611686018427387904):ρ kK [.string s] w λv w'=>v=vB (!kR s)/\w'=w:=by
 refine yN ((Wq hs).mono ?_);simp
theorem Fs(hx:aY (hp w) ss a l)(hb:l<=4611686018427387904)(hs:∀s∈ss,s.size<=4611686018427387904):ρ 255 [vS a l c,.func (.func kK) #[] #[]] w λv w'=>v=vB (!ss.all kR)/\w'=w:=by
 refine gP ?_
 have key:ρ 322 [vS a l c,.func (.func kK) #[] #[]] w λv w'=>(∃n:Int,v=iI n/\decide (0<=n)= !ss.all kR)/\w'=w:=by
  refine jg ?_;have hl:=hx.1;refine⟨λn w'=>∃j:Nat,n=j/\j<=l/\(ss.take j).all kR=true/\w'=w,λn _=>l-n.toNat,⟨0,rfl,ω,rfl,rfl⟩,?_⟩;rintro _ n W⟨j,rfl,V,U,rfl⟩
  refine ae (λh=>?_) λh=>?_
  ·have h:j<l:=by simp_all
   obtain⟨y,X,u,rfl,J⟩:=hx.dS h;refine ay rfl h ⟨y,J _ sZZ,a_.2 ⟨rfl,(QB (hs y (afI u))).mono ?_⟩⟩;rintro _ _⟨rfl,rfl⟩
   refine⟨_,rfl,ae (λO=>?_) λO=>?_⟩
   ·grind
   ·refine⟨⟨ω,ω⟩,⟨j+1,σ,ω,?_,rfl⟩,bY h⟩
    simp_all[afM,List.all_append]
  grind
 refine key.mono ?_
 simp_all
theorem QC{l:List ByteArray}{x:ByteArray}:(l++[x]).Nodup↔l.Nodup/\x∉l:=by grind
theorem N5(hx:aY (hp w) ss a l)(hb:l<=4611686018427387904):ρ 254 [vS a l c] w λv w'=>v=vB (decide ss.Nodup)/\Gr w w':=by
 refine Fp ?_;have hl:=hx.1;refine nI (St.all w) λb w1 h=>?_;have h:=dT (κ:=ByteArray) h
 refine⟨λn w'=>∃(j:Nat)(m:List (ByteArray×Value)),n=j/\j<=l/\(∀s,(assoc s m).isSome=true↔s∈ss.take j)/\(∀s v,assoc s m=some v->∃k:Nat,v=iI (k:Int)/\k<=j)/\m.length<=j/\(m.length=j↔(ss.take j).Nodup)/\St w' (mapA b m::all w),λn _=>l-n.toNat,
  ⟨0,[],rfl,ω,by simp[assoc],λs v h=>by grind[assoc],σ,σ,h⟩,?_⟩
 clear h;rintro _ n w2⟨j,m,rfl,hj,W,V,Y,O,h⟩
 refine ae (λu=>?_) λu=>?_
 ·have u:j<l:=by simp_all
  obtain⟨s,ad,X,rfl,J⟩:=hx.dS u;refine ay rfl u ⟨s,J _ h.aQ,(cq (κ:=ByteArray) aT (rfl:ai Ty _=.map _ _) Tryz.underlying9 rfl rfl h s).mono ?_⟩;rintro _ _⟨rfl,rfl⟩
  obtain⟨k,Z,a0⟩:∃k:Nat,(assoc s m).getD (iI 0)=iI (k:Int)/\k<=j:=by
   cases ha:assoc s m with
   |none=>grind
   |some v=>grind
  refine⟨_,Z,⟨ω,ω⟩,(dh (κ:=ByteArray) aT (rfl:ai Ty _=.map _ _) Tryz.underlying9 h s _).mono ?_⟩;rintro _ w4 h;have et:ss.take (j+1)=ss.take j++[s]:=by simp_all[afM]
  refine⟨⟨ω,ω⟩,⟨j+1,_,σ,ω,λs'=>?_,λs' v U=>?_,?_,?_,h⟩,bY u⟩
  ·grind[fl]
  ·rw[fl] at U
   split at U
   ·cases U;exact⟨k+1,σ,ω⟩
   grind
  ·grind[Hd]
  grind[Hd,QC,assoc]
 ·have u:j=l:=by grind
  subst u;refine⟨_,ZS aT (rfl:ai Ty _=.map _ _) h,_,rfl,?_,h.aQ⟩;rw[<-hl,af7] at O;congr 1
  grind
end
abbrev dU:TypeId:=3
abbrev bL:=@Tryz.underlying3
abbrev Wr:TypeId:=5
abbrev Ui:=@Tryz.underlying5
abbrev sj:TypeId:=9
abbrev oV:=@Tryz.underlying9
abbrev Ws:TypeId:=24
abbrev Jy:TypeId:=39
abbrev bw:TypeId:=86
abbrev qM:TypeId:=170
abbrev qN:TypeId:=178
abbrev Ft:TypeId:=188
abbrev cE:TypeId:=193
abbrev BK:=@Tryz.eqGuardType193
abbrev LO:=@Tryz.stoodInHeld193
abbrev LP:=@Tryz.isAgg193
abbrev LQ:=@Tryz.sizeOf193
abbrev Jz:TypeId:=194
abbrev zR:TypeId:=197
abbrev N6:TypeId:=203
abbrev N7:TypeId:=235
abbrev dD:TypeId:=276
abbrev kg:TypeId:=288
abbrev LR:=@Tryz.eqGuardType288
abbrev LS:=@Tryz.stoodInHeld288
abbrev nY:TypeId:=297
abbrev JA:=@Tryz.eqGuardType297
abbrev JB:=@Tryz.stoodInHeld297
abbrev wN:TypeId:=373
abbrev Fu:=@Tryz.stoodInHeld373
abbrev wO:TypeId:=376
abbrev fZ:TypeId:=379
abbrev QD:TypeId:=426
abbrev N8:=@Tryz.underlying426
abbrev su:FuncId:=96
abbrev iq:FuncId:=187
abbrev fm:FuncId:=188
abbrev Fv:=@Tryz.func188
abbrev Hg:FuncId:=189
abbrev yQ:FuncId:=190
abbrev BL:FuncId:=283
abbrev lI:=@Tryz.func350
structure mP where
 name:ByteArray
 level:Int
structure aO where
 left:Int
 right:List Int
 level:Int
structure ah where
 terms:List mP
 cM:List ByteArray
 levels:List Int
 start:Int
 prods:List aO
instance:tQ mP:={ n:=2,rd:=λ_ t vs=>vs=[.string t.name,iI t.level],mono:=λ_ h=>h,len:=λh=>by simp_all }
instance:tQ aO:={ n:=3,rd:=λh p vs=>∃a l c,vs=[iI p.left,vS a l c,iI p.level]/\l<=c/\aY h p.right a l,mono:=λs ⟨a,l,c,h1,h2,h3⟩=>⟨a,l,c,h1,h2,h3.mono s⟩,len:=λ⟨_,_,_,h,_⟩=>by simp_all }
structure GA where
 ta:ahr
 tl:Nat
 tc:Nat
 na:ahr
 nl:Nat
 nc:Nat
 la:ahr
 ll:Nat
 lc:Nat
 s:Int
 pa:ahr
 pl:Nat
 pc:Nat
def GA.cells(x:GA):List Value:=[vS x.ta x.tl x.tc,vS x.na x.nl x.nc,vS x.la x.ll x.lc,iI x.s,vS x.pa x.pl x.pc]
structure gR(h:Hp)(g:ah)(x:GA):Prop where
 t:aY h g.terms x.ta x.tl
 n:aY h g.cM x.na x.nl
 l:aY h g.levels x.la x.ll
 s:x.s=g.start
 p:aY h g.prods x.pa x.pl
 tc:x.tl<=x.tc
 nc:x.nl<=x.nc
 lc:x.ll<=x.lc
 pc:x.pl<=x.pc
theorem gR.mono{h h':Hp}{g:ah}{x:GA}(s:sub h h')(r:gR h g x):gR h' g x:=⟨r.t.mono s,r.n.mono s,r.l.mono s,r.s,r.p.mono s,r.tc,r.nc,r.lc,r.pc⟩
instance:tQ ah:={ n:=5,rd:=λh g vs=>∃x:GA,vs=x.cells/\gR h g x,mono:=λs ⟨x,h1,h2⟩=>⟨x,h1,h2.mono s⟩,len:=λ⟨_,h,_⟩=>by rw[h];rfl }
def mi(g:ah):Prop:=g.terms.length<=17592186044416/\g.cM.length<=17592186044416/\g.levels.length<=17592186044416/\g.prods.length*40<=140737488351232/\(∀t∈g.terms,t.name.size<=140737488351232/\anyI t.level)/\(∀s∈g.cM,s.size<=140737488351232)/\(∀p∈g.prods,p.right.length<=17592186043904)
theorem qx{L:List aC}{b:Nat}:∀(vs us:List Value)(i:Nat){w:ahs},i+vs.length<=us.length->St w (az b us::L)->St (du w ⟨b,0,none⟩ i vs) (az b (us.take i++vs++us.drop (i+vs.length))::L)
 |[],us,i,w,_,h=>by simp_all[du]
 |v::vs,us,i,w,hl,h=>by
  have h1:=h.acj i v
  have h2:=qx vs (us.set i v) (i+1) (by grind) h1
  simp only[agk] at hl
  have e:(us.set i v).take (i+1)++vs++(us.set i v).drop (i+1+vs.length)=us.take i++v::vs++us.drop (i+(vs.length+1)):=by
   rw[List.drop_set_of_lt ω,List.take_set,afM,agS _ _ (by grind)]
   have:us[i]? =some (us[i]'ω):=afJ _
   rw[this]
   have e2:i-(us.take i).length=0:=by grind
   grind
  simp_all[du,ak]
theorem tY{w:ahs}{L:List aC}{b:Nat}{us:List Value}(h:St w (az b us::L)):∀(vs:List Value)(i:Nat),i+vs.length<=us.length->(∀v∈vs,aK v=true)->mE w ⟨b,0,none⟩ i vs
 |[],i,_,_=>trivial
 |v::vs,i,hl,h1=>by
  simp only[agk] at hl
  refine⟨h1 v σ,⟨us[i]'ω,?_⟩,?_,tY h vs (i+1) ω λu hu=>h1 u (by grind)⟩
  ·rw[ak,h.cell];simp
  ·rw[ak];exact h.frozen i none
theorem aL{w:ahs}{L:List aC}{b:Nat}{us vs:List Value}{k:ahs->Prop}(h:St w (az b us::L))(hl:us.length=vs.length)(h1:∀v∈vs,aK v=true)(hk:∀w',St w' (az b vs::L)->k w'):bC w ⟨b,0,none⟩ vs k:=by
 refine⟨tY h vs 0 ω h1,λw' u=>?_⟩;subst u;have J:=qx vs us 0 ω h;refine hk _ ?_
 grind
theorem dw{a:ahr}{len cap lo sz:Nat}{k:ahr->Nat->Nat->Prop}(h1:lo<=len)(h2:len<=cap)(hk:k (fE a lo cap sz) (len-lo) (cap-lo)):lV a len cap (some (lo:Int)) none none sz k:=
 ⟨.inl rfl,.inl rfl,⟨σ,by simp_all⟩,by simpa using hk⟩
def Ak(g:ah)(added:Nat):Prop:=g.terms[0]? =some ⟨.empty,0⟩/\added<g.cM.length/\g.terms.length<=65/\g.cM.length<=64+added/\g.terms.length-1+(g.cM.length-added)<=64/\
 (∀t∈g.terms.drop 1,tX t.name=true/\0<=t.level/\t.level<=g.levels.length)/\(∀(i:Nat) v,g.levels[i]? =some v->1<=v/\v<=3/\∃t∈g.terms.drop 1,t.level=(i:Int)+1)/\
 ((g.terms.drop 1).map mP.name).Nodup/\(g.cM.drop added).Nodup/\∀s∈g.cM.drop added,kR s=true
section
variable{w:ahs}{L:List aC}{g:ah}{x:GA}
theorem ZU(w:ahs)(xo yo:Operand)(s e:ByteArray)(n m:Int):Sem.run Tryz.prog (qH .neq kg xo yo (.agg #[.string s,iI n]) (.agg #[.string e,iI m])) w=.ok (vB (!(decide (s=e)&&(n==m)))) w:=by
 unfold qH;rw[Sem.run_bind,run_eqGuard_agg w _ _ _ _ _ _ LR];simp only[Result.andThen_ok];have ht:Tryz.prog.underlying kg=some (.struct (Tryz.prog.fieldsOf kg)):=by rfl
 have hi:Tryz.prog.underlying dU=some (.int .i64):=bL;have W:Tryz.prog.underlying sj=some .string:=oV;have hf:(Tryz.prog.fieldsOf kg).toList=[{ name:="Name",type:=sj,offset:=0,embedded:=false,tag:="",pkgPath:="",byteOffset:=0 },{ name:="Level",type:=dU,offset:=1,embedded:=false,tag:="",pkgPath:="",byteOffset:=16 }]:=by rfl
 have U:∀(v u:Value)(w:ahs),(part sj #[v,u] 0).run Tryz.prog w=.ok v w:=λv u w=>by rfl
 have V:∀(v u:Value)(w:ahs),(part dU #[v,u] 1).run Tryz.prog w=.ok u w:=λv u w=>by rfl
 have J:∀d w,(Op.equalIn (d+1) sj (.string s) (.string e)).run Tryz.prog w=.ok (s.toList==e.toList) w:=λd w=>run_equalIn_string w d _ _ _ W;have O:∀d w,(Op.equalIn (d+1) dU (iI n) (iI m)).run Tryz.prog w=.ok (n==m) w:=λd w=>run_equalIn_int w d _ _ _ _ _ hi
 have key:(Op.equalIn (9998+1+1) kg (.agg #[.string s,iI n]) (.agg #[.string e,iI m])).run Tryz.prog w=.ok (decide (s=e)&&(n==m)) w:=by
  rw[run_equalIn_agg w (9998+1) kg _ _ ht LS,hf];unfold Op.eqFields;simp only[ne_eq,String.reduceEq,not_false_eq_true,if_true,Sem.run_bind,U,Result.andThen_ok,J,Wn]
  cases hq:decide (s=e)
  ·simp
  ·unfold Op.eqFields;simp only[ne_eq,String.reduceEq,not_false_eq_true,if_true,Sem.run_bind,V,Result.andThen_ok,O,Bool.not_true,Bool.false_eq_true,if_false]
   cases hn:(n==m)
   ·simp
   rfl
 rw[run_neq_struct]
 simp_all
end
theorem ZV{w:ahs}{L:List aC}{a:ahr}{l c:Nat}{ss:List ByteArray}(h:St w (own 1 a l c (ss.map λs=>Value.string s)::L)):aY (hp w) ss a l:=by
 have hl:=fO h;obtain⟨u,s,ha⟩:=h.first;exact(gV (by simp_all) (bK ha)).mono s
section
variable{w:ahs}{L:List aC}{g:ah}{x:GA}
theorem KD(hg:gR (hp w) g x)(hb:mi g)(added:Nat)(ha:added<=1):
  ρ 164 [.agg ⟨x.cells⟩,iI (added:Int)] w λv w'=>(∃r:Bool,v=vB r/\(r=true↔Ak g added))/\Gr w w':=by
 refine Dv ?_;refine ag (St.all w) λk1 Y h=>?_;have gw:Gr w Y:=h.aQ;have hg:=hg.mono gw;have rb:aj (hp Y) ⟨k1,0,none⟩ x.cells:=h.row;obtain⟨b1,b2,b3,b4,b5,b6,b7⟩:=hb;have tl:=hg.t.1;have nl:=hg.n.1;have ll:=hg.l.1;have O:∀w',sub (hp Y) (hp w')->Gr w w':=λw' h=>gw.trans h;have h:=St.all Y;unfold Proofs.YtaoaemnefghnbaaGreatDoor.all at h;have c0:=λ(w':ahs)(s:sub (hp Y) (hp w'))=>rb.cell0 (v:=vS x.ta x.tl x.tc) s;have c1:=λ(w':ahs)(s:sub (hp Y) (hp w'))=>rb.cell s (j:=1) (v:=vS x.na x.nl x.nc) rfl;have c2:=λ(w':ahs)(s:sub (hp Y) (hp w'))=>rb.cell s (j:=2) (v:=vS x.la x.ll x.lc) rfl;generalize hp Y=H at*;have s1:sub H (hp Y):=h.has;have cg:Prop:=True
 refine⟨λb w'=>(b=false↔(g.terms[0]? =some ⟨.empty,0⟩/\added<g.cM.length/\g.terms.length<=65/\g.cM.length<=64+added/\g.terms.length-1+(g.cM.length-added)<=64))/\w'=Y,?_,?_⟩
 ·refine⟨_,_,_,c0 _ s1,ae (λU=>⟨?_,rfl⟩) λU=>?_⟩
  ·simp_all
  have U:0<x.tl:=by grind
  obtain⟨W,ad,vs,ht1,b8,Z,V⟩:=hg.t.get U;have V:vs=[.string W.name,iI W.level]:=V;subst V;have Z:aj H ad [.string W.name,iI W.level]:=by simp_all[bg,Addr.add]
  have e0:(g.terms[0]? =some ⟨.empty,0⟩)↔(W.name=.empty/\W.level=0):=by
   rw[ht1]
   constructor
   ·simp_all
   ·rintro⟨e1,e2⟩;cases W;grind
  rw[e0];refine⟨_,_,_,c0 _ s1,⟨ad,b8,ω,ω,?_⟩⟩;have ez:ad.add (eV (Int.toNat 0) 2)=ad:=by rfl
  rw[ez]
  refine⟨_,_,Z.at s1 rfl,_,ZU _ _ _ _ _ _ _,_,rfl,ae (λJ=>⟨?_,rfl⟩) λJ=>?_⟩
  ·simp only[ag9,Bool.and_eq_false_iff,aho,beq_eq_false_iff_ne] at J;have:¬(W.name=.empty/\W.level=0):=λe=>J.elim (λh=>h e.1) (λh=>h e.2)
   simp_all
  have J:W.name=ByteArray.mk (Array.mk [])/\W.level=0:=by simp_all
  have J:W.name=.empty/\W.level=0:=J
  refine⟨_,_,_,c1 _ s1,ae (λX=>⟨?_,rfl⟩) λX=>?_⟩
  ·grind
  have X:=afN X
  refine⟨_,_,_,c0 _ s1,ae (λh4=>⟨?_,rfl⟩) λh4=>?_⟩
  ·grind
  have h4:=afN h4
  refine⟨_,_,_,c1 _ s1,⟨ω,ω⟩,ae (λh5=>⟨?_,rfl⟩) λh5=>?_⟩
  ·grind
  have h5:=afN h5;refine⟨_,_,_,c0 _ s1,⟨ω,ω⟩,_,_,_,c1 _ s1,⟨ω,ω⟩,⟨ω,ω⟩,?_,rfl⟩
  grind
 rintro _ b _⟨bi,rfl⟩
 refine ae (λam=>?_) λa4=>?_
 ·subst am;refine⟨⟨false,rfl,?_⟩,O _ s1⟩
  constructor
  ·simp
  ·rintro⟨p1,p2,p3,p4,p5,_⟩
   grind
 obtain⟨p1,p2,p3,p4,p5⟩:=bi.1 a4;have hT:1<=x.tl:=by grind
 refine nI h λa5 w3 h=>?_;have h:=dT (κ:=Int) h;refine⟨_,_,_,c0 _ h.aQ,dw (lo:=1) hT hg.tc ?_⟩;have ba:=hg.t.drop hT hg.tc;have ci:(g.terms.drop 1).length=x.tl-1:=ba.1
 --the terminals
 refine⟨λo l' c' n w'=>∃(j:Nat)(m:List (Int×Value)),n=j/\j<=x.tl-1/\j=l'/\(∀t∈(g.terms.drop 1).take j,tX t.name=true/\0<=t.level/\t.level<=g.levels.length)/\(∀n:Int,assoc n m=if∃t∈(g.terms.drop 1).take j,t.level=n then some (iI 1) else none)/\
   St w' [own 1 o j c' (((g.terms.drop 1).take j).map λt=>Value.string t.name),mapA a5 m,has H],λ_ _ _ n _=>x.tl-1-n.toNat,⟨0,[],rfl,ω,rfl,σ,by simp[assoc],aI 1 h⟩,?_⟩
 clear h;rintro _ al _ bb n2 w4⟨j,m,rfl,hj,rfl,bz,hm,h⟩;have s4:sub H (hp w4):=aA 2 h.l
 refine ae (λu=>?_) λu=>?_
 ·have u:j<x.tl-1:=by simp_all
  obtain⟨t,ad,vs,ht1,b8,Z,V⟩:=ba.get u;have V:vs=[.string t.name,iI t.level]:=V;subst V;have ca:t∈g.terms.drop 1:=afI ht1;have bT:t∈g.terms:=List.mem_of_mem_drop ca;obtain⟨q1,q2⟩:=b5 t bT;have et:(g.terms.drop 1).take (j+1)=(g.terms.drop 1).take j++[t]:=by simp_all[afM]
  refine⟨ad,b8,ω,ω,?_⟩;rw[afU];refine⟨_,_,Z.at s4 rfl,ag h λav w5 h=>aL h rfl (by simp[aK]) λw6 h=>?_⟩
  refine⟨λb w'=>(b=false↔(tX t.name=true/\0<=t.level/\t.level<=g.levels.length))/\St w' [az av [.string t.name,iI t.level],own 1 al j bb (((g.terms.drop 1).take j).map λt=>Value.string t.name),mapA a5 m,has H],?_,?_⟩
  ·refine⟨_,h.cell 0,(Wp ω).mono ?_⟩;rintro _ w7⟨rfl,bP⟩;have h:=h.gr bP
   refine⟨_,rfl,ae (λU=>⟨?_,h⟩) λU=>?_⟩
   ·simp_all
   have U:tX t.name=true:=by simp_all
   have cl:w7.cell? ((⟨av,0,none⟩:Addr).add 1)=some (iI t.level):=h.row.cell sZZ rfl
   refine⟨_,cl,ae (λJ=>⟨?_,h⟩) λJ=>?_⟩
   ·grind
   have J:=afN J;refine⟨_,cl,_,_,_,c2 _ (aA 3 h.l),?_,h⟩
   simp_all
  ·clear h;rintro _ b4 w8⟨c9,h⟩
   refine ae (λam=>?_) λa4=>?_
   ·subst am;refine⟨⟨false,rfl,?_⟩,O _ (aA 3 h.l)⟩
    constructor
    ·simp
    ·rintro⟨_,_,_,_,_,p6,_⟩
     grind
   have cd:=c9.1 a4;refine⟨_,h.cell 0,ag h λk26 w9 h=>?_⟩;refine(aU aT (rfl:ai Ty _=.slice _) (rfl:ai Ty _=.slice _) rfl rfl rfl (h.pick 5 [0,2,1,3,4]) rfl (by simp[aK]) (by grind) ω).mono ?_;rintro _ ck⟨a',c',rfl,h⟩;have h:=h.pick 5 [3,0,2,4];refine⟨_,_,_,rfl,_,(af (b:=av) (vs:=[.string t.name,iI t.level]) 2 h.l).cell sZZ (j:=1) rfl,?_⟩;refine(dh (κ:=Int) aT (rfl:ai Ty _=.map _ _) bL h t.level (iI 1)).mono ?_;rintro _ cm h
   refine⟨⟨ω,ω⟩,⟨j+1,cO t.level (iI 1) m,σ,ω,rfl,λt' ch=>?_,λn=>?_,?_⟩,by grind⟩
   ·grind
   ·rw[fl,hm,et]
    by_cases e:n=t.level
    ·simp_all
    ·rw[afV e];have:(∃t'∈(g.terms.drop 1).take j++[t],t'.level=n)↔∃t'∈(g.terms.drop 1).take j,t'.level=n:=by grind
     simp only[this]
   ·have e:(((g.terms.drop 1).take j).map λt=>Value.string t.name)++[.string t.name]=((g.terms.drop 1).take (j+1)).map λt=>Value.string t.name:=by simp_all
    rw[<-e];exact h.pick 4 [1,0,3]
 have u:j=x.tl-1:=by grind
 subst u;rw[af3 ω] at bz hm h;refine⟨_,_,_,c2 _ s4,λn w'=>∃i:Nat,n=i/\i<=x.ll/\(∀(k:Nat) v,k<i->g.levels[k]? =some v->1<=v/\v<=3/\∃t∈g.terms.drop 1,t.level=(k:Int)+1)/\St w' [own 1 al (x.tl-1) bb ((g.terms.drop 1).map λt=>Value.string t.name),mapA a5 m,has H],λn _=>x.ll-n.toNat,⟨0,rfl,ω,λk v hk=>ω,h⟩,?_⟩;clear h s4;rintro _ n7 aa⟨i,rfl,hi,bc,h⟩;have a0:sub H (hp aa):=aA 2 h.l
 have a8:∀{v:Int},g.levels[i]? =some v->¬(1<=v/\v<=3/\∃t∈g.terms.drop 1,t.level=(i:Int)+1)->(∃r:Bool,vB false=vB r/\(r=true↔Ak g added))/\Gr w aa:=λ{v} hv hn=>by
  refine⟨⟨false,rfl,?_⟩,O _ a0⟩
  constructor
  ·simp
  ·rintro⟨_,_,_,_,_,_,p7,_⟩
   grind
 refine ae (λu=>?_) λu=>?_
 ·have u:i<x.ll:=by simp_all
  obtain⟨v,ad,a6,c5,bB⟩:=hg.l.dS u;refine⟨ad,c5,ω,ω,?_⟩;rw[afU];refine⟨_,bB _ a0,ae (λU=>a8 a6 (by grind)) λU=>ae (λJ=>a8 a6 (by grind)) λJ=>⟨⟨ω,ω⟩,?_⟩⟩;refine(cq (κ:=Int) aT (rfl:ai Ty _=.map _ _) bL rfl rfl (h.pick 3 [1]) ((i:Int)+1)).mono ?_;rintro _ _⟨rfl,rfl⟩;rw[hm]
  by_cases he:∃t∈g.terms.drop 1,t.level=(i:Int)+1
  ·rw[afZ he];refine⟨_,rfl,bn rfl ⟨⟨ω,ω⟩,⟨i+1,σ,ω,λk v' hk c8=>?_,h⟩,bY u⟩⟩
   by_cases e:k=i
   ·grind
   ·exact bc k v' ω c8
  ·rw[afV he];exact⟨_,rfl,dL rfl (a8 a6 (λh=>he h.2.2))⟩
 have u:i=x.ll:=by grind
 subst u;have bl:∀(k:Nat) v,g.levels[k]? =some v->1<=v/\v<=3/\∃t∈g.terms.drop 1,t.level=(k:Int)+1:=λk v hv=>bc k v (by grind) hv;refine⟨_,_,_,c1 _ a0,dw (lo:=added) ω hg.nc ?_⟩;have be:=hg.n.drop (k:=added) ω hg.nc;have e1:((g.terms.drop 1).map λt=>Value.string t.name)=((g.terms.drop 1).map mP.name).map λs=>Value.string s:=by rw[List.map_map];rfl
 rw[e1] at h;have rt:aY (hp aa) ((g.terms.drop 1).map mP.name) al (x.tl-1):=ZV h;refine(N5 rt ω).mono ?_;rintro _ c6⟨rfl,c7⟩;have a9:sub H (hp c6):=a0.trans c7
 refine⟨_,rfl,ae (λU=>?_) λU=>?_⟩
 ·have U:=afO U;refine(N5 (be.mono a9) ω).mono ?_;rintro _ bA⟨rfl,cc⟩;have a7:sub H (hp bA):=a9.trans cc
  refine⟨_,rfl,ae (λJ=>?_) λJ=>?_⟩
  ·have J:=afO J;refine(Fs (be.mono a7) ω (λs hs=>by grind)).mono ?_;rintro _ _⟨rfl,rfl⟩;refine⟨_,rfl,⟨_,rfl,?_⟩,O _ a7⟩;rw[Bool.not_not,ag1];exact⟨λX=>⟨p1,p2,p3,p4,p5,bz,bl,U,J,X⟩,λ⟨_,_,_,_,_,_,_,_,_,X⟩=>X⟩
  ·have J:=afN J;refine⟨⟨false,rfl,?_⟩,O _ a7⟩;exact⟨λh=>(by grind),λ⟨_,_,_,_,_,_,_,_,X,_⟩=>absurd X J⟩
 ·have U:=afN U;refine⟨⟨false,rfl,?_⟩,O _ a9⟩;exact⟨λh=>(by grind),λ⟨_,_,_,_,_,_,_,X,_⟩=>absurd X U⟩
end
def wP(acc:List Int)(x:Int):List Int:=if x∈acc then acc else acc++[x]
def fo(l:List Int):List Int:=l.foldl wP []
theorem N9{l:List Int}{j:Nat}{x:Int}(h:l[j]? =some x):fo (l.take (j+1))=wP (fo (l.take j)) x:=by simp_all[fo,afM,List.foldl_append]
theorem Wt{acc:List Int}{x y:Int}:y∈wP acc x↔y∈acc\/y=x:=by grind[wP,id]
theorem Wu(acc:List Int)(x:Int):acc.length<=(wP acc x).length/\(wP acc x).length<=acc.length+1:=by grind[wP]
theorem QE{acc:List Int}(x:Int)(h:acc.Nodup):(wP acc x).Nodup:=by grind[wP,List.nodup_append]
theorem Al(l:List Int):∀acc,acc.Nodup->(l.foldl wP acc).Nodup/\(∀y,y∈l.foldl wP acc↔y∈acc\/y∈l)/\(l.foldl wP acc).length<=acc.length+l.length:=by
 induction l with
 |nil=>simp
 |cons x l ih=>
  intro acc h;obtain⟨J,u,O⟩:=ih _ (QE x h)
  refine⟨J,λy=>?_,?_⟩
  ·show y∈l.foldl wP (wP acc x)↔_
   rw[u,Wt,af6,or_assoc]
  grind[wP,Wu,List.length_cons]
theorem LU(l:List Int):(fo l).Nodup:=(Al l [] σ).1
theorem QF{l:List Int}{y:Int}:y∈fo l↔y∈l:=by simp[Al,fo]
theorem Hh(l:List Int):(fo l).length<=l.length:=by grind[Al,fo]
def ah.T(g:ah):Nat:=g.terms.length
def ah.N(g:ah):Nat:=g.cM.length
def oW(g:ah)(added:Nat)(s:Int):Prop:=1<=s/\s<g.T+g.N/\¬((g.T:Int)<=s/\s<g.T+added)
def Hi(g:ah)(added:Nat)(p:aO):Prop:=((g.T:Int)+added<=p.left/\p.left<g.T+g.N/\0<=p.level/\p.level<=g.levels.length)/\∀s∈p.right,oW g added s
def qO(g:ah)(added:Nat):List Int:=fo ((g.prods.drop added).map aO.left)
def Hj(g:ah)(added:Nat):Prop:=added<g.prods.length/\g.prods.length<=96+added/\(∀p∈g.prods.drop added,Hi g added p)/\
 ((qO g added).length:Int)=(g.N:Int)-added/\(g.T:Int)+added<=g.start/\g.start<g.T+g.N
def mj(g:ah):Prop:=Ak g 0/\Hj g 0/\SA (qO g 0)
def ax(g:ah):Prop:=g.cM[0]? =some .empty/\Ak g 1/\Hj g 1/\∃p,g.prods[0]? =some p/\p.left=(g.T:Int)/\p.right=[g.start]/\p.level=0
section
variable{w:ahs}{L:List aC}{g:ah}{x:GA}
theorem zS(hg:gR (hp w) g x)(hb:mi g)(added:Nat)(ha:added<=1):
  ρ 165 [.agg ⟨x.cells⟩,iI (added:Int)] w λv w'=>∃(a:ahr)(l c:Nat)(xs:List Int)(r:Bool),v=.tuple #[vS a l c,vB r]/\(r=true↔Hj g added)/\(r=true->xs=qO g added)/\St w' (own 1 a l c (iv xs)::all w):=by
 refine wI ?_;refine ag (St.all w) λk1 V h=>?_;have gw:Gr w V:=h.aQ;have hg:=hg.mono gw;have rb:aj (hp V) ⟨k1,0,none⟩ x.cells:=h.row;obtain⟨b1,b2,b3,b4,b5,b6,b7⟩:=hb;have tl:=hg.t.1;have nl:=hg.n.1;have ll:=hg.l.1;have pl:=hg.p.1;have U:∀w'(A:aC),St w' [A,has (hp V)]->St w' [A,has (hp w)]:=λw' A h=>h.fb (bH gw);have h:=St.all V;unfold Proofs.YtaoaemnefghnbaaGreatDoor.all at h;have c0:=λ(w':ahs)(s:sub (hp V) (hp w'))=>rb.cell0 (v:=vS x.ta x.tl x.tc) s;have c1:=λ(w':ahs)(s:sub (hp V) (hp w'))=>rb.cell s (j:=1) (v:=vS x.na x.nl x.nc) rfl;have c2:=λ(w':ahs)(s:sub (hp V) (hp w'))=>rb.cell s (j:=2) (v:=vS x.la x.ll x.lc) rfl;have c3:=λ(w':ahs)(s:sub (hp V) (hp w'))=>rb.cell s (j:=3) (v:=iI x.s) rfl;have c4:=λ(w':ahs)(s:sub (hp V) (hp w'))=>rb.cell s (j:=4) (v:=vS x.pa x.pl x.pc) rfl;unfold Proofs.YtaoaemnefghnbaaGreatDoor.all;generalize hp V=H at*;have s1:sub H (hp V):=h.has;have hT:g.T=x.tl:=tl;have hN:g.N=x.nl:=nl
 have no:∀w',sub H (hp w')->¬Hj g added->∃(a:ahr)(l c:Nat)(xs:List Int)(r:Bool),Value.tuple (Array.mk [vS none 0 0,vB false])=.tuple #[vS a l c,vB r]/\(r=true↔Hj g added)/\(r=true->xs=qO g added)/\St w' [own 1 a l c (iv xs),has (hp w)]:=λw' s hn=>
  ⟨none,0,0,[],false,rfl,⟨λh=>(by grind),λh=>absurd h hn⟩,λh=>(by grind),U _ _ (aI 1 (bH s))⟩
 refine⟨λb w'=>(b=false↔(added<g.prods.length/\g.prods.length<=96+added))/\w'=V,?_,?_⟩
 ·refine⟨_,_,_,c4 _ s1,ae (λJ=>⟨?_,rfl⟩) λJ=>?_⟩
  ·grind
  have J:=afN J;refine⟨_,_,_,c4 _ s1,⟨ω,ω⟩,?_,rfl⟩
  grind
 rintro _ b _⟨a9,rfl⟩
 refine ae (λa7=>?_) λa4=>?_
 ·subst a7;refine no _ s1 ?_;rintro⟨p1,p2,_⟩
  grind
 obtain⟨p1,p2⟩:=a9.1 a4;refine⟨_,_,_,c0 _ s1,_,_,_,c1 _ s1,⟨ω,ω⟩,_,_,_,c0 _ s1,⟨ω,ω⟩,_,_,_,c4 _ s1,dw (lo:=added) ω hg.pc ?_⟩;have aa:=hg.p.drop (k:=added) ω hg.pc;have bT:=aa.1
 refine⟨λo l' c' n w'=>∃j:Nat,n=j/\j<=x.pl-added/\(fo (((g.prods.drop added).map aO.left).take j)).length=l'/\(∀p∈(g.prods.drop added).take j,Hi g added p)/\
   St w' [own 1 o l' c' (iv (fo (((g.prods.drop added).map aO.left).take j))),has H],λ_ _ _ n _=>x.pl-added-n.toNat,⟨0,rfl,ω,rfl,σ,aI 1 h⟩,?_⟩
 clear h;rintro _ o8 _ c7 n1 w3⟨j,rfl,hj,rfl,av,h⟩;have s3:sub H (hp w3):=aA 1 h.l;have bP:(fo (((g.prods.drop added).map aO.left).take j)).length<=j:=agn (Hh _) (by simp_all)
 refine ae (λX=>?_) λX=>?_
 ·have X:j<x.pl-added:=by simp_all
  obtain⟨p,ad,vs,bB,be,bc,ra,Z,rc,rfl,c6,am⟩:=aa.get X;have a5:p∈g.prods.drop added:=afI bB;have ba:((g.prods.drop added).map aO.left)[j]? =some p.left:=by simp_all
  have ca:=am.1;have cd:=b7 p (List.mem_of_mem_drop a5);refine⟨ad,be,ω,ω,?_⟩;rw[afU];refine⟨_,_,_,_,_,bc.at s3 rfl,ag h λb8 w4 h=>aL h rfl (by simp[aK]) λw5 h=>?_⟩;have W:∀w',sub (hp w5) (hp w')->aj (hp w') ⟨b8,0,none⟩ [iI p.left,vS ra Z rc,iI p.level]:=λw' s=>h.row.mono s;have s5:sub H (hp w5):=aA 2 h.l;have d0:=λ(w':ahs)(s:sub (hp w5) (hp w'))=>(W w' s).cell0 (v:=iI p.left) sZZ;have d1:=λ(w':ahs)(s:sub (hp w5) (hp w'))=>(W w' s).cell sZZ (j:=1) (v:=vS ra Z rc) rfl;have d2:=λ(w':ahs)(s:sub (hp w5) (hp w'))=>(W w' s).cell sZZ (j:=2) (v:=iI p.level) rfl
  refine⟨λb w'=>(b=false↔((g.T:Int)+added<=p.left/\p.left<g.T+g.N/\0<=p.level/\p.level<=g.levels.length))/\w'=w5,?_,?_⟩
  ·refine⟨_,d0 _ sZZ,ae (λJ=>⟨?_,rfl⟩) λJ=>?_⟩
   ·grind
   have J:=afN J
   refine⟨_,d0 _ sZZ,ae (λO=>⟨?_,rfl⟩) λO=>?_⟩
   ·grind
   have O:=afN O
   refine⟨_,d2 _ sZZ,ae (λY=>⟨?_,rfl⟩) λY=>?_⟩
   ·grind
   have Y:=afN Y;refine⟨_,d2 _ sZZ,_,_,_,c2 _ s5,?_,rfl⟩
   simp_all
  rintro _ b2 w6⟨a8,rfl⟩
  refine ae (λa7=>?_) λa4=>?_
  ·subst a7;refine no _ s5 ?_;rintro⟨_,_,p3,_⟩;have:=a8.2 (p3 p a5).1;simp_all
  have al:=a8.1 a4;refine⟨_,_,_,d1 _ sZZ,λn w'=>∃i:Nat,n=i/\i<=Z/\(∀(k:Nat) s,k<i->p.right[k]? =some s->oW g added s)/\w'=w6,λn _=>Z-n.toNat,⟨0,rfl,ω,λk s hk=>ω,rfl⟩,?_⟩;rintro _ n8 w7⟨i,rfl,hi,c5,rfl⟩
  refine ae (λu=>?_) λu=>?_
  ·have u:i<Z:=by simp_all
   obtain⟨s,c8,bi,rfl,bz⟩:=am.dS u;have a6:¬oW g added s->_:=λhn=>no w7 s5 (λhq=>hn ((hq.2.2.1 p a5).2 s (afI bi)))
   have good:oW g added s->aD ((i:Int)+1)/\(∃i':Nat,(i:Int)+1=i'/\i'<=Z/\(∀(k:Nat) s,k<i'->p.right[k]? =some s->oW g added s)/\w7=w7)/\Z-((i:Int)+1).toNat<Z-(i:Int).toNat:=λcc=>by
    refine⟨⟨ω,ω⟩,⟨i+1,σ,ω,λk s' hk cg=>?_,rfl⟩,bY u⟩
    grind
   refine ay rfl u ⟨s,bz _ s5,ae (λJ=>a6 ?_) λJ=>ae (λO=>a6 ?_) λO=>⟨_,_,_,c0 _ s5,ae (λY=>ae (λh4=>a6 ?_) λh4=>good ?_) λY=>good ?_⟩⟩
   ·have:=afO J;grind[oW]
   ·have:=afO O;grind[oW]
   ·have Y:=afO Y;have h4:=afO h4;grind[oW]
   ·have J:=afN J;have O:=afN O;have Y:=afO Y;grind[of_decide_eq_false,oW]
   grind[of_decide_eq_false,oW]
  have u:i=Z:=by grind
  subst u;have bb:Hi g added p:=⟨al,λs hs=>by grind[List.mem_iff_getElem,List.getElem?_eq_getElem]⟩;have a0:∀q∈(g.prods.drop added).take (j+1),Hi g added q:=λq hq=>by grind[List.take_add_one]
  have et:=N9 ba;refine⟨_,d0 _ sZZ,(Qz (jBZ (h.pick 3 [1])) ω p.left).mono ?_⟩;rintro _ _⟨rfl,rfl⟩
  refine⟨_,rfl,ae (λJ=>?_) λJ=>?_⟩
  ·have J:p.left∉fo (((g.prods.drop added).map aO.left).take j):=by simp_all
   refine⟨_,d0 _ sZZ,ag h λch w9 h=>?_⟩;refine(aU aT (rfl:ai Ty _=.slice _) (rfl:ai Ty _=.slice _) rfl rfl rfl (h.pick 4 [0,2,3]) rfl (by simp[aK]) (by grind) ω).mono ?_;rintro _ c9⟨a',c',rfl,h⟩;have e2:fo (((g.prods.drop added).map aO.left).take (j+1))=fo (((g.prods.drop added).map aO.left).take j)++[p.left]:=by simp_all[wP]
   refine⟨_,_,_,rfl,⟨ω,ω⟩,⟨j+1,σ,ω,by simp_all,a0,?_⟩,by dsimp only;omega⟩;rw[e2];have e3:∀l:List Int,iv (l++[p.left])=iv l++[iI p.left]:=λl=>by simp[iv]
   rw[e3];exact h.pick 3 [0,2]
  ·have J:p.left∈fo (((g.prods.drop added).map aO.left).take j):=by simp_all
   have e2:fo (((g.prods.drop added).map aO.left).take (j+1))=fo (((g.prods.drop added).map aO.left).take j):=by simp_all[wP]
   refine⟨⟨ω,ω⟩,⟨j+1,σ,ω,by grind,a0,?_⟩,by grind⟩;rw[e2];exact h.pick 3 [1,2]
 have X:j=x.pl-added:=by grind
 subst X;have el:((g.prods.drop added).map aO.left).take (x.pl-added)=(g.prods.drop added).map aO.left:=af3 (by simp_all);rw[el] at h bP ⊢;rw[af3 ω] at av;intro bl hd;have h:=h.drawn hd;have bA:sub H (hp bl):=aA 1 h.l
 refine⟨λw'=>sub H (hp w'),bA,_,_,_,λw' s=>c1 _ s,⟨ω,ω⟩,ae (λJ=>?_) λJ=>?_⟩
 ·have J:((qO g added).length:Int)=(x.nl:Int)-added:=by simp_all[qO]
  refine⟨_,λw' s=>c3 _ s,ae (λO=>?_) λO=>?_⟩
  ·have O:=afO O;refine⟨_,λw' s=>c3 _ s,_,_,_,_,_,rfl,?_,λ_=>rfl,U _ _ h⟩;rw[aga];have hs:=hg.s
   constructor
   ·intro Y;exact⟨p1,p2,av,ω,ω,ω⟩
   ·rintro⟨_,_,_,_,_,q⟩;omega
  ·have O:=afN O;have hs:=hg.s;exact⟨_,_,_,_,false,rfl,⟨λh=>(by grind),λ⟨_,_,_,_,q,_⟩=>absurd (by omega:(g.T:Int)+added<=g.start->False) ω⟩,λh=>(by rfl),U _ _ h⟩
 ·have J:¬((qO g added).length:Int)=(x.nl:Int)-added:=by simp_all[qO]
  exact⟨_,_,_,_,false,rfl,⟨λh=>(by grind),λ⟨_,_,_,q,_⟩=>absurd ω J⟩,λh=>(by rfl),U _ _ h⟩
theorem LV(hg:gR (hp w) g x)(hb:mi g):ρ 166 [.agg ⟨x.cells⟩] w λv w'=>(∃r:Bool,v=vB r/\(r=true↔mj g))/\Gr w w':=by
 refine G8 ?_;refine ag (St.all w) λk1 w1 h=>?_;have gw:Gr w w1:=h.aQ;have hg:=hg.mono gw;have rb:aj (hp w1) ⟨k1,0,none⟩ x.cells:=h.row;refine⟨_,_,_,_,_,_,_,_,_,_,_,_,_,rb.at sZZ rfl,(KD (x:=x) hg hb 0 ω).mono ?_⟩;rintro _ w2⟨⟨r,rfl,hr⟩,g2⟩
 refine⟨_,rfl,ae (λJ=>?_) λJ=>?_⟩
 ·have J:r=false:=by simp_all
  subst J;exact⟨⟨false,rfl,⟨λh=>(by grind),λh=>absurd (hr.2 h.1) σ⟩⟩,gw.trans g2⟩
 have J:r=true:=by simp_all
 have Z:=hr.1 J;refine⟨_,_,_,_,_,_,_,_,_,_,_,_,_,(rb.mono g2).at sZZ rfl,(zS (x:=x) (hg.mono g2) hb 0 ω).mono ?_⟩;rintro _ w3⟨a,l,c,xs,r2,rfl,O,u,h3⟩;have g3:Gr w w3:=(gw.trans g2).trans h3.aQ
 refine⟨_,_,_,_,rfl,ae (λW=>?_) λW=>?_⟩
 ·have u:=u W;have U:=fO h3;have V:=O.1 W;have a0:=Hh ((g.prods.drop 0).map aO.left);rw[cZ,u] at U
  have a4:(qO g 0).length<=96:=by
   have:=V.2.1
   grind[List.length_map,List.length_drop,qO]
  refine(QA (jBZ h3) ω).mono ?_;rintro _ w4⟨⟨r3,rfl,Y⟩,X⟩;refine⟨_,rfl,⟨r3,rfl,?_⟩,g3.trans (Gr.of_eq X)⟩;rw[Y,u];exact⟨λh=>⟨Z,V,h⟩,λh=>h.2.2⟩
 ·subst W;exact⟨⟨false,rfl,⟨λh=>(by grind),λh=>absurd (O.2 h.2.1) σ⟩⟩,g3⟩
end
structure GB(H:Hp)(k:Nat)(x:GA):Prop where
 c0:∀{w:ahs},sub H (hp w)->w.cell? ⟨k,0,none⟩=some (vS x.ta x.tl x.tc)
 c1:∀{w:ahs},sub H (hp w)->w.cell? ((⟨k,0,none⟩:Addr).add 1)=some (vS x.na x.nl x.nc)
 c2:∀{w:ahs},sub H (hp w)->w.cell? ((⟨k,0,none⟩:Addr).add 2)=some (vS x.la x.ll x.lc)
 c3:∀{w:ahs},sub H (hp w)->w.cell? ((⟨k,0,none⟩:Addr).add 3)=some (iI x.s)
 c4:∀{w:ahs},sub H (hp w)->w.cell? ((⟨k,0,none⟩:Addr).add 4)=some (vS x.pa x.pl x.pc)
 row:∀{w:ahs},sub H (hp w)->rowAt w ⟨k,0,none⟩ 0 5=some x.cells
theorem abM{H:Hp}{k:Nat}{x:GA}(r:aj H ⟨k,0,none⟩ x.cells):GB H k x:=
 ⟨λs=>r.cell0 s,λs=>r.cell s (j:=1) rfl,λs=>r.cell s (j:=2) rfl,λs=>r.cell s (j:=3) rfl,λs=>r.cell s (j:=4) rfl,λs=>r.at s rfl⟩
theorem gH{w:ahs}{g:ah}{x:GA}{e:TypeId}{k:Nat->ahs->Prop}(hg:gR (hp w) g x)(hk:∀k1 w1,Gr w w1->gR (hp w1) g x->GB (hp w1) k1 x->k k1 w1):new w (.cells (Array.mk x.cells) e) k:=
 ag (St.all w) λk1 w1 h=>hk k1 w1 h.aQ (hg.mono h.aQ) (abM h.row)
theorem uZ{a:ahr}{len sz:Nat}{k:Addr->Prop}{ad:Addr}(ha:a=some ad)(hi:0<len)(hk:k ad):idx a len 0 sz k:=
 ⟨ad,ha,ω,ω,by simpa[bg,Addr.add] using hk⟩
theorem BM:∀{l m:List Int},l.Nodup->(∀x∈l,x∈m)->l.length<=m.length
 |[],m,_,_=>afL _
 |a::l,m,h,hs=>by
  rw[agB] at h
  have ham:=hs a σ
  have:=BM (l:=l) (m:=m.erase a) h.2 λx hx=>(List.mem_erase_of_ne (λe=>h.1 (by simp_all))).2 (hs x (by grind))
  grind
def acy(g:ah):Prop:=g.terms[0]? =some ⟨.empty,0⟩/\(∀t∈g.terms.drop 1,tX t.name=true/\0<=t.level/\t.level<=g.levels.length)/\((g.terms.drop 1).map mP.name).Nodup
def ZW(g:ah):Prop:=∀(i:Nat) v,g.levels[i]? =some v->1<=v/\v<=3/\∃t∈g.terms,t.level=(i:Int)+1
def aey(g:ah)(added:Nat):Prop:=(g.cM.drop added).Nodup/\∀s∈g.cM.drop added,kR s=true
theorem Hk{g:ah}{added:Nat}(h:Ak g added):g.levels.length<=64:=by
 obtain⟨_,_,U,_,_,_,O,_⟩:=h
 have:=BM (l:=(List.range g.levels.length).map λ(k:Nat)=>(k:Int)+1) (m:=(g.terms.drop 1).map mP.level) (by grind[List.Pairwise.imp,List.nodup_range]) (λx J=>by
  obtain⟨k,u,rfl⟩:=afW.1 J;rw[agd] at u;obtain⟨_,_,t,ht,e⟩:=O k _ (afJ u)
  grind)
 grind
theorem N_{g:ah}{added:Nat}:Ak g added↔added<g.cM.length/\g.terms.length<=65/\g.cM.length<=64+added/\g.levels.length<=64/\g.terms.length-1+(g.cM.length-added)<=64/\acy g/\ZW g/\aey g added:=by
 constructor
 ·intro h;have hl:=Hk h;obtain⟨J,V,X,U,W,Z,h7,O,Y,u⟩:=h;exact⟨V,X,U,hl,W,⟨J,Z,O⟩,λi v hv=>by grind,Y,u⟩
 ·rintro⟨V,X,U,hl,W,⟨J,Z,O⟩,h7,Y,u⟩;refine⟨J,V,X,U,W,Z,λi v hv=>?_,O,Y,u⟩;obtain⟨a,b,t,ht,e⟩:=h7 i v hv;refine⟨a,b,t,?_,e⟩;cases hg:g.terms with
  |nil=>simp_all
  |cons t0 ts=>
   grind
theorem Gr.drawn{w w':ahs}(h:Proofs.YtaoaemnefghnbaaGreatDoor.drawn w w'):Gr w w':=Gr.of_eq (gU h)
theorem jB{w:ahs}{L:List aC}{a:ahr}{l c:Nat}{xs:List Int}(h:St w (own 1 a l c (iv xs)::L)):aY (hp w) xs a l:=by
 have hl:=fO h;obtain⟨u,s,ha⟩:=h.first;exact(gV (by simpa[iv] using hl) (bK ha)).mono s
def bZ(g:ah):Prop:=mj g\/ax g
theorem aez(ad:Addr)(n:Nat):ad.add (eV 0 n)=ad:=by simp[bg,Addr.add]
section
variable{w:ahs}{L:List aC}{g:ah}{x:GA}{s:ByteArray}
theorem sx(hg:gR (hp w) g x)(hb:mi g):ρ 81 [.agg ⟨x.cells⟩] w λv w'=>(∃r:Bool,v=vB r/\(r=true↔ax g))/\Gr w w':=by
 refine Fi ?_;refine gH hg λk1 w1 gw hg B=>?_;have tl:=hg.t.1;have nl:=hg.n.1;have pl:=hg.p.1;have hT:g.T=x.tl:=tl;have aa:=hg.s;have no:∀{w'},Gr w1 w'->¬ax g->(∃r:Bool,vB false=vB r/\(r=true↔ax g))/\Gr w w':=λ{w'} gg hn=>⟨⟨false,rfl,⟨λh=>(by grind),λh=>absurd h hn⟩⟩,gw.trans gg⟩
 refine⟨λb w'=>(b=false↔(g.cM[0]? =some .empty/\Ak g 1))/\Gr w1 w',?_,?_⟩
 ·refine⟨_,_,_,B.c1 sZZ,ae (λV=>⟨?_,Gr.refl _⟩) λV=>?_⟩
  ·simp_all
  have V:x.nl≠0:=λh=>by simp_all
  obtain⟨s,ad,a9,a5,a0⟩:=hg.n.dS (i:=0) ω;refine⟨_,_,_,B.c1 sZZ,uZ a5 ω ⟨s,a0 _ sZZ,?_⟩⟩;rw[Wn]
  change br (!decide (s=.empty)) _ _
  refine ae (λh2=>⟨?_,Gr.refl _⟩) λh2=>⟨_,_,_,_,_,_,_,_,_,_,_,_,_,B.row sZZ,(KD (x:=x) hg hb 1 ω).mono ?_⟩
  ·simp_all
  simp_all
 rintro _ b w2⟨X,g2⟩
 refine ae (λV=>no g2 λhp=>?_) λV=>?_
 ·have:=X.2 ⟨hp.1,hp.2.1⟩
  simp_all
 obtain⟨z1,z2⟩:=X.1 V;refine⟨_,_,_,_,_,_,_,_,_,_,_,_,_,B.row g2,(zS (x:=x) (hg.mono g2) hb 1 ω).mono ?_⟩;rintro _ w3⟨a3,l3,c3,xs,r2,rfl,W,av,h3⟩;have g3:Gr w1 w3:=g2.trans h3.aQ;refine⟨_,_,_,_,rfl,_,_,_,B.c4 g3,λw5 hd=>?_⟩;have O:Gr w1 w5:=g3.trans (Gr.drawn hd);refine⟨λw'=>sub (hp w5) (hp w'),sZZ,ae (λh4=>?_) λh4=>no O λhp=>?_⟩
 rotate_left
 ·rw[W.2 hp.2.2.1] at h4;grind
 have a6:=W.1 h4;have u:0<x.pl:=by have:=a6.1;omega
 obtain⟨p,ad,vs,a4,J,Y,a,l,c,rfl,al,Z⟩:=hg.p.get (i:=0) u;rw[aez] at Y;have pr:=Z.mono O;have rb:=Y.mono O
 have b1:ax g↔(p.left=(x.tl:Int)/\l=1/\p.right=[g.start]/\p.level=0):=by
  unfold ax
  constructor
  ·rintro⟨_,_,_,q,hq,q1,q2,q3⟩;rw[a4] at hq;cases hq;exact⟨ω,by rw[<-Z.1,q2];rfl,q2,q3⟩
  simp_all
 refine uZ J u ⟨_,λw' s=>rb.cell0 s,_,_,_,λw' s=>B.c0 (sub.trans O s),ae (λh6=>?_) λh6=>no O λhp=>?_⟩
 rotate_left
 ·simp_all
 have h6:=eq_of_beq h6;refine uZ J u ⟨_,_,_,λw' s=>rb.cell s (j:=1) rfl,ae (λh7=>?_) λh7=>no O λhp=>?_⟩
 rotate_left
 ·simp_all
 have h7:l=1:=by grind
 obtain⟨y,am,U,a8,a7⟩:=pr.dS (i:=0) ω
 have hr:p.right=[y]:=by
  have hl:=pr.1
  match hq:p.right,hl,U with
  |[z],_,U=>simp_all
  |[],hl,_=>simp_all
  |_::_::_,hl,_=>simp_all
 refine uZ J u ⟨_,_,_,λw' s=>rb.cell s (j:=1) rfl,uZ a8 ω ⟨y,λw' s=>a7 _ s,_,λw' s=>B.c3 (sub.trans O s),ae (λh8=>?_) λh8=>no O λhp=>?_⟩⟩
 rotate_left
 ·simp_all
 have h8:=eq_of_beq h8;refine uZ J u ⟨_,λw' s=>rb.cell s (j:=2) rfl,⟨_,rfl,?_⟩,gw.trans O⟩
 simp_all
end
theorem Wv{α:Sort _}(a:α):∃q,q=a:=⟨a,rfl⟩
theorem Ww{h:Hp}{a:Addr}{us vs:List Value}(h1:aj h a us)(h2:aj h (a.add us.length) vs):aj h a (us++vs):=λj v u=>by
 by_cases hl:j<us.length
 ·rw[af5 hl] at u;exact h1 j v u
 ·rw[agf ω] at u
  have:=h2 _ v u
  simp_all[add_add]
theorem ym{α:Type}{h:Hp}{n:Nat}{f:α->List Value}(hf:∀x,(f x).length=n):∀(ts:List α)(ad:Addr),(∀(i:Nat) x,ts[i]? =some x->aj h (ad.add (eV i n)) (f x))->aj h ad (ts.flatMap f)
 |[],ad,_=>λj v hj=>by simp_all
 |t::ts,ad,hh=>by
  rw[agr]
  refine Ww ?_ ?_
  ·have:=hh 0 t rfl
   simp_all[bg,Nat.zero_mul,Addr.add]
  ·rw[hf]
   refine ym hf ts _ λi x hx=>?_
   have:=hh (i+1) x hx
   simp_all[add_add,bg,ahi,Nat.add_comm]
theorem cG{α:Type}{h:Hp}{n:Nat}{f:α->List Value}(hf:∀x,(f x).length=n):∀(ts:List α)(ad:Addr),aj h ad (ts.flatMap f)->∀(i:Nat) x,ts[i]? =some x->aj h (ad.add (eV i n)) (f x)
 |[],ad,_,i,x,hx=>by simp_all
 |t::ts,ad,hh,i,x,hx=>by
  rw[agr] at hh
  match i,hx with
  |0,hx=>
   cases hx
   rw[bg,Nat.zero_mul,show ad.add 0=ad from by rfl]
   exact hh.take
  |i+1,hx=>
   have:=cG hf ts _ hh.drop i x hx
   simp_all[add_add,bg,ahi,Nat.add_comm]
def Hl(t:mP):List Value:=[.string t.name,iI t.level]
def cJ(ts:List mP):List Value:=ts.flatMap Hl
def qy(p:(ahr×Nat)×aO):List Value:=[iI p.2.left,vS p.1.1 p.2.right.length p.1.2,iI p.2.level]
def dV(os:List (ahr×Nat))(ps:List aO):List Value:=(os.zip ps).flatMap qy
def cf(os:List (ahr×Nat))(ps:List aO):List aC:=List.zipWith (λo p=>own 1 o.1 p.right.length o.2 (iv p.right)) os ps
theorem Hm(ts:List mP):(cJ ts).length=ts.length*2:=by
 induction ts with
 |nil=>rfl
 |cons t ts ih=>grind[cJ,List.length_append,List.length_cons,Hl,List.length_nil]
theorem ZX{h:Hp}{ts:List mP}{ad:Addr}{l:Nat}(r:aY h ts (some ad) l):aj h ad (cJ ts):=
 ym (f:=Hl) (n:=2) (λ_=>rfl) ts ad λi x J=>by
  obtain⟨O,vs,e,U,u⟩:=r.2 i x J
  cases e
  have u:vs=Hl x:=u
  rw[<-u];omega
theorem ZY{h:Hp}{ts:List mP}{a:ahr}{l c:Nat}(hl:ts.length=l)(r:own 2 a l c (cJ ts) h):aY h ts a l:=by
 refine⟨hl,λi x J=>?_⟩
 rcases bK r with e|⟨u,rfl,hc⟩
 ·grind[Hm,List.getElem?_eq_some_iff]
 ·exact⟨u,Hl x,rfl,cG (f:=Hl) (n:=2) (λ_=>rfl) ts u hc i x J,rfl⟩
theorem QG{os:List (ahr×Nat)}{ps:List aO}{h:Hp}{ad:Addr}(hr:aj h ad (dV os ps)){i:Nat}{o:ahr×Nat}{p:aO}(ho:os[i]? =some o)(hp:ps[i]? =some p):aj h (ad.add (eV i 3)) [iI p.left,vS o.1 p.right.length o.2,iI p.level]:=
 cG (f:=qy) (n:=3) (λ_=>rfl) (os.zip ps) ad hr i (o,p) (by grind)
theorem QH{os:List (ahr×Nat)}{ps:List aO}(h:os.length=ps.length):(dV os ps).length=ps.length*3:=by
 have:∀u:List ((ahr×Nat)×aO),(u.flatMap qy).length=u.length*3:=λu=>by
  induction u with
  |nil=>rfl
  |cons t ts ih=>grind[List.length_append,List.length_cons,qy,List.length_nil]
 simp_all[dV,List.length_zip]
theorem EV{os:List (ahr×Nat)}{ps:List aO}(h:os.length=ps.length)(o:ahr×Nat)(p:aO):dV (os++[o]) (ps++[p])=dV os ps++qy (o,p):=by simp_all[dV,List.zip_append]
theorem BN{os:List (ahr×Nat)}{ps:List aO}(h:os.length=ps.length)(o:ahr×Nat)(p:aO):cf (os++[o]) (ps++[p])=cf os ps++[own 1 o.1 p.right.length o.2 (iv p.right)]:=by simp_all[cf,List.zipWith_append]
def vm(g:ah)(x:GA)(os:List (ahr×Nat)):List aC:=[own 3 x.pa g.prods.length x.pc (dV os g.prods),aV (cf os g.prods),own 2 x.ta g.terms.length x.tc (cJ g.terms),own 1 x.na g.cM.length x.nc (g.cM.map λs=>Value.string s),own 1 x.la g.levels.length x.lc (iv g.levels)]
structure BO(g:ah)(x:GA):Prop where
 t:x.tl=g.terms.length
 n:x.nl=g.cM.length
 l:x.ll=g.levels.length
 s:x.s=g.start
 p:x.pl=g.prods.length
theorem ZZ{L:List aC}{h:Hp}{os:List (ahr×Nat)}{ps:List aO}{k:Nat}{o:ahr×Nat}{p:aO}(i:Nat)(hl:aG L h)(ho:os[k]? =some o)(hp:ps[k]? =some p)(e:vc L i=aV (cf os ps):=by rfl)(hi:Nat.blt i (DG L)=true:=by rfl):aY h p.right o.1 p.right.length/\p.right.length<=o.2:=by
 obtain⟨J,s,ha⟩:=ew i (by simp_all[kQ]) hl;rw[e] at ha;obtain⟨u,s2,hb⟩:=kP (A:=own 1 o.1 p.right.length o.2 (iv p.right)) (afI (i:=k) (by simp_all[cf,List.getElem?_zipWith])) ha;refine⟨(bp rfl (bK hb)).mono (s2.trans s),?_⟩;rcases hb with⟨_,h,h',_⟩|⟨_,_,_,_,_,_,_,_,h⟩<;>omega
theorem Bi{L:List aC}{h:Hp}{A:aC}(i:Nat)(hl:aG L h)(e:vc L i=A:=by rfl)(hi:Nat.blt i (DG L)=true:=by rfl):∃h1,sub h1 h/\A h1:=by
 obtain⟨h1,s,ha⟩:=ew i (by simp_all[kQ]) hl;exact⟨h1,s,e▸ha⟩
theorem sA{sz l c:Nat}{a:ahr}{vs:List Value}{h:Hp}(ha:own sz a l c vs h):l<=c:=by
 rcases ha with⟨_,rfl,rfl,_⟩|⟨_,_,_,_,_,_,_,_,h⟩
 ·omega
 omega
theorem Gc{g:ah}{x:GA}{os:List (ahr×Nat)}{L:List aC}{h:Hp}(hx:BO g x)(ho:os.length=g.prods.length)(hs:aG (vm g x os++L) h):gR h g x:=by
 obtain⟨h1,s1,a1⟩:=Bi (A:=own 3 x.pa g.prods.length x.pc (dV os g.prods)) 0 hs;obtain⟨h2,s2,a2⟩:=Bi (A:=own 2 x.ta g.terms.length x.tc (cJ g.terms)) 2 hs;obtain⟨h3,Y,a3⟩:=Bi (A:=own 1 x.na g.cM.length x.nc (g.cM.map λs=>Value.string s)) 3 hs;obtain⟨h4,s4,V⟩:=Bi (A:=own 1 x.la g.levels.length x.lc (iv g.levels)) 4 hs;obtain⟨O,W,U,q4,J⟩:=hx
 refine⟨?_,?_,?_,q4,?_,?_,?_,?_,?_⟩
 ·rw[O];exact(ZY rfl a2).mono s2
 ·rw[W];exact(gV rfl (bK a3)).mono Y
 ·rw[U];exact(bp rfl (bK V)).mono s4
 ·rw[J];refine⟨rfl,λi p hp=>?_⟩;have hi:=(afK.1 hp).1;obtain⟨o,u⟩:∃o,os[i]? =some o:=⟨os[i]'ω,afJ _⟩
  rcases bK a1 with e|⟨Z,e,hc⟩
  ·grind[QH]
  ·obtain⟨X,r2⟩:=ZZ (k:=i) (o:=o) (p:=p) 1 hs u hp;exact⟨Z,_,e,(QG hc u hp).mono s1,o.1,_,o.2,rfl,r2,X⟩
 ·rw[O];exact sA a2
 ·rw[W];exact sA a3
 ·rw[U];exact sA V
 ·rw[J];exact sA a1
section
section
variable{w:ahs}{L:List aC}{g:ah}{x y:GA}{a a2:ahr}{l l2 c c2:Nat}{xs ys:List Int}{bs:List Bool}{xss:List (List Int)}
theorem QI(hx:aY (hp w) xs a l)(hy:aY (hp w) xs a2 l2)(hb:l<=4611686018427387904):ρ 23 [vS a l c,vS a2 l2 c2] w λv w'=>v=vB true/\hp w'=hp w:=by
 refine pV ?_;have hl:=hx.1;have Z:=hy.1
 refine ae (λh0=>?_) λh0=>?_
 ·simp_all
 refine⟨λn w'=>∃j:Nat,n=j/\j<=l/\hp w'=hp w,λn _=>l-n.toNat,⟨0,rfl,ω,rfl⟩,?_⟩;rintro _ n w1⟨j,rfl,hj,e⟩;refine ae (λJ=>?_) λ_=>⟨rfl,e⟩;have J:j<l:=by simp_all
 intro w2 hd;have X:hp w2=hp w:=(gU hd).trans e;obtain⟨u,ad,hu,O,W⟩:=hx.dS J;obtain⟨v,a0,Y,V,U⟩:=hy.dS (i:=j) ω;rw[hu] at Y;cases Y;refine⟨λw'=>sub (hp w) (hp w'),LI X,ay O J ⟨_,λw s=>W _ s,ay V ω ⟨_,λw s=>U _ s,ae (λh=>by grind) λ_=>⟨⟨ω,ω⟩,⟨j+1,σ,ω,X⟩,bY J⟩⟩⟩⟩
end
open Go.Shelf Go.Proofs
def Uj:Go.Shelf.Ren:=⟨fun|6=>187|15=>186|14=>282|28=>280|29=>281|20=>330|21=>331|22=>332|23=>333|24=>334|25=>335|26=>336|27=>337|46=>373|47=>326|48=>327|49=>374|50=>375|57=>393|n=>n,fun|22=>194|24=>193|25=>338|3=>3|39=>335|0=>0|53=>435|55=>419|4=>4|46=>429|45=>428|50=>360|5=>5|9=>9|66=>467|70=>471|76=>505|77=>391|n=>n,fun|n=>n⟩
theorem abN:Go.Proofs.SlLaysF0.n6 Tryz.prog Uj:={
  mixed:=by rfl,
  f6:=⟨Tryz.f187.name,by rfl,Tryz.func187.trans (congrArg some (by rfl))⟩,
  f14:=⟨Tryz.f282.name,by rfl,Tryz.func282.trans (congrArg some (by rfl))⟩,
  f15:=Tryz.func186.trans (congrArg some (by rfl)),
  f20:=⟨Tryz.f330.name,by rfl,Tryz.func330.trans (congrArg some (by rfl))⟩,
  f21:=⟨Tryz.f331.name,by rfl,Tryz.func331.trans (congrArg some (by rfl))⟩,
  f22:=⟨Tryz.f332.name,by rfl,Tryz.func332.trans (congrArg some (by rfl))⟩,
  f23:=⟨Tryz.f333.name,by rfl,Tryz.func333.trans (congrArg some (by rfl))⟩,
  f24:=⟨Tryz.f334.name,by rfl,Tryz.func334.trans (congrArg some (by rfl))⟩,
  f25:=⟨Tryz.f335.name,by rfl,Tryz.func335.trans (congrArg some (by rfl))⟩,
  f26:=⟨Tryz.f336.name,by rfl,Tryz.func336.trans (congrArg some (by rfl))⟩,
  f27:=⟨Tryz.f337.name,by rfl,Tryz.func337.trans (congrArg some (by rfl))⟩,
  f28:=Tryz.func280.trans (congrArg some (by rfl)),
  f29:=Tryz.func281.trans (congrArg some (by rfl)),
  f46:=⟨Tryz.f373.name,by rfl,Tryz.func373.trans (congrArg some (by rfl))⟩,
  f47:=Tryz.func326.trans (congrArg some (by rfl)),
  f48:=Tryz.func327.trans (congrArg some (by rfl)),
  f49:=⟨Tryz.f374.name,by rfl,Tryz.func374.trans (congrArg some (by rfl))⟩,
  f50:=⟨Tryz.f375.name,by rfl,Tryz.func375.trans (congrArg some (by rfl))⟩,
  f57:=⟨Tryz.f393.name,by rfl,Tryz.func393.trans (congrArg some (by rfl))⟩,
  t0:=Tryz.underlying0,
  a0:=Tryz.isAgg0,
  z0:=Tryz.sizeOf0,
  v0:=Tryz.zeroValue0,
  t3:=Tryz.underlying3,
  a3:=Tryz.isAgg3,
  z3:=Tryz.sizeOf3,
  v3:=Tryz.zeroValue3,
  t4:=Tryz.underlying4,
  a4:=Tryz.isAgg4,
  z4:=Tryz.sizeOf4,
  v4:=Tryz.zeroValue4,
  t5:=Tryz.underlying5,
  a5:=Tryz.isAgg5,
  z5:=Tryz.sizeOf5,
  v5:=Tryz.zeroValue5,
  t9:=Tryz.underlying9,
  a9:=Tryz.isAgg9,
  z9:=Tryz.sizeOf9,
  v9:=Tryz.zeroValue9,
  t22:=Tryz.underlying194,
  a22:=Tryz.isAgg194,
  z22:=Tryz.sizeOf194,
  v22:=Tryz.zeroValue194,
  t25:=Tryz.underlying338,
  a25:=Tryz.isAgg338,
  z25:=Tryz.sizeOf338,
  v25:=Tryz.zeroValue338,
  t39:=Tryz.underlying335,
  a39:=Tryz.isAgg335,
  z39:=Tryz.sizeOf335,
  v39:=Tryz.zeroValue335,
  t45:=Tryz.underlying428,
  a45:=Tryz.isAgg428,
  z45:=Tryz.sizeOf428,
  v45:=Tryz.zeroValue428,
  t46:=Tryz.underlying429,
  a46:=Tryz.isAgg429,
  z46:=Tryz.sizeOf429,
  v46:=Tryz.zeroValue429,
  t50:=Tryz.underlying360,
  a50:=Tryz.isAgg360,
  z50:=Tryz.sizeOf360,
  v50:=Tryz.zeroValue360,
  t53:=Tryz.underlying435,
  a53:=Tryz.isAgg435,
  z53:=Tryz.sizeOf435,
  v53:=Tryz.zeroValue435,
  t55:=Tryz.underlying419,
  a55:=Tryz.isAgg419,
  z55:=Tryz.sizeOf419,
  v55:=Tryz.zeroValue419,
  t66:=Tryz.underlying467,
  a66:=Tryz.isAgg467,
  z66:=Tryz.sizeOf467,
  v66:=Tryz.zeroValue467,
  t70:=Tryz.underlying471,
  a70:=Tryz.isAgg471,
  z70:=Tryz.sizeOf471,
  v70:=Tryz.zeroValue471,
  t76:=Tryz.underlying505,
  a76:=Tryz.isAgg505,
  z76:=Tryz.sizeOf505,
  v76:=Tryz.zeroValue505,
  t77:=Tryz.underlying391,
  a77:=Tryz.isAgg391,
  z77:=Tryz.sizeOf391,
  v77:=Tryz.zeroValue391 }
def Uk:Go.Shelf.Ren:=⟨fun|189=>96|125=>186|257=>185|128=>280|129=>281|294=>271|295=>272|296=>273|297=>274|298=>275|299=>276|216=>277|300=>278|301=>279|328=>325|329=>326|330=>327|331=>328|332=>329|215=>283|343=>372|n=>n,fun|28=>24|3=>3|46=>335|0=>0|51=>435|53=>419|4=>4|183=>429|182=>428|131=>360|5=>5|9=>9|218=>467|222=>471|228=>505|229=>391|n=>n,fun|n=>n⟩
theorem abO:Go.Proofs.Lays.n189 Tryz.prog Uk:={
  mixed:=by rfl,
  f125:=Tryz.func186.trans (congrArg some (by rfl)),
  f128:=Tryz.func280.trans (congrArg some (by rfl)),
  f129:=Tryz.func281.trans (congrArg some (by rfl)),
  f189:=Tryz.func96.trans (congrArg some (by rfl)),
  f215:=Tryz.func283.trans (congrArg some (by rfl)),
  f216:=Tryz.func277.trans (congrArg some (by rfl)),
  f257:=Tryz.func185.trans (congrArg some (by rfl)),
  f294:=Tryz.func271.trans (congrArg some (by rfl)),
  f295:=Tryz.func272.trans (congrArg some (by rfl)),
  f296:=Tryz.func273.trans (congrArg some (by rfl)),
  f297:=Tryz.func274.trans (congrArg some (by rfl)),
  f298:=Tryz.func275.trans (congrArg some (by rfl)),
  f299:=Tryz.func276.trans (congrArg some (by rfl)),
  f300:=Tryz.func278.trans (congrArg some (by rfl)),
  f301:=Tryz.func279.trans (congrArg some (by rfl)),
  f328:=Tryz.func325.trans (congrArg some (by rfl)),
  f329:=Tryz.func326.trans (congrArg some (by rfl)),
  f330:=Tryz.func327.trans (congrArg some (by rfl)),
  f331:=Tryz.func328.trans (congrArg some (by rfl)),
  f332:=Tryz.func329.trans (congrArg some (by rfl)),
  f343:=Tryz.func372.trans (congrArg some (by rfl)),
  t0:=Tryz.underlying0,
  a0:=Tryz.isAgg0,
  z0:=Tryz.sizeOf0,
  v0:=Tryz.zeroValue0,
  t3:=Tryz.underlying3,
  a3:=Tryz.isAgg3,
  z3:=Tryz.sizeOf3,
  v3:=Tryz.zeroValue3,
  t4:=Tryz.underlying4,
  a4:=Tryz.isAgg4,
  z4:=Tryz.sizeOf4,
  v4:=Tryz.zeroValue4,
  t5:=Tryz.underlying5,
  a5:=Tryz.isAgg5,
  z5:=Tryz.sizeOf5,
  v5:=Tryz.zeroValue5,
  t9:=Tryz.underlying9,
  a9:=Tryz.isAgg9,
  z9:=Tryz.sizeOf9,
  v9:=Tryz.zeroValue9,
  t28:=Tryz.underlying24,
  a28:=Tryz.isAgg24,
  z28:=Tryz.sizeOf24,
  v28:=Tryz.zeroValue24,
  t46:=Tryz.underlying335,
  a46:=Tryz.isAgg335,
  z46:=Tryz.sizeOf335,
  v46:=Tryz.zeroValue335,
  t51:=Tryz.underlying435,
  a51:=Tryz.isAgg435,
  z51:=Tryz.sizeOf435,
  v51:=Tryz.zeroValue435,
  t53:=Tryz.underlying419,
  a53:=Tryz.isAgg419,
  z53:=Tryz.sizeOf419,
  v53:=Tryz.zeroValue419,
  t131:=Tryz.underlying360,
  a131:=Tryz.isAgg360,
  z131:=Tryz.sizeOf360,
  v131:=Tryz.zeroValue360,
  t182:=Tryz.underlying428,
  a182:=Tryz.isAgg428,
  z182:=Tryz.sizeOf428,
  v182:=Tryz.zeroValue428,
  t183:=Tryz.underlying429,
  a183:=Tryz.isAgg429,
  z183:=Tryz.sizeOf429,
  v183:=Tryz.zeroValue429,
  t218:=Tryz.underlying467,
  a218:=Tryz.isAgg467,
  z218:=Tryz.sizeOf467,
  v218:=Tryz.zeroValue467,
  t222:=Tryz.underlying471,
  a222:=Tryz.isAgg471,
  z222:=Tryz.sizeOf471,
  v222:=Tryz.zeroValue471,
  t228:=Tryz.underlying505,
  a228:=Tryz.isAgg505,
  z228:=Tryz.sizeOf505,
  v228:=Tryz.zeroValue505,
  t229:=Tryz.underlying391,
  a229:=Tryz.isAgg391,
  z229:=Tryz.sizeOf391,
  v229:=Tryz.zeroValue391 }
end
section
open Go.Proofs Go.Sort
theorem QJ{X:Type}(P:X->Prop)(f:X->Nat)(h:∃x,P x):∃x,P x/\∀y,P y->f x<=f y:=by
 obtain⟨x,u⟩:=h;generalize hn:f x=n
 induction n using Nat.strongRecOn generalizing x with
 |ind n ih=>
  grind
open Classical in
noncomputable def Vo{X:Type}(P:X->ahs->Prop)(f:X->Nat)(w:ahs):Nat:=if h:∃x,P x w then f (QJ (λx=>P x w) f h).choose else 0
theorem BP{X:Type}{P:X->ahs->Prop}{f:X->Nat}{w:ahs}(h:∃x,P x w):∃x,P x w/\f x=Vo P f w:=by
 have:=(QJ (λx=>P x w) f h).choose_spec;refine⟨_,this.1,?_⟩
 simp_all[Vo]
theorem Am{X:Type}{P:X->ahs->Prop}{f:X->Nat}{w:ahs}{x:X}(hx:P x w):Vo P f w<=f x:=by
 have h:∃x,P x w:=⟨x,hx⟩;have:=(QJ (λx=>P x w) f h).choose_spec
 simp_all[Vo]
section
variable{w:ahs}{L:List aC}
theorem qz{sz l c k:Nat}{a:ahr}{vs:List Value}(h:St w (own sz a l c vs::L))(hk:k<=l):St w (own sz (fE a 0 c sz) k c (vs.take (k*sz))::L):=by
 rcases dq h with⟨rfl,rfl,rfl,rfl⟩|⟨b,u,cs,post,rfl,hc,U,O,V⟩
 ·simp_all[fE]
 ·have e:fE (some (⟨b,u.length,none⟩:Addr)) 0 c sz=some ⟨b,u.length,none⟩:=by simp[fE,bg,add_lit]
  have J:k*sz<=l*sz:=ag2 _ hk;rw[e]
  refine fj (cs:=vs.drop (k*sz)++cs) (post:=post) ?_ ?_ ?_ ω
  ·grind[List.append_assoc,List.take_append_drop]
  ·simp_all
  grind
theorem ir{a:ahr}{len cap hi sz:Nat}{k:ahr->Nat->Nat->Prop}(h1:hi<=cap)(hk:k (fE a 0 cap sz) hi cap):lV a len cap none (some (hi:Int)) none sz k:=
 ⟨.inl rfl,.inr ⟨σ,by simp_all⟩,⟨σ,σ⟩,by simpa using hk⟩
theorem aP{w w':ahs}(h:drawn w w'):hp w'=hp w:=by rw[show w'=_ from h];rfl
theorem dE{L:List aC}{h:Hp}{a:ahr}{sz l c:Nat}{vs:List Value}(i:Nat)(hl:aG L h)(e:vc L i=own sz a l c vs:=by rfl)(hi:Nat.blt i (DG L)=true:=by rfl):ec a vs h:=by
 obtain⟨u,s,ha⟩:=ew i (by simp_all[kQ]) hl;rw[e] at ha
 grind[ec.mono,bK]
theorem Gd(xs:List Int)(i:Nat)(v:Int):(iv xs).set i (iI v)=iv (xs.set i v):=by simp[iv]
theorem SB{M:List aC}{n:Nat}(hn:n<M.length):M.Perm (M[n]::(M.take n++M.drop (n+1))):=by grind[List.drop_eq_getElem_cons,List.take_append_drop,List.Perm.of_eq,trans,List.perm_middle]
theorem set_perm{M:List aC}{n:Nat}{A:aC}(hn:n<M.length):(M.set n A).Perm (A::(M.take n++M.drop (n+1))):=by simp_all[ahc]
theorem St.Wx{A:aC}{M:List aC}(h:St w (A::aV M::L)){n:Nat}(hn:n<M.length):St w (aV (M.set n A)::L):=by
 have J:=St.flat.1 h.swap;have u:St w ((M[n]::(M.take n++M.drop (n+1)))++(A::L)):=J.perm ((SB hn).append_right _);have U:St w ((M.take n++M.drop (n+1))++(A::L)):=u.tail;have O:St w ((A::(M.take n++M.drop (n+1)))++L):=U.perm agC;exact St.flat.2 (O.perm ((set_perm hn).symm.append_right _))
theorem St.QK{M:List aC}{A:aC}(h:St w (aV M::L)){n:Nat}(hn:M[n]? =some A):St w (A::aV (M.take n++M.drop (n+1))::L):=by
 obtain⟨hl,rfl⟩:=afK.1 hn;have J:=St.flat.1 h;have u:St w ((M[n]::(M.take n++M.drop (n+1)))++L):=J.perm ((SB hl).append_right _);have O:St w ((M.take n++M.drop (n+1))++(M[n]::L)):=u.perm agC.symm
 grind[St.flat,swap]
theorem BQ{A:aC}(hA:∀w L,St w L->St w (A::L)):∀(n:Nat),St w L->St w (aV (List.replicate n A)::L)
 |0,h=>(St.flat (M:=[])).2 h
 |n+1,h=>by
  have h1:=St.flat.1 (BQ hA n h)
  simp_all[St.flat,List.replicate]
theorem St.Wy{w:ahs}{L M:List aC}{A:aC}{n:Nat}(hn:n<M.length)(h:St w (A::aV (M.take n++M.drop (n+1))::L)):St w (aV (M.set n A)::L):=by
 have J:=St.flat.1 h.swap;have u:St w ((A::(M.take n++M.drop (n+1)))++L):=J.perm agC;exact St.flat.2 (u.perm ((set_perm hn).symm.append_right _))
theorem BR(xs:List Nat)(i v:Nat):(dN xs).set i (iI (v:Int))=dN (xs.set i v):=by simp[dN]
theorem Wz(xs:List Nat)(v:Nat):dN xs++[iI (v:Int)]=dN (xs++[v]):=by simp[dN]
theorem kT{low:List Nat}{i x:Nat}(h:low[i]? =some x):(dN low)[i]? =some (iI (x:Int)):=by grind[dN]
theorem BS{α:Type}{l:List α}{i:Nat}{x:α}(h:l[i]? =some x):l.set i x=l:=by
 obtain⟨u,rfl⟩:=afK.1 h;simp
end
section
variable{α:Type}[Inhabited α]{w:ahs}{L:List aC}{enc:α->Value}{blk:Nat}{d:Array α}
theorem yn(w:ahs)(off m:Nat)(dk:Array α)(os:Array Obj)(b:Nat)(o:Obj)(h:w.heap[b]? =some o):
  (sortWorld enc w blk off m dk os).heap[b]? =some (if blk=b then onCells (putCells enc off dk) o else o):=by grind[Array.getElem?_eq_some_iff,sortWorld,grow,putRow,mapBlock,Sort.ahead,Array.getElem?_append_left]
theorem Ev.sort(w:ahs)(off m:Nat)(dk:Array α)(os:Array Obj):Ev w (sortWorld enc w blk off m dk os):=by
 refine⟨rfl,rfl,rfl,?_,?_,?_⟩
 ·simp[sortWorld,grow,putRow,mapBlock,Sort.ahead]
 ·intro b x h;rw[yn w off m dk os b _ h];split<;>rfl
 ·intro b x h;rw[yn w off m dk os b _ h];split<;>rfl
theorem St.sort{cs:List Value}(h:St w (az blk cs::L))(off m:Nat)(dk:Array α)(os:Array Obj):St (sortWorld enc w blk off m dk os) (az blk (putCells enc off dk ⟨cs⟩).toList::L):=by
 obtain⟨e,h⟩:=jF.1 h;have V:=h.get
 have W:∀b o,hp w b=some o->b≠blk->hp (sortWorld enc w blk off m dk os) b=some o:=λb o hb u=>by
  have:=yn (enc:=enc) (blk:=blk) w off m dk os b o (rQ hb);rw[afV (Ne.symm u)] at this
  grind[hp,rQ]
 have J:hp (sortWorld enc w blk off m dk os) blk=some (.cells (putCells enc off dk ⟨cs⟩) e (0,0)):=by
  have:=yn (enc:=enc) (blk:=blk) w off m dk os blk _ V;rw[afZ rfl] at this;unfold hp;rw[this];rfl
 refine jF.2 ⟨e,?_⟩;have U:=qG (h:=hp w) (h':=λk=>if k=blk then some (.cells (putCells enc off dk ⟨cs⟩) e (0,0)) else hp w k) (o':=.cells (putCells enc off dk ⟨cs⟩) e (0,0)) h (λk O=>by grind) σ;refine lT U λk o O=>?_
 grind
theorem BT(pre post:List Value)(d d':Array α)(hs:d'.size=d.size):(putCells enc pre.length d' ⟨pre++(d.toList.map enc++post)⟩).toList=pre++(d'.toList.map enc++post):=by
 have u:(d.toList.map enc).length=d.size:=σ
 have l2:(d'.toList.map enc).length=d.size:=by grind
 apply agq;intro k;simp only[putCells,Array.toList_mapIdx,List.getElem?_mapIdx]
 grind
theorem Z0{a:ahr}{l c:Nat}(h:St w (own 1 a l c (d.toList.map enc)::L))(hl:0<l):
  ∃b off,a=some ⟨b,off,none⟩/\l=d.size/\Holds enc w b off d/\b<w.heap.size/\
   (∀(m:Nat)(os:Array Obj)(d':Array α),d'.size=d.size->St (sortWorld enc w b off m d' os) (own 1 a l c (d'.toList.map enc)::L)):=by
 rcases dq h with⟨_,U,_⟩|⟨b,u,cs,O,rfl,hc,X,U,Z⟩
 ·omega
 ·have J:l=d.size:=by simp_all
  refine⟨b,u.length,rfl,J,?_,?_,?_⟩
  ·intro j V;refine⟨?_,hc.frozen _ _⟩;rw[hc.cell,agf ω,agy,af5 ω,afQ,afJ ω,getElem!_pos d j V];simp
  ·obtain⟨e,h⟩:=jF.1 hc;exact(ag4.1 h.get).1
  ·intro m os d' W;have Y:=hc.sort (enc:=enc) u.length m d' os
   grind[BT,fj]
end
theorem tZ{w:ahs}{b o:Nat}:∀(vs:List Value)(i:Nat),mE w ⟨b,0,none⟩ (o+i) vs->mE w ⟨b,o,none⟩ i vs
 |[],i,_=>trivial
 |v::vs,i,⟨h1,h2,h3,h4⟩=>by
  rw[ak] at h2 h3
  refine⟨h1,?_,?_,tZ vs (i+1) h4⟩
  ·simp_all[add_lit]
  simp_all[add_lit]
theorem t_{b o:Nat}:∀(vs:List Value)(i:Nat)(w:ahs),du w ⟨b,o,none⟩ i vs=du w ⟨b,0,none⟩ (o+i) vs
 |[],i,w=>rfl
 |v::vs,i,w=>by
  simp only[du]
  rw[add_lit,ak,t_ vs (i+1)]
  rfl
theorem Ge{w:ahs}{L:List aC}{sz l c i:Nat}{a:ahr}{ad:Addr}{us vs:List Value}{k:ahs->Prop}(h:St w (own sz a l c us::L))(ha:a=some ad)(hi:i+vs.length<=us.length)(h1:∀v∈vs,aK v=true)(h0:0<vs.length)
  (hk:∀w',St w' (own sz a l c (us.take i++vs++us.drop (i+vs.length))::L)->k w'):bC w (ad.add i) vs k:=by
 rcases dq h with⟨rfl,_,_,_⟩|⟨b,u,cs,J,rfl,hc,X,W,Y⟩
 ·cases ha
 ·cases ha;rw[add_lit];have hl:(u.length+i)+vs.length<=(u++(us++(cs++J))).length:=by grind
  refine⟨tZ vs 0 (tY hc vs _ hl h1),λw' U=>?_⟩;subst U;rw[t_];have O:=qx vs _ (u.length+i) hl hc;refine hk _ ?_
  have e:(u++(us++(cs++J))).take (u.length+i)++vs++(u++(us++(cs++J))).drop (u.length+i+vs.length)=u++((us.take i++vs++us.drop (i+vs.length))++(cs++J)):=by
   rw[List.take_append,af3 ω,agy,List.take_append_of_le_length ω];rw[show u.length+i+vs.length=u.length+(i+vs.length) from ω,List.drop_append,List.drop_of_length_le ω,agy,List.drop_append_of_le_length ω];simp
  rw[e] at O;have V:(us.take i++vs++us.drop (i+vs.length)).length=us.length:=by grind
  grind[fj,List.length_append]
end
end Go.Proofs.YtaoaemnefghnbaaGreatDoor
