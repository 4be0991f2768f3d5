/- A1: printed by a program of this session: the functions of the seat as plain functions, and that the code comes to them. -/
import Derived.Test.YteghkndbngddgaaGreatSyL
import Derived.Test.YteghkndbngddgaaGreatProg
import Derived.Test.YteghkndbngddgaaGreatChecked
set_option linter.unusedVariables false
set_option maxRecDepth 100000
namespace Go.Sx
open Go.RowKit Go.Proofs
abbrev TPage : Ty := (.pair (.int .i64) (.pair (.int .u64) (.pair (.arr 7 (.int .u64)) .unit)))
abbrev TPtr : Ty := (.pair (.int .i64) (.pair (.int .i64) .unit))
abbrev TRet : Ty := (.pair TPtr (.pair (.int .u32) .unit))
abbrev TNode : Ty := (.pair .bool (.pair (.int .u32) (.pair (.int .u32) (.pair (.int .i64) (.pair (.arr 4 TRet) .unit)))))
abbrev THead : Ty := (.pair (.int .i64) (.pair (.int .u32) .unit))
abbrev TClaim : Ty := (.pair (.int .i64) (.pair (.int .i64) TPtr))
abbrev TReq : Ty := (.pair (.int .i64) TPtr)
abbrev TOut : Ty := (.pair (.int .i64) (.pair (.int .u32) (.pair (.int .i64) (.pair (.slice TPtr) (.pair (.slice (.int .i64)) .unit)))))
abbrev TOp : Ty := (.pair (.int .i64) (.pair (.int .i64) (.pair (.int .i64) (.pair (.int .i64) (.pair (.int .i64) (.pair (.slice TPtr) .unit))))))
abbrev TStore : Ty := (.pair (.slice TPage) (.pair (.int .i64) (.pair (.int .i64) (.pair (.slice (.pair (.int .u32) (.pair (.arr 3 (.int .i64)) .unit))) (.pair (.pair (.int .i64) THead) .unit)))))
noncomputable def tfl : List (Nat × Ty) := [
  (1, (.cell .func)),
  (2, (.int .i64)),
  (3, (.int .i64)),
  (4, .bool),
  (5, (.int .u8)),
  (6, (.int .u8)),
  (7, (.pair (.int .i64) (.pair (.int .i64) (.pair .bool (.pair (.int .u8) .unit))))),
  (8, (.pair (.int .i64) (.pair (.int .i64) (.pair .bool (.pair (.int .u8) .unit))))),
  (9, .str),
  (10, .str),
  (11, .str),
  (12, (.int .u64)),
  (15, (.cell .ptr)),
  (16, (.cell .ptr)),
  (17, (.cell .ptr)),
  (21, (.int .i32)),
  (22, (.slice (.pair (.int .i64) (.pair (.int .i64) TClaim)))),
  (23, (.slice (.pair (.int .i64) (.pair (.int .i64) (.pair (.int .i64) (.pair (.int .u64) .unit)))))),
  (24, (.int .u64)),
  (25, (.pair (.int .i64) (.pair (.slice (.pair (.int .i64) (.pair (.int .i64) TClaim))) (.pair (.slice (.pair (.int .i64) (.pair (.int .i64) (.pair (.int .i64) (.pair (.int .u64) .unit))))) (.pair (.int .u64) .unit))))),
  (26, (.pair (.int .i64) (.pair (.slice (.pair (.int .i64) (.pair (.int .i64) TClaim))) (.pair (.slice (.pair (.int .i64) (.pair (.int .i64) (.pair (.int .i64) (.pair (.int .u64) .unit))))) (.pair (.int .u64) .unit))))),
  (27, TClaim),
  (28, TClaim),
  (29, (.cell .func)),
  (30, (.slice TPage)),
  (32, (.cell .func)),
  (33, (.cell .func)),
  (34, (.cell .func)),
  (35, (.slice (.int .i64))),
  (36, (.int .i64)),
  (38, (.cell .func)),
  (39, (.pair (.slice (.int .i64)) (.pair (.slice TPage) (.pair (.slice TPage) (.pair (.int .i64) (.pair (.int .i64) (.pair .bool .unit))))))),
  (40, (.pair (.slice (.int .i64)) (.pair (.slice TPage) (.pair (.slice TPage) (.pair (.int .i64) (.pair (.int .i64) (.pair .bool .unit))))))),
  (41, (.cell .func)),
  (42, (.cell .func)),
  (43, (.cell .func)),
  (44, (.cell .func)),
  (46, (.cell .func)),
  (47, (.cell .func)),
  (48, (.cell .ptr)),
  (49, (.cell .func)),
  (50, (.cell .func)),
  (51, (.arr 7 (.int .u64))),
  (52, TPage),
  (53, TPage),
  (55, (.cell .func)),
  (56, (.slice (.pair (.int .u32) (.pair (.arr 3 (.int .i64)) .unit)))),
  (57, (.slice (.pair (.int .u32) (.pair (.arr 3 (.int .i64)) .unit)))),
  (58, (.int .u32)),
  (59, (.pair (.int .i64) THead)),
  (60, (.pair (.int .i64) THead)),
  (61, TStore),
  (62, TStore),
  (63, TPtr),
  (64, TPtr),
  (65, TRet),
  (66, TRet),
  (67, (.arr 4 TRet)),
  (68, TNode),
  (69, TNode),
  (71, (.cell .func)),
  (72, (.int .u64)),
  (73, THead),
  (74, THead),
  (76, (.cell .func)),
  (77, (.cell .func)),
  (78, (.cell .func)),
  (79, TReq),
  (80, TReq),
  (82, (.cell .func)),
  (83, (.cell .func)),
  (84, (.cell .func)),
  (85, (.slice TPtr)),
  (86, (.slice TPtr)),
  (87, (.cell .func)),
  (88, TPtr),
  (89, (.cell .func)),
  (91, (.cell .func)),
  (92, (.cell .func)),
  (93, (.cell .func)),
  (94, (.pair (.int .i64) (.pair (.slice (.pair (.int .i64) (.pair (.int .i64) TClaim))) (.pair (.slice (.pair (.int .i64) (.pair (.int .i64) (.pair (.int .i64) (.pair (.int .u64) .unit))))) (.pair (.int .u64) .unit))))),
  (95, (.pair (.int .i64) (.pair (.int .i64) (.pair (.int .i64) (.pair (.int .i64) (.pair (.slice (.int .i64)) (.pair .bool .unit))))))),
  (96, (.pair (.int .i64) (.pair (.int .i64) (.pair (.int .i64) (.pair (.int .i64) (.pair (.slice (.int .i64)) (.pair .bool .unit))))))),
  (97, (.cell .func)),
  (98, TOp),
  (99, TOp),
  (100, TOp),
  (101, TOp),
  (102, TOut),
  (103, TOut),
  (105, (.cell .func)),
  (106, TOut),
  (107, TOut),
  (108, (.pair (.slice (.int .i64)) (.pair (.slice TPage) (.pair TOut (.pair .bool (.pair .bool .unit)))))),
  (109, (.pair (.slice (.int .i64)) (.pair (.slice TPage) (.pair TOut (.pair .bool (.pair .bool .unit)))))),
  (110, (.cell .func)),
  (111, (.cell .func)),
  (112, (.slice TReq)),
  (113, (.cell .ptr)),
  (115, (.cell .func)),
  (116, (.cell .func)),
  (117, TReq),
  (118, TReq),
  (119, (.arr 6 (.int .i64))),
  (120, (.slice .bool)),
  (121, (.pair (.cell .ptr) (.pair (.arr 6 (.int .i64)) (.pair (.slice (.int .i64)) (.pair (.slice TPtr) (.pair (.slice .bool) (.pair (.int .i64) .unit))))))),
  (122, (.pair (.cell .ptr) (.pair (.arr 6 (.int .i64)) (.pair (.slice (.int .i64)) (.pair (.slice TPtr) (.pair (.slice .bool) (.pair (.int .i64) .unit))))))),
  (123, (.cell .func)),
  (124, (.slice (.arr 6 .bool))),
  (125, (.arr 6 .bool)),
  (127, (.cell .func)),
  (128, (.cell .func)),
  (129, (.cell .func)),
  (131, (.cell .func)),
  (132, (.cell .func)),
  (133, (.cell .func)),
  (135, (.cell .func)),
  (137, (.cell .func)),
  (139, (.cell .func)),
  (140, (.cell .func)),
  (141, (.cell .func)),
  (142, (.cell .func)),
  (143, (.cell .func)),
  (144, TRet),
  (145, TRet),
  (146, (.arr 4 TRet)),
  (147, TNode),
  (148, TNode),
  (150, (.cell .func)),
  (151, (.cell .func)),
  (152, THead),
  (154, (.cell .func)),
  (155, (.cell .func)),
  (156, (.cell .func)),
  (157, (.cell .func)),
  (158, (.cell .func)),
  (159, (.pair (.int .i64) (.pair (.int .i64) TClaim))),
  (160, (.pair (.int .i64) (.pair (.int .i64) TClaim))),
  (162, (.cell .func)),
  (163, (.cell .func)),
  (164, (.slice (.int .u64))),
  (165, (.cell .map)),
  (166, (.cell .map)),
  (167, (.cell .func)),
  (168, (.pair (.int .i64) THead)),
  (169, (.pair (.int .i64) THead)),
  (170, (.cell .func)),
  (172, (.slice (.int .u32))),
  (174, (.cell .func)),
  (175, (.cell .func)),
  (176, (.cell .func)),
  (177, (.cell .func)),
  (178, (.cell .func)),
  (179, (.pair (.int .i64) (.pair (.int .i64) (.pair (.int .i64) (.pair (.int .u64) .unit))))),
  (180, (.pair (.int .i64) (.pair (.int .i64) (.pair (.int .i64) (.pair (.int .u64) .unit))))),
  (181, (.cell .map)),
  (182, (.pair TPage (.pair (.int .u32) (.pair (.cell .map) (.pair (.cell .map) .unit))))),
  (183, (.pair TPage (.pair (.int .u32) (.pair (.cell .map) (.pair (.cell .map) .unit))))),
  (185, (.cell .func)),
  (187, (.cell .func)),
  (188, (.cell .func)),
  (189, (.cell .func)),
  (190, (.cell .func)),
  (191, (.cell .func)),
  (192, (.cell .func)),
  (193, (.slice TNode)),
  (195, (.cell .func)),
  (197, (.cell .func)),
  (198, (.cell .func)),
  (199, (.cell .func)),
  (200, (.cell .func)),
  (201, (.cell .func)),
  (202, (.cell .func)),
  (203, (.cell .func)),
  (205, (.cell .func)),
  (206, (.cell .func)),
  (207, (.cell .func)),
  (208, (.cell .func)),
  (209, (.cell .func)),
  (210, (.cell .func)),
  (211, (.arr 3 (.int .i64))),
  (212, TReq),
  (213, TReq),
  (214, (.pair (.int .i64) (.pair (.int .u32) (.pair (.int .u32) (.pair (.arr 3 (.int .i64)) (.pair (.int .i64) (.pair (.int .i64) (.pair TReq (.pair (.int .i64) .unit))))))))),
  (215, (.pair (.int .i64) (.pair (.int .u32) (.pair (.int .u32) (.pair (.arr 3 (.int .i64)) (.pair (.int .i64) (.pair (.int .i64) (.pair TReq (.pair (.int .i64) .unit))))))))),
  (216, (.cell .func)),
  (217, (.slice (.pair (.int .i64) (.pair (.int .u32) (.pair (.int .u32) (.pair (.arr 3 (.int .i64)) (.pair (.int .i64) (.pair (.int .i64) (.pair TReq (.pair (.int .i64) .unit)))))))))),
  (218, (.cell .func)),
  (219, (.cell .func)),
  (220, (.cell .func)),
  (221, (.cell .func)),
  (222, (.cell .func)),
  (223, (.cell .func)),
  (224, (.cell .func)),
  (225, (.cell .func)),
  (226, (.cell .func)),
  (227, (.cell .func)),
  (228, (.cell .func)),
  (229, (.cell .func)),
  (230, (.cell .func)),
  (231, (.cell .func)),
  (232, (.cell .func)),
  (233, (.cell .func)),
  (234, (.cell .func)),
  (235, (.cell .func)),
  (236, (.cell .func)),
  (237, (.cell .func)),
  (238, (.cell .func)),
  (239, (.arr 6 (.int .u64))),
  (240, (.arr 6 (.int .u64))),
  (241, (.pair (.int .i64) (.pair (.int .i64) (.pair (.int .i64) (.pair (.slice (.pair (.int .i64) (.pair (.int .u32) (.pair (.int .u32) (.pair (.arr 3 (.int .i64)) (.pair (.int .i64) (.pair (.int .i64) (.pair TReq (.pair (.int .i64) .unit))))))))) (.pair (.slice (.int .i64)) (.pair .bool (.pair (.arr 6 (.int .u64)) .unit)))))))),
  (242, (.pair (.int .i64) (.pair (.int .i64) (.pair (.int .i64) (.pair (.slice (.pair (.int .i64) (.pair (.int .u32) (.pair (.int .u32) (.pair (.arr 3 (.int .i64)) (.pair (.int .i64) (.pair (.int .i64) (.pair TReq (.pair (.int .i64) .unit))))))))) (.pair (.slice (.int .i64)) (.pair .bool (.pair (.arr 6 (.int .u64)) .unit)))))))),
  (243, (.slice (.pair (.slice (.pair (.int .u32) (.pair (.arr 3 (.int .i64)) .unit))) (.pair (.int .i64) .unit)))),
  (244, (.pair (.int .i64) (.pair (.int .i64) (.pair (.int .i64) (.pair (.slice (.pair (.slice (.pair (.int .u32) (.pair (.arr 3 (.int .i64)) .unit))) (.pair (.int .i64) .unit))) (.pair (.slice (.int .i64)) (.pair .bool (.pair .bool (.pair .bool (.pair .bool .unit)))))))))),
  (245, (.pair (.int .i64) (.pair (.int .i64) (.pair (.int .i64) (.pair (.slice (.pair (.slice (.pair (.int .u32) (.pair (.arr 3 (.int .i64)) .unit))) (.pair (.int .i64) .unit))) (.pair (.slice (.int .i64)) (.pair .bool (.pair .bool (.pair .bool (.pair .bool .unit)))))))))),
  (246, (.pair (.slice (.int .i64)) (.pair (.slice TPage) (.pair (.pair (.int .i64) (.pair (.int .i64) (.pair (.int .i64) (.pair (.slice (.pair (.slice (.pair (.int .u32) (.pair (.arr 3 (.int .i64)) .unit))) (.pair (.int .i64) .unit))) (.pair (.slice (.int .i64)) (.pair .bool (.pair .bool (.pair .bool (.pair .bool .unit))))))))) (.pair .bool .unit))))),
  (247, (.pair (.slice (.int .i64)) (.pair (.slice TPage) (.pair (.pair (.int .i64) (.pair (.int .i64) (.pair (.int .i64) (.pair (.slice (.pair (.slice (.pair (.int .u32) (.pair (.arr 3 (.int .i64)) .unit))) (.pair (.int .i64) .unit))) (.pair (.slice (.int .i64)) (.pair .bool (.pair .bool (.pair .bool (.pair .bool .unit))))))))) (.pair .bool .unit))))),
  (248, (.cell .func)),
  (250, (.cell .func)),
  (251, (.pair (.int .i64) (.pair (.pair (.int .i64) THead) (.pair .bool (.pair (.slice (.int .i64)) .unit))))),
  (252, (.pair (.int .i64) (.pair (.pair (.int .i64) THead) (.pair .bool (.pair (.slice (.int .i64)) .unit))))),
  (253, (.pair (.slice (.int .i64)) (.pair (.slice TPage) (.pair (.pair (.int .i64) (.pair (.pair (.int .i64) THead) (.pair .bool (.pair (.slice (.int .i64)) .unit)))) (.pair .bool .unit))))),
  (254, (.pair (.slice (.int .i64)) (.pair (.slice TPage) (.pair (.pair (.int .i64) (.pair (.pair (.int .i64) THead) (.pair .bool (.pair (.slice (.int .i64)) .unit)))) (.pair .bool .unit))))),
  (255, (.cell .func)),
  (256, (.cell .func)),
  (257, (.cell .func)),
  (258, (.cell .func)),
  (259, (.cell .func)),
  (260, (.cell .func)),
  (261, (.int .i64)),
  (263, (.cell .func)),
  (264, (.cell .func)),
  (265, (.cell .func)),
  (266, (.cell .func)),
  (267, (.cell .func)),
  (268, (.cell .func)),
  (269, (.cell .func)),
  (270, (.cell .func)),
  (271, (.cell .func)),
  (272, (.cell .func)),
  (273, (.cell .func)),
  (274, (.cell .ptr)),
  (275, (.pair (.pair (.int .i64) (.pair (.int .i64) (.pair (.int .i64) (.pair (.slice (.pair (.int .i64) (.pair (.int .u32) (.pair (.int .u32) (.pair (.arr 3 (.int .i64)) (.pair (.int .i64) (.pair (.int .i64) (.pair TReq (.pair (.int .i64) .unit))))))))) (.pair (.slice (.int .i64)) (.pair .bool (.pair (.arr 6 (.int .u64)) .unit))))))) (.pair (.slice TPage) (.pair (.slice TPage) (.pair (.slice (.int .i64)) (.pair (.slice (.int .i64)) (.pair (.int .i64) (.pair (.pair (.int .i64) (.pair (.int .i64) (.pair (.int .i64) (.pair (.slice (.pair (.slice (.pair (.int .u32) (.pair (.arr 3 (.int .i64)) .unit))) (.pair (.int .i64) .unit))) (.pair (.slice (.int .i64)) (.pair .bool (.pair .bool (.pair .bool (.pair .bool .unit))))))))) .unit)))))))),
  (276, (.pair (.pair (.int .i64) (.pair (.int .i64) (.pair (.int .i64) (.pair (.slice (.pair (.int .i64) (.pair (.int .u32) (.pair (.int .u32) (.pair (.arr 3 (.int .i64)) (.pair (.int .i64) (.pair (.int .i64) (.pair TReq (.pair (.int .i64) .unit))))))))) (.pair (.slice (.int .i64)) (.pair .bool (.pair (.arr 6 (.int .u64)) .unit))))))) (.pair (.slice TPage) (.pair (.slice TPage) (.pair (.slice (.int .i64)) (.pair (.slice (.int .i64)) (.pair (.int .i64) (.pair (.pair (.int .i64) (.pair (.int .i64) (.pair (.int .i64) (.pair (.slice (.pair (.slice (.pair (.int .u32) (.pair (.arr 3 (.int .i64)) .unit))) (.pair (.int .i64) .unit))) (.pair (.slice (.int .i64)) (.pair .bool (.pair .bool (.pair .bool (.pair .bool .unit))))))))) .unit)))))))),
  (277, (.cell .func)),
  (278, (.pair (.slice (.pair (.int .u32) (.pair (.arr 3 (.int .i64)) .unit))) (.pair (.int .i64) .unit))),
  (279, (.pair (.slice (.pair (.int .u32) (.pair (.arr 3 (.int .i64)) .unit))) (.pair (.int .i64) .unit))),
  (280, (.cell .func)),
  (281, (.cell .func)),
  (282, (.cell .func)),
  (283, (.cell .func)),
  (284, (.cell .func)),
  (285, (.pair (.int .u32) (.pair (.arr 3 (.int .i64)) .unit))),
  (286, (.pair (.int .u32) (.pair (.arr 3 (.int .i64)) .unit))),
  (287, (.cell .func)),
  (289, (.cell .func)),
  (291, (.cell .func)),
  (292, (.cell .func)),
  (293, (.cell .func)),
  (294, (.cell .func)),
  (295, (.cell .func)),
  (296, (.slice (.slice TPage))),
  (297, (.cell .func)),
  (298, (.int .u64)),
  (299, (.cell .func)),
  (300, (.cell .func)),
  (301, (.cell .func)),
  (302, (.cell .ptr)),
  (303, (.cell .func)),
  (304, (.cell .func)),
  (305, (.cell .func)),
  (306, (.cell .func)),
  (307, (.cell .func)),
  (308, (.cell .func)),
  (309, (.pair (.pair (.int .u32) (.pair (.arr 3 (.int .i64)) .unit)) (.pair .bool (.pair (.int .u32) (.pair (.int .u64) (.pair TPtr .unit)))))),
  (310, (.pair (.pair (.int .u32) (.pair (.arr 3 (.int .i64)) .unit)) (.pair .bool (.pair (.int .u32) (.pair (.int .u64) (.pair TPtr .unit)))))),
  (311, (.pair .bool (.pair TPage (.pair (.pair (.pair (.int .u32) (.pair (.arr 3 (.int .i64)) .unit)) (.pair .bool (.pair (.int .u32) (.pair (.int .u64) (.pair TPtr .unit))))) (.pair .bool .unit))))),
  (312, (.pair .bool (.pair TPage (.pair (.pair (.pair (.int .u32) (.pair (.arr 3 (.int .i64)) .unit)) (.pair .bool (.pair (.int .u32) (.pair (.int .u64) (.pair TPtr .unit))))) (.pair .bool .unit))))),
  (313, (.cell .func)),
  (314, (.cell .func)),
  (315, (.cell .func)),
  (316, (.cell .func)),
  (318, (.cell .func)),
  (319, (.slice (.int .i64))),
  (320, (.cell .func)),
  (321, (.slice (.pair (.int .u32) (.pair TPtr .unit)))),
  (322, (.pair (.int .i64) (.pair .bool (.pair .bool (.pair (.int .u32) (.pair TPtr (.pair (.slice (.pair (.int .u32) (.pair TPtr .unit))) .unit))))))),
  (323, (.pair (.int .i64) (.pair .bool (.pair .bool (.pair (.int .u32) (.pair TPtr (.pair (.slice (.pair (.int .u32) (.pair TPtr .unit))) .unit))))))),
  (324, (.pair (.slice (.int .i64)) (.pair .bool (.pair .bool (.pair (.int .i64) (.pair TPage (.pair (.pair (.int .i64) (.pair .bool (.pair .bool (.pair (.int .u32) (.pair TPtr (.pair (.slice (.pair (.int .u32) (.pair TPtr .unit))) .unit)))))) (.pair (.pair (.int .i64) (.pair .bool (.pair .bool (.pair (.int .u32) (.pair TPtr (.pair (.slice (.pair (.int .u32) (.pair TPtr .unit))) .unit)))))) (.pair (.int .i64) (.pair .bool (.pair .bool .unit))))))))))),
  (325, (.pair (.slice (.int .i64)) (.pair .bool (.pair .bool (.pair (.int .i64) (.pair TPage (.pair (.pair (.int .i64) (.pair .bool (.pair .bool (.pair (.int .u32) (.pair TPtr (.pair (.slice (.pair (.int .u32) (.pair TPtr .unit))) .unit)))))) (.pair (.pair (.int .i64) (.pair .bool (.pair .bool (.pair (.int .u32) (.pair TPtr (.pair (.slice (.pair (.int .u32) (.pair TPtr .unit))) .unit)))))) (.pair (.int .i64) (.pair .bool (.pair .bool .unit))))))))))),
  (326, (.cell .func)),
  (327, (.pair (.int .i64) (.pair .bool (.pair .bool (.pair .bool (.pair .bool (.pair .bool (.pair .bool (.pair TPtr (.pair (.slice (.pair (.int .u32) (.pair TPtr .unit))) (.pair (.slice (.int .i64)) TReq))))))))))),
  (328, (.pair (.int .i64) (.pair .bool (.pair .bool (.pair .bool (.pair .bool (.pair .bool (.pair .bool (.pair TPtr (.pair (.slice (.pair (.int .u32) (.pair TPtr .unit))) (.pair (.slice (.int .i64)) TReq))))))))))),
  (329, (.pair (.slice (.int .i64)) (.pair (.slice TPage) (.pair (.pair (.int .i64) (.pair .bool (.pair .bool (.pair .bool (.pair .bool (.pair .bool (.pair .bool (.pair TPtr (.pair (.slice (.pair (.int .u32) (.pair TPtr .unit))) (.pair (.slice (.int .i64)) TReq)))))))))) (.pair .bool .unit))))),
  (330, (.pair (.slice (.int .i64)) (.pair (.slice TPage) (.pair (.pair (.int .i64) (.pair .bool (.pair .bool (.pair .bool (.pair .bool (.pair .bool (.pair .bool (.pair TPtr (.pair (.slice (.pair (.int .u32) (.pair TPtr .unit))) (.pair (.slice (.int .i64)) TReq)))))))))) (.pair .bool .unit))))),
  (331, (.cell .func)),
  (332, (.pair (.int .i64) (.pair (.int .u32) (.pair (.int .u32) (.pair TPtr (.pair (.int .i64) (.pair (.int .i64) (.pair (.slice TPage) .unit)))))))),
  (333, (.pair (.int .i64) (.pair (.int .u32) (.pair (.int .u32) (.pair TPtr (.pair (.int .i64) (.pair (.int .i64) (.pair (.slice TPage) .unit)))))))),
  (334, (.cell .func)),
  (335, (.pair (.int .u32) (.pair TPtr .unit))),
  (336, (.pair (.int .u32) (.pair TPtr .unit))),
  (337, (.cell .func)),
  (339, (.cell .func)),
  (340, (.pair (.int .i64) (.pair .bool (.pair .bool (.pair .bool (.pair .bool (.pair .bool (.pair TPtr (.pair (.slice (.int .i64)) TPtr))))))))),
  (341, (.pair (.int .i64) (.pair .bool (.pair .bool (.pair .bool (.pair .bool (.pair .bool (.pair TPtr (.pair (.slice (.int .i64)) TPtr))))))))),
  (342, (.pair (.slice (.int .i64)) (.pair (.slice TPage) (.pair (.pair (.int .i64) (.pair .bool (.pair .bool (.pair .bool (.pair .bool (.pair .bool (.pair TPtr (.pair (.slice (.int .i64)) TPtr)))))))) (.pair .bool .unit))))),
  (343, (.pair (.slice (.int .i64)) (.pair (.slice TPage) (.pair (.pair (.int .i64) (.pair .bool (.pair .bool (.pair .bool (.pair .bool (.pair .bool (.pair TPtr (.pair (.slice (.int .i64)) TPtr)))))))) (.pair .bool .unit))))),
  (344, (.cell .func)),
  (345, (.arr 4 TPtr)),
  (346, (.pair TPtr (.pair (.int .i64) (.pair (.arr 4 TPtr) .unit)))),
  (347, (.pair TPtr (.pair (.int .i64) (.pair (.arr 4 TPtr) .unit)))),
  (349, (.cell .func)),
  (350, (.pair (.int .i64) (.pair (.int .u32) (.pair TPtr (.pair (.slice (.pair (.int .u32) (.pair TPtr .unit))) .unit))))),
  (351, (.pair (.int .i64) (.pair (.int .u32) (.pair TPtr (.pair (.slice (.pair (.int .u32) (.pair TPtr .unit))) .unit))))),
  (352, (.pair (.slice (.int .i64)) (.pair .bool (.pair TPage (.pair (.pair (.int .i64) (.pair (.int .u32) (.pair TPtr (.pair (.slice (.pair (.int .u32) (.pair TPtr .unit))) .unit)))) (.pair (.pair (.int .i64) (.pair .bool (.pair .bool (.pair .bool (.pair .bool (.pair .bool (.pair TPtr (.pair (.slice (.int .i64)) TPtr)))))))) .unit)))))),
  (353, (.pair (.slice (.int .i64)) (.pair .bool (.pair TPage (.pair (.pair (.int .i64) (.pair (.int .u32) (.pair TPtr (.pair (.slice (.pair (.int .u32) (.pair TPtr .unit))) .unit)))) (.pair (.pair (.int .i64) (.pair .bool (.pair .bool (.pair .bool (.pair .bool (.pair .bool (.pair TPtr (.pair (.slice (.int .i64)) TPtr)))))))) .unit)))))),
  (354, (.cell .func)),
  (355, (.cell .ptr)),
  (357, (.cell .func)),
  (358, (.cell .func)),
  (359, (.pair (.slice (.int .i64)) (.pair (.pair (.pair (.int .u32) (.pair (.arr 3 (.int .i64)) .unit)) (.pair .bool (.pair (.int .u32) (.pair (.int .u64) (.pair TPtr .unit))))) (.pair .bool (.pair (.int .i64) (.pair .bool .unit)))))),
  (360, (.pair (.slice (.int .i64)) (.pair (.pair (.pair (.int .u32) (.pair (.arr 3 (.int .i64)) .unit)) (.pair .bool (.pair (.int .u32) (.pair (.int .u64) (.pair TPtr .unit))))) (.pair .bool (.pair (.int .i64) (.pair .bool .unit)))))),
  (361, (.cell .func)),
  (363, (.cell .func)),
  (365, (.cell .func)),
  (366, (.cell .func)),
  (367, (.cell .func)),
  (368, (.cell .func)),
  (369, (.cell .func)),
  (371, (.cell .func)),
  (372, (.cell .func)),
  (373, (.cell .func)),
  (374, (.cell .func)),
  (376, (.cell .func)),
  (378, (.cell .func)),
  (379, (.cell .func)),
  (380, (.cell .func)),
  (381, (.cell .func)),
  (382, (.cell .func)),
  (383, (.cell .func)),
  (384, (.cell .func)),
  (385, (.cell .func)),
  (386, (.cell .func)),
  (387, (.cell .func)),
  (388, (.cell .func)),
  (389, (.cell .func)),
  (390, (.cell .func)),
  (391, (.cell .func)),
  (392, (.cell .func)),
  (393, (.cell .func)),
  (394, (.cell .func)),
  (395, (.cell .func)),
  (396, (.cell .func)),
  (398, (.cell .func)),
  (399, (.cell .func)),
  (401, (.cell .func)),
  (402, (.cell .func)),
  (403, (.arr 8 TPtr)),
  (405, (.cell .func)),
  (406, (.cell .func)),
  (407, (.cell .func)),
  (408, (.cell .func)),
  (410, (.cell .func)),
  (411, (.cell .func)),
  (412, (.cell .func)),
  (413, (.cell .func)),
  (414, (.cell .func)),
  (415, (.cell .func)),
  (416, (.cell .func)),
  (417, (.cell .func)),
  (419, (.cell .func)),
  (420, (.cell .func)),
  (421, (.cell .func)),
  (424, (.arr 0 (.cell .ptr))),
  (427, (.cell .func)),
  (428, (.int .u8)),
  (429, (.int .u8)),
  (430, (.cell .func)),
  (431, (.cell .ptr)),
  (432, (.int .i32)),
  (433, (.int .i32))]
noncomputable abbrev PT := Go.Proofs.Tryz.prog
noncomputable def tfE : Nat → Option Ty := lookT tfl
theorem tfAll : (tfl.all fun p => tyB PT tfE p.1 p.2) = true := by kernel_rfl
theorem tyE : ∀ t ty, tfE t = some ty → TyOk PT tfE t ty := fun t ty h => TyOk.of (List.all_eq_true.1 tfAll (t, ty) (lookT_mem h))
noncomputable def mtl : List (Nat × (IntKind × Nat × Ty)) := [(165, .i64, 53, TPage), (166, .i64, 74, THead), (181, .i64, 69, TNode)]
noncomputable def mtE : Nat → Option (IntKind × Nat × Ty) := lookT mtl
theorem mtAll : (mtl.all fun p => mtB PT tfE p.1 p.2.1 p.2.2.1 p.2.2.2) = true := by kernel_rfl
theorem mapE : ∀ t k e ty, mtE t = some (k, e, ty) → MtOk PT tfE t k e ty := fun t k e ty h => MtOk.of (List.all_eq_true.1 mtAll (t, (k, e, ty)) (lookT_mem h))
theorem mixed : PT.follows .mixedOrders = true := by kernel_rfl
end Go.Sx
set_option linter.unusedVariables false
set_option maxRecDepth 100000
namespace Go.Sx
open Go.RowKit Go.Proofs
noncomputable def str1 : ByteArray := (ByteArray.mk (List.toArray (List.append (List.append [0, 1, 2, 2, 3, 3, 3, 3, 4, 4, 4, 4, 4, 4, 4, 4, 5, 5, 5, 5, 5, 5, 5, 5, 5, 5, 5, 5, 5, 5, 5, 5, 6, 6, 6, 6, 6, 6, 6, 6, 6, 6, 6, 6, 6, 6, 6, 6, 6, 6, 6, 6, 6, 6, 6, 6, 6, 6, 6, 6, 6, 6, 6, 6] [7, 7, 7, 7, 7, 7, 7, 7, 7, 7, 7, 7, 7, 7, 7, 7, 7, 7, 7, 7, 7, 7, 7, 7, 7, 7, 7, 7, 7, 7, 7, 7, 7, 7, 7, 7, 7, 7, 7, 7, 7, 7, 7, 7, 7, 7, 7, 7, 7, 7, 7, 7, 7, 7, 7, 7, 7, 7, 7, 7, 7, 7, 7, 7]) (List.append [8, 8, 8, 8, 8, 8, 8, 8, 8, 8, 8, 8, 8, 8, 8, 8, 8, 8, 8, 8, 8, 8, 8, 8, 8, 8, 8, 8, 8, 8, 8, 8, 8, 8, 8, 8, 8, 8, 8, 8, 8, 8, 8, 8, 8, 8, 8, 8, 8, 8, 8, 8, 8, 8, 8, 8, 8, 8, 8, 8, 8, 8, 8, 8] [8, 8, 8, 8, 8, 8, 8, 8, 8, 8, 8, 8, 8, 8, 8, 8, 8, 8, 8, 8, 8, 8, 8, 8, 8, 8, 8, 8, 8, 8, 8, 8, 8, 8, 8, 8, 8, 8, 8, 8, 8, 8, 8, 8, 8, 8, 8, 8, 8, 8, 8, 8, 8, 8, 8, 8, 8, 8, 8, 8, 8, 8, 8, 8]))))
noncomputable def str2 : ByteArray := (ByteArray.mk (List.toArray (List.append (List.append [0, 1, 1, 2, 1, 2, 2, 3, 1, 2, 2, 3, 2, 3, 3, 4, 1, 2, 2, 3, 2, 3, 3, 4, 2, 3, 3, 4, 3, 4, 4, 5, 1, 2, 2, 3, 2, 3, 3, 4, 2, 3, 3, 4, 3, 4, 4, 5, 2, 3, 3, 4, 3, 4, 4, 5, 3, 4, 4, 5, 4, 5, 5, 6] [1, 2, 2, 3, 2, 3, 3, 4, 2, 3, 3, 4, 3, 4, 4, 5, 2, 3, 3, 4, 3, 4, 4, 5, 3, 4, 4, 5, 4, 5, 5, 6, 2, 3, 3, 4, 3, 4, 4, 5, 3, 4, 4, 5, 4, 5, 5, 6, 3, 4, 4, 5, 4, 5, 5, 6, 4, 5, 5, 6, 5, 6, 6, 7]) (List.append [1, 2, 2, 3, 2, 3, 3, 4, 2, 3, 3, 4, 3, 4, 4, 5, 2, 3, 3, 4, 3, 4, 4, 5, 3, 4, 4, 5, 4, 5, 5, 6, 2, 3, 3, 4, 3, 4, 4, 5, 3, 4, 4, 5, 4, 5, 5, 6, 3, 4, 4, 5, 4, 5, 5, 6, 4, 5, 5, 6, 5, 6, 6, 7] [2, 3, 3, 4, 3, 4, 4, 5, 3, 4, 4, 5, 4, 5, 5, 6, 3, 4, 4, 5, 4, 5, 5, 6, 4, 5, 5, 6, 5, 6, 6, 7, 3, 4, 4, 5, 4, 5, 5, 6, 4, 5, 5, 6, 5, 6, 6, 7, 4, 5, 5, 6, 5, 6, 6, 7, 5, 6, 6, 7, 6, 7, 7, 8]))))
noncomputable def qf0 (a0 : Int) (a1 : Int) : Option Bool :=
some (decide ((IntKind.wrap .u64 ((IntKind.wrap .u64 a1) + (2 : Int))) ≤ (IntKind.wrap .u64 a0)))
noncomputable def qf0I : Shape := ⟨11, 0, [(0, .dat false (.int .u32)), (1, .dat false (.int .u32))], [], [], true⟩
noncomputable def qf0O : Shape := ⟨12, 0, [(11, .dat true .bool)], [], [], true⟩
noncomputable def qf0F : (Int × Int) → Option Bool := fun y => qf0 y.1 y.2
noncomputable def qf0ct : Ctr := ctrOf qf0I qf0O id id qf0F
noncomputable def qf0E : Env := { tf := tfE, mt := mtE, fn := fun f => none }
theorem qf0_env : EnvOk PT qf0E := ⟨tyE, (fun f ct h => by
  simp only [qf0E] at h
  cases h), mapE⟩
noncomputable def qf0C : Code := bodyOf Tryz.f99
noncomputable def qf0H : Nat → Option Sum := fun n => none
theorem qf0_bd (y : Int × Int) : @Eq (Option Bool) (exec qf0E qf0H qf0C (qf0I.mk' (show qf0I.D from y)) (kontF (Z := Bool) qf0E Tryz.f99.results.toList qf0O id)) (qf0F y) := by kernel_rfl
theorem qf0_ctr : CtrOk PT 99 qf0ct :=
  @ctr_ok PT qf0E qf0H qf0_env mixed 99 Tryz.f99 qf0C (by kernel_rfl) (by kernel_rfl) (enters_of (by kernel_rfl : PT.funcs[99]? = some Tryz.f99) (by kernel_rfl) (by kernel_rfl)) qf0I qf0O (Int × Int) Bool id id id id (fun _ => rfl) (fun _ => rfl) (by kernel_rfl) (by kernel_rfl) qf0F qf0_bd (fun _ _ _ _ => noLoops (by kernel_rfl))
noncomputable def qf1  : Option Bool :=
(qf0 (5 : Int) (3 : Int)).bind fun r1 =>
bif r1 then (
(qf0 (4 : Int) (3 : Int)).bind fun r2 =>
some (!r2))
else (
some false)
noncomputable def qf1I : Shape := ⟨6, 0, [], [], [], true⟩
noncomputable def qf1O : Shape := ⟨7, 0, [(6, .dat true .bool)], [], [], true⟩
noncomputable def qf1F : Unit → Option Bool := fun y => qf1 
noncomputable def qf1ct : Ctr := ctrOf qf1I qf1O id id qf1F
noncomputable def qf1E : Env := { tf := tfE, mt := mtE, fn := fun f => bif Nat.beq f 99 then some qf0ct else none }
theorem qf1_env : EnvOk PT qf1E := ⟨tyE, (fun f ct h => by
  simp only [qf1E] at h
  refine envCons (c := qf0ct) h qf0_ctr (fun h => ?_)
  cases h), mapE⟩
noncomputable def qf1C : Code := bodyOf Tryz.f37
theorem qf1_bd (y : Unit) : @Eq (Option Bool) (exec qf1E qf0H qf1C (qf1I.mk' (show qf1I.D from y)) (kontF (Z := Bool) qf1E Tryz.f37.results.toList qf1O id)) (qf1F y) := by kernel_rfl
theorem qf1_ctr : CtrOk PT 37 qf1ct :=
  @ctr_ok PT qf1E qf0H qf1_env mixed 37 Tryz.f37 qf1C (by kernel_rfl) (by kernel_rfl) (enters_of (by kernel_rfl : PT.funcs[37]? = some Tryz.f37) (by kernel_rfl) (by kernel_rfl)) qf1I qf1O Unit Bool id id id id (fun _ => rfl) (fun _ => rfl) (by kernel_rfl) (by kernel_rfl) qf1F qf1_bd (fun _ _ _ _ => noLoops (by kernel_rfl))
noncomputable def qf2 (a0 : Int) (a1 : Int) : Option Int :=
bif (decide (a1 < (1 : Int))) then (
some (0 : Int))
else (
bif (!(decide (a1 = (0 : Int)))) then
bif (!(decide (a1 = (0 : Int)))) then
some (Int.tmod (IntKind.wrap .i64 ((Int.tmod a0 a1) + a1)) a1)
else none
else none)
noncomputable def qf2I : Shape := ⟨14, 0, [(0, .dat false (.int .i64)), (1, .dat false (.int .i64))], [], [], true⟩
noncomputable def qf2O : Shape := ⟨15, 0, [(14, .dat true (.int .i64))], [], [], true⟩
noncomputable def qf2F : (Int × Int) → Option Int := fun y => qf2 y.1 y.2
noncomputable def qf2ct : Ctr := ctrOf qf2I qf2O id id qf2F
noncomputable def qf2E : Env := { tf := tfE, mt := mtE, fn := fun f => none }
theorem qf2_env : EnvOk PT qf2E := ⟨tyE, (fun f ct h => by
  simp only [qf2E] at h
  cases h), mapE⟩
noncomputable def qf2C : Code := bodyOf Tryz.f12
theorem qf2_bd (y : Int × Int) : @Eq (Option Int) (exec qf2E qf0H qf2C (qf2I.mk' (show qf2I.D from y)) (kontF (Z := Int) qf2E Tryz.f12.results.toList qf2O id)) (qf2F y) := by kernel_rfl
theorem qf2_ctr : CtrOk PT 12 qf2ct :=
  @ctr_ok PT qf2E qf0H qf2_env mixed 12 Tryz.f12 qf2C (by kernel_rfl) (by kernel_rfl) (enters_of (by kernel_rfl : PT.funcs[12]? = some Tryz.f12) (by kernel_rfl) (by kernel_rfl)) qf2I qf2O (Int × Int) Int id id id id (fun _ => rfl) (fun _ => rfl) (by kernel_rfl) (by kernel_rfl) qf2F qf2_bd (fun _ _ _ _ => noLoops (by kernel_rfl))
noncomputable def qf3 (a0 : Int) : Option Int :=
(qf2 a0 (5 : Int)).bind fun r1 =>
some (IntKind.wrap .i64 ((104 : Int) + (IntKind.wrap .i64 ((16 : Int) * (IntKind.wrap .i64 ((1 : Int) + r1))))))
noncomputable def qf3I : Shape := ⟨8, 0, [(0, .dat false (.int .i64))], [], [], true⟩
noncomputable def qf3O : Shape := ⟨9, 0, [(8, .dat true (.int .i64))], [], [], true⟩
noncomputable def qf3F : Int → Option Int := fun y => qf3 y
noncomputable def qf3ct : Ctr := ctrOf qf3I qf3O id id qf3F
noncomputable def qf3E : Env := { tf := tfE, mt := mtE, fn := fun f => bif Nat.beq f 12 then some qf2ct else none }
theorem qf3_env : EnvOk PT qf3E := ⟨tyE, (fun f ct h => by
  simp only [qf3E] at h
  refine envCons (c := qf2ct) h qf2_ctr (fun h => ?_)
  cases h), mapE⟩
noncomputable def qf3C : Code := bodyOf Tryz.f21
theorem qf3_bd (y : Int) : @Eq (Option Int) (exec qf3E qf0H qf3C (qf3I.mk' (show qf3I.D from y)) (kontF (Z := Int) qf3E Tryz.f21.results.toList qf3O id)) (qf3F y) := by kernel_rfl
theorem qf3_ctr : CtrOk PT 21 qf3ct :=
  @ctr_ok PT qf3E qf0H qf3_env mixed 21 Tryz.f21 qf3C (by kernel_rfl) (by kernel_rfl) (enters_of (by kernel_rfl : PT.funcs[21]? = some Tryz.f21) (by kernel_rfl) (by kernel_rfl)) qf3I qf3O Int Int id id id id (fun _ => rfl) (fun _ => rfl) (by kernel_rfl) (by kernel_rfl) qf3F qf3_bd (fun _ _ _ _ => noLoops (by kernel_rfl))
noncomputable def qf4L1b (x0 : Int) (x1 : Int) (x2 : Int) (x3 : Int) (x4 : Val (.pair (.int .i64) THead)) (x5 : Val (.slice TPage)) : Option ((Int × Int × Int × Int × (Val (.pair (.int .i64) THead)) × (Val (.slice TPage))) ⊕ (Int × Int × (Val (.pair (.int .i64) THead)) × (Val (.slice TPage)))) :=
bif (decide (x1 < x0)) then (
bif (decide (((List.length x5) + 1) ≤ lim)) then
some (Sum.inl (x0, (IntKind.wrap .i64 (x1 + (1 : Int))), x2, x3, x4, (x5 ++ [(x1, (256 : Int), (List.replicate 7 (0 : Int)), ())])))
else none)
else (
some (Sum.inr (x2, x3, x4, x5)))
noncomputable def qf4L1B : (Int × Int × Int × Int × (Val (.pair (.int .i64) THead)) × (Val (.slice TPage))) → Option ((Int × Int × Int × Int × (Val (.pair (.int .i64) THead)) × (Val (.slice TPage))) ⊕ (Int × Int × (Val (.pair (.int .i64) THead)) × (Val (.slice TPage)))) := fun y => qf4L1b y.1 y.2.1 y.2.2.1 y.2.2.2.1 y.2.2.2.2.1 y.2.2.2.2.2
noncomputable def qf4L1 (x0 : Int) (x1 : Int) (x2 : Int) (x3 : Int) (x4 : Val (.pair (.int .i64) THead)) (x5 : Val (.slice TPage)) : Option (Int × Int × (Val (.pair (.int .i64) THead)) × (Val (.slice TPage))) := iter qf4L1B (x0, x1, x2, x3, x4, x5)
noncomputable def qf4 (a0 : Int) : Option (Int × Int × (Val (.pair (.int .i64) THead)) × (Val (.slice TPage))) :=
(qf4L1 a0 (96 : Int) a0 (0 : Int) ((1 : Int), (0 : Int), (1 : Int), ()) []).bind fun r1 =>
some r1
abbrev qf4Z : Type := Int × Int × (Val (.pair (.int .i64) THead)) × (Val (.slice TPage))
abbrev qf4L1Y : Type := Int × Int × Int × Int × (Val (.pair (.int .i64) THead)) × (Val (.slice TPage))
abbrev qf4L1Z : Type := Int × Int × (Val (.pair (.int .i64) THead)) × (Val (.slice TPage))
noncomputable def qf4I : Shape := ⟨26, 0, [(0, .dat false (.int .i64))], [], [], true⟩
noncomputable def qf4O : Shape := ⟨27, 2, [(26, .ref 0 [])], [(0, .box TStore (.cons (.own TPage 1) (.cons (.dat false (.int .i64)) (.cons (.dat true (.int .i64)) (.cons (.nils) (.cons (.dat true (.pair (.int .i64) THead)) (.nil))))))), (1, .slc true TPage)], [], true⟩
noncomputable def qf4F : Int → Option qf4Z := fun y => qf4 y
noncomputable def qf4ct : Ctr := ctrOf qf4I qf4O id id qf4F
noncomputable def qf4E : Env := { tf := tfE, mt := mtE, fn := fun f => none }
theorem qf4_env : EnvOk PT qf4E := ⟨tyE, (fun f ct h => by
  simp only [qf4E] at h
  cases h), mapE⟩
noncomputable def qf4C : Code := bodyOf Tryz.f63
noncomputable def qf4L1C : Code := (loopsOf qf4C).getD 0 .skip
noncomputable def qf4L1S : Shape := ⟨26, 2, [(0, .dat false (.int .i64)), (3, .ref 0 []), (4, .dat true (.int .i64))], [(0, .box TStore (.cons (.own TPage 1) (.cons (.dat false (.int .i64)) (.cons (.dat true (.int .i64)) (.cons (.nils) (.cons (.dat true (.pair (.int .i64) THead)) (.nil))))))), (1, .slc true TPage)], [], true⟩
noncomputable def qf4L1O : List (Ex × Shape) := [(.exit 0, ⟨26, 2, [(3, .ref 0 [])], [(0, .box TStore (.cons (.own TPage 1) (.cons (.dat false (.int .i64)) (.cons (.dat true (.int .i64)) (.cons (.nils) (.cons (.dat true (.pair (.int .i64) THead)) (.nil))))))), (1, .slc true TPage)], [], true⟩)]
noncomputable def qf4L1M : Sum := loopSum (Y := qf4L1Y) (Z := qf4L1Z) qf4L1S qf4L1O id id (iter qf4L1B)
noncomputable def qf4H : Nat → Option Sum := fun n => bif Nat.beq n 3 then some qf4L1M else none
theorem qf4L1_bd (y : qf4L1Y) : @Eq (Option (qf4L1Y ⊕ qf4L1Z)) (exec qf4E qf4H qf4L1C (qf4L1S.mk' (show qf4L1S.D from y)) (kont (Y := qf4L1Y) (Z := qf4L1Z) qf4L1S qf4L1O id id)) (qf4L1B y) := by kernel_rfl
theorem qf4L1_ok {w0 : World} {Jo : Io} (hfix : ∀ i b, Jo.fix i = some b → i ∈ []) (hmay : true = true → Jo.may) : SumOk PT w0 Jo qf4L1M (.loop qf4L1C) :=
  @loop_ok w0 Jo PT qf4E qf4H qf4L1Y qf4L1Z qf4_env mixed qf4L1C qf4L1S qf4L1O id id id id (fun _ => rfl) (fun _ => rfl) hfix hmay (by kernel_rfl) (noLoops (by kernel_rfl)) qf4L1B qf4L1_bd
theorem qf4_bd (y : Int) : @Eq (Option qf4Z) (exec qf4E qf4H qf4C (qf4I.mk' (show qf4I.D from y)) (kontF (Z := qf4Z) qf4E Tryz.f63.results.toList qf4O id)) (qf4F y) := by kernel_rfl
theorem qf4_lo {w0 : World} {Jo : Io} (hfix : ∀ i b, Jo.fix i = some b → i ∈ []) (hmay : true = true → Jo.may) : LoopsOk PT w0 Jo qf4H qf4C := (loopsMk (by kernel_rfl) (loopsCons (c := qf4L1C) (n := 3) (f := qf4L1M) (by kernel_rfl) (by kernel_rfl) (qf4L1_ok hfix hmay) loopsNil))
theorem qf4_ctr : CtrOk PT 63 qf4ct :=
  @ctr_ok PT qf4E qf4H qf4_env mixed 63 Tryz.f63 qf4C (by kernel_rfl) (by kernel_rfl) (enters_of (by kernel_rfl : PT.funcs[63]? = some Tryz.f63) (by kernel_rfl) (by kernel_rfl)) qf4I qf4O Int qf4Z id id id id (fun _ => rfl) (fun _ => rfl) (by kernel_rfl) (by kernel_rfl) qf4F qf4_bd (fun w0 Jo hfix hmay => qf4_lo hfix hmay)
noncomputable def qf5 (a0 : Int) : Option Bool :=
bif (decide ((0 : Int) ≤ a0)) then (
some (decide (a0 < (6 : Int))))
else (
some false)
noncomputable def qf5I : Shape := ⟨9, 0, [(0, .dat false (.int .i64))], [], [], true⟩
noncomputable def qf5O : Shape := ⟨10, 0, [(9, .dat true .bool)], [], [], true⟩
noncomputable def qf5F : Int → Option Bool := fun y => qf5 y
noncomputable def qf5ct : Ctr := ctrOf qf5I qf5O id id qf5F
noncomputable def qf5E : Env := { tf := tfE, mt := mtE, fn := fun f => none }
theorem qf5_env : EnvOk PT qf5E := ⟨tyE, (fun f ct h => by
  simp only [qf5E] at h
  cases h), mapE⟩
noncomputable def qf5C : Code := bodyOf Tryz.f41
theorem qf5_bd (y : Int) : @Eq (Option Bool) (exec qf5E qf0H qf5C (qf5I.mk' (show qf5I.D from y)) (kontF (Z := Bool) qf5E Tryz.f41.results.toList qf5O id)) (qf5F y) := by kernel_rfl
theorem qf5_ctr : CtrOk PT 41 qf5ct :=
  @ctr_ok PT qf5E qf0H qf5_env mixed 41 Tryz.f41 qf5C (by kernel_rfl) (by kernel_rfl) (enters_of (by kernel_rfl : PT.funcs[41]? = some Tryz.f41) (by kernel_rfl) (by kernel_rfl)) qf5I qf5O Int Bool id id id id (fun _ => rfl) (fun _ => rfl) (by kernel_rfl) (by kernel_rfl) qf5F qf5_bd (fun _ _ _ _ => noLoops (by kernel_rfl))
noncomputable def qf6 (a0 : Int) : Option Bool :=
bif (decide ((104 : Int) ≤ a0)) then (
some (decide (a0 ≤ (256 : Int))))
else (
some false)
noncomputable def qf6I : Shape := ⟨9, 0, [(0, .dat false (.int .i64))], [], [], true⟩
noncomputable def qf6O : Shape := ⟨10, 0, [(9, .dat true .bool)], [], [], true⟩
noncomputable def qf6F : Int → Option Bool := fun y => qf6 y
noncomputable def qf6ct : Ctr := ctrOf qf6I qf6O id id qf6F
noncomputable def qf6E : Env := { tf := tfE, mt := mtE, fn := fun f => none }
theorem qf6_env : EnvOk PT qf6E := ⟨tyE, (fun f ct h => by
  simp only [qf6E] at h
  cases h), mapE⟩
noncomputable def qf6C : Code := bodyOf Tryz.f42
theorem qf6_bd (y : Int) : @Eq (Option Bool) (exec qf6E qf0H qf6C (qf6I.mk' (show qf6I.D from y)) (kontF (Z := Bool) qf6E Tryz.f42.results.toList qf6O id)) (qf6F y) := by kernel_rfl
theorem qf6_ctr : CtrOk PT 42 qf6ct :=
  @ctr_ok PT qf6E qf0H qf6_env mixed 42 Tryz.f42 qf6C (by kernel_rfl) (by kernel_rfl) (enters_of (by kernel_rfl : PT.funcs[42]? = some Tryz.f42) (by kernel_rfl) (by kernel_rfl)) qf6I qf6O Int Bool id id id id (fun _ => rfl) (fun _ => rfl) (by kernel_rfl) (by kernel_rfl) qf6F qf6_bd (fun _ _ _ _ => noLoops (by kernel_rfl))
noncomputable def qf7L1b (x0 : Val (.slice TPage)) (x1 : Int) (x2 : Int) (x3 : Val TPage) : Option (((Val (.slice TPage)) × Int × Int × (Val TPage)) ⊕ (((Val TPage)) ⊕ (Bool × (Val TPage)))) :=
bif (decide ((0 : Int) ≤ x2)) then (
bif (inR x2 (List.length x0)) then
bif (decide ((List.getD x0 (Int.toNat x2) ((0 : Int), (0 : Int), (List.replicate 7 (0 : Int)), ())).1 = x1)) then (
bif (inR x2 (List.length x0)) then
some (Sum.inr (Sum.inr (true, (List.getD x0 (Int.toNat x2) ((0 : Int), (0 : Int), (List.replicate 7 (0 : Int)), ())))))
else none)
else (
some (Sum.inl (x0, x1, (IntKind.wrap .i64 (x2 - (1 : Int))), x3)))
else none)
else (
some (Sum.inr (Sum.inl x3)))
noncomputable def qf7L1B : ((Val (.slice TPage)) × Int × Int × (Val TPage)) → Option (((Val (.slice TPage)) × Int × Int × (Val TPage)) ⊕ (((Val TPage)) ⊕ (Bool × (Val TPage)))) := fun y => qf7L1b y.1 y.2.1 y.2.2.1 y.2.2.2
noncomputable def qf7L1 (x0 : Val (.slice TPage)) (x1 : Int) (x2 : Int) (x3 : Val TPage) : Option (((Val TPage)) ⊕ (Bool × (Val TPage))) := iter qf7L1B (x0, x1, x2, x3)
noncomputable def qf7 (a0 : Val (.slice TPage)) (a1 : Int) : Option ((Val TPage) × Bool) :=
(qf7L1 a0 a1 (IntKind.wrap .i64 ((((List.length a0) : Nat) : Int) - (1 : Int))) ((0 : Int), (0 : Int), (List.replicate 7 (0 : Int)), ())).bind fun r1 =>
match r1 with
| .inl r2 => (
some (((0 : Int), (0 : Int), (List.replicate 7 (0 : Int)), ()), false))
| .inr r3 => (
some (r3.2, r3.1))
abbrev qf7L1Y : Type := (Val (.slice TPage)) × Int × Int × (Val TPage)
noncomputable def qf7I : Shape := ⟨26, 0, [(0, .dat false (.slice TPage)), (1, .dat false (.int .i64))], [], [], true⟩
noncomputable def qf7O : Shape := ⟨27, 0, [(26, .tup (.cons (.dat false TPage) (.cons (.dat true .bool) (.nil))))], [], [], true⟩
noncomputable def qf7F : ((Val (.slice TPage)) × Int) → Option ((Val TPage) × Bool) := fun y => qf7 y.1 y.2
noncomputable def qf7ct : Ctr := ctrOf qf7I qf7O id id qf7F
noncomputable def qf7E : Env := { tf := tfE, mt := mtE, fn := fun f => none }
theorem qf7_env : EnvOk PT qf7E := ⟨tyE, (fun f ct h => by
  simp only [qf7E] at h
  cases h), mapE⟩
noncomputable def qf7C : Code := bodyOf Tryz.f70
noncomputable def qf7L1C : Code := (loopsOf qf7C).getD 0 .skip
noncomputable def qf7L1S : Shape := ⟨26, 1, [(0, .dat false (.slice TPage)), (1, .dat false (.int .i64)), (4, .ref 0 []), (6, .dat true (.int .i64))], [(0, .box TPage (.dat true TPage))], [], true⟩
noncomputable def qf7L1O : List (Ex × Shape) := [(.exit 0, ⟨26, 1, [(4, .ref 0 [])], [(0, .box TPage (.dat true TPage))], [], true⟩), (.ret, ⟨26, 1, [(4, .ref 0 []), (5, .dat true .bool)], [(0, .box TPage (.dat false TPage))], [], true⟩)]
noncomputable def qf7L1M : Sum := loopSum (Y := qf7L1Y) (Z := ((Val TPage)) ⊕ (Bool × (Val TPage))) qf7L1S qf7L1O id id (iter qf7L1B)
noncomputable def qf7H : Nat → Option Sum := fun n => bif Nat.beq n 2 then some qf7L1M else none
theorem qf7L1_bd (y : qf7L1Y) : @Eq (Option (qf7L1Y ⊕ (((Val TPage)) ⊕ (Bool × (Val TPage))))) (exec qf7E qf7H qf7L1C (qf7L1S.mk' (show qf7L1S.D from y)) (kont (Y := qf7L1Y) (Z := ((Val TPage)) ⊕ (Bool × (Val TPage))) qf7L1S qf7L1O id id)) (qf7L1B y) := by kernel_rfl
theorem qf7L1_ok {w0 : World} {Jo : Io} (hfix : ∀ i b, Jo.fix i = some b → i ∈ []) (hmay : true = true → Jo.may) : SumOk PT w0 Jo qf7L1M (.loop qf7L1C) :=
  @loop_ok w0 Jo PT qf7E qf7H qf7L1Y (((Val TPage)) ⊕ (Bool × (Val TPage))) qf7_env mixed qf7L1C qf7L1S qf7L1O id id id id (fun _ => rfl) (fun _ => rfl) hfix hmay (by kernel_rfl) (noLoops (by kernel_rfl)) qf7L1B qf7L1_bd
theorem qf7_bd (y : (Val (.slice TPage)) × Int) : @Eq (Option ((Val TPage) × Bool)) (exec qf7E qf7H qf7C (qf7I.mk' (show qf7I.D from y)) (kontF (Z := (Val TPage) × Bool) qf7E Tryz.f70.results.toList qf7O id)) (qf7F y) := by kernel_rfl
theorem qf7_lo {w0 : World} {Jo : Io} (hfix : ∀ i b, Jo.fix i = some b → i ∈ []) (hmay : true = true → Jo.may) : LoopsOk PT w0 Jo qf7H qf7C := (loopsMk (by kernel_rfl) (loopsCons (c := qf7L1C) (n := 2) (f := qf7L1M) (by kernel_rfl) (by kernel_rfl) (qf7L1_ok hfix hmay) loopsNil))
theorem qf7_ctr : CtrOk PT 70 qf7ct :=
  @ctr_ok PT qf7E qf7H qf7_env mixed 70 Tryz.f70 qf7C (by kernel_rfl) (by kernel_rfl) (enters_of (by kernel_rfl : PT.funcs[70]? = some Tryz.f70) (by kernel_rfl) (by kernel_rfl)) qf7I qf7O ((Val (.slice TPage)) × Int) ((Val TPage) × Bool) id id id id (fun _ => rfl) (fun _ => rfl) (by kernel_rfl) (by kernel_rfl) qf7F qf7_bd (fun w0 Jo hfix hmay => qf7_lo hfix hmay)
noncomputable def qf8 (a0 : Int) : Option Int :=
bif (decide ((4294967296 : Int) ≤ a0)) then (
bif (decide ((65536 : Int) ≤ (shiftR .u64 a0 (32 : Int)))) then (
bif (decide ((256 : Int) ≤ (shiftR .u64 (shiftR .u64 a0 (32 : Int)) (16 : Int)))) then (
bif (inR (IntKind.wrap .u8 (shiftR .u64 (shiftR .u64 (shiftR .u64 a0 (32 : Int)) (16 : Int)) (8 : Int))) (ByteArray.size str1)) then
some (IntKind.wrap .i64 ((56 : Int) + (IntKind.wrap .i64 ((UInt8.toNat (Array.getD (ByteArray.data str1) (Int.toNat (IntKind.wrap .u8 (shiftR .u64 (shiftR .u64 (shiftR .u64 a0 (32 : Int)) (16 : Int)) (8 : Int)))) 0) : Nat) : Int))))
else none)
else (
bif (inR (IntKind.wrap .u8 (shiftR .u64 (shiftR .u64 a0 (32 : Int)) (16 : Int))) (ByteArray.size str1)) then
some (IntKind.wrap .i64 ((48 : Int) + (IntKind.wrap .i64 ((UInt8.toNat (Array.getD (ByteArray.data str1) (Int.toNat (IntKind.wrap .u8 (shiftR .u64 (shiftR .u64 a0 (32 : Int)) (16 : Int)))) 0) : Nat) : Int))))
else none))
else (
bif (decide ((256 : Int) ≤ (shiftR .u64 a0 (32 : Int)))) then (
bif (inR (IntKind.wrap .u8 (shiftR .u64 (shiftR .u64 a0 (32 : Int)) (8 : Int))) (ByteArray.size str1)) then
some (IntKind.wrap .i64 ((40 : Int) + (IntKind.wrap .i64 ((UInt8.toNat (Array.getD (ByteArray.data str1) (Int.toNat (IntKind.wrap .u8 (shiftR .u64 (shiftR .u64 a0 (32 : Int)) (8 : Int)))) 0) : Nat) : Int))))
else none)
else (
bif (inR (IntKind.wrap .u8 (shiftR .u64 a0 (32 : Int))) (ByteArray.size str1)) then
some (IntKind.wrap .i64 ((32 : Int) + (IntKind.wrap .i64 ((UInt8.toNat (Array.getD (ByteArray.data str1) (Int.toNat (IntKind.wrap .u8 (shiftR .u64 a0 (32 : Int)))) 0) : Nat) : Int))))
else none)))
else (
bif (decide ((65536 : Int) ≤ a0)) then (
bif (decide ((256 : Int) ≤ (shiftR .u64 a0 (16 : Int)))) then (
bif (inR (IntKind.wrap .u8 (shiftR .u64 (shiftR .u64 a0 (16 : Int)) (8 : Int))) (ByteArray.size str1)) then
some (IntKind.wrap .i64 ((24 : Int) + (IntKind.wrap .i64 ((UInt8.toNat (Array.getD (ByteArray.data str1) (Int.toNat (IntKind.wrap .u8 (shiftR .u64 (shiftR .u64 a0 (16 : Int)) (8 : Int)))) 0) : Nat) : Int))))
else none)
else (
bif (inR (IntKind.wrap .u8 (shiftR .u64 a0 (16 : Int))) (ByteArray.size str1)) then
some (IntKind.wrap .i64 ((16 : Int) + (IntKind.wrap .i64 ((UInt8.toNat (Array.getD (ByteArray.data str1) (Int.toNat (IntKind.wrap .u8 (shiftR .u64 a0 (16 : Int)))) 0) : Nat) : Int))))
else none))
else (
bif (decide ((256 : Int) ≤ a0)) then (
bif (inR (IntKind.wrap .u8 (shiftR .u64 a0 (8 : Int))) (ByteArray.size str1)) then
some (IntKind.wrap .i64 ((8 : Int) + (IntKind.wrap .i64 ((UInt8.toNat (Array.getD (ByteArray.data str1) (Int.toNat (IntKind.wrap .u8 (shiftR .u64 a0 (8 : Int)))) 0) : Nat) : Int))))
else none)
else (
bif (inR (IntKind.wrap .u8 a0) (ByteArray.size str1)) then
some (IntKind.wrap .i64 ((0 : Int) + (IntKind.wrap .i64 ((UInt8.toNat (Array.getD (ByteArray.data str1) (Int.toNat (IntKind.wrap .u8 a0)) 0) : Nat) : Int))))
else none)))
noncomputable def qf8I : Shape := ⟨25, 0, [(0, .dat false (.int .u64))], [], [], true⟩
noncomputable def qf8O : Shape := ⟨26, 0, [(25, .dat true (.int .i64))], [], [], true⟩
noncomputable def qf8F : Int → Option Int := fun y => qf8 y
noncomputable def qf8ct : Ctr := ctrOf qf8I qf8O id id qf8F
noncomputable def qf8E : Env := { tf := tfE, mt := mtE, fn := fun f => none }
theorem qf8_env : EnvOk PT qf8E := ⟨tyE, (fun f ct h => by
  simp only [qf8E] at h
  cases h), mapE⟩
noncomputable def qf8C : Code := bodyOf Tryz.f163
theorem qf8_bd (y : Int) : @Eq (Option Int) (exec qf8E qf0H qf8C (qf8I.mk' (show qf8I.D from y)) (kontF (Z := Int) qf8E Tryz.f163.results.toList qf8O id)) (qf8F y) := by kernel_rfl
theorem qf8_ctr : CtrOk PT 163 qf8ct :=
  @ctr_ok PT qf8E qf0H qf8_env mixed 163 Tryz.f163 qf8C (by kernel_rfl) (by kernel_rfl) (enters_of (by kernel_rfl : PT.funcs[163]? = some Tryz.f163) (by kernel_rfl) (by kernel_rfl)) qf8I qf8O Int Int id id id id (fun _ => rfl) (fun _ => rfl) (by kernel_rfl) (by kernel_rfl) qf8F qf8_bd (fun _ _ _ _ => noLoops (by kernel_rfl))
noncomputable def qf9 (a0 : Int) : Option Int :=
(qf8 a0).bind fun r1 =>
some r1
noncomputable def qf9I : Shape := ⟨8, 0, [(0, .dat false (.int .u64))], [], [], true⟩
noncomputable def qf9O : Shape := ⟨9, 0, [(8, .dat true (.int .i64))], [], [], true⟩
noncomputable def qf9F : Int → Option Int := fun y => qf9 y
noncomputable def qf9ct : Ctr := ctrOf qf9I qf9O id id qf9F
noncomputable def qf9E : Env := { tf := tfE, mt := mtE, fn := fun f => bif Nat.beq f 163 then some qf8ct else none }
theorem qf9_env : EnvOk PT qf9E := ⟨tyE, (fun f ct h => by
  simp only [qf9E] at h
  refine envCons (c := qf8ct) h qf8_ctr (fun h => ?_)
  cases h), mapE⟩
noncomputable def qf9C : Code := bodyOf Tryz.f139
theorem qf9_bd (y : Int) : @Eq (Option Int) (exec qf9E qf0H qf9C (qf9I.mk' (show qf9I.D from y)) (kontF (Z := Int) qf9E Tryz.f139.results.toList qf9O id)) (qf9F y) := by kernel_rfl
theorem qf9_ctr : CtrOk PT 139 qf9ct :=
  @ctr_ok PT qf9E qf0H qf9_env mixed 139 Tryz.f139 qf9C (by kernel_rfl) (by kernel_rfl) (enters_of (by kernel_rfl : PT.funcs[139]? = some Tryz.f139) (by kernel_rfl) (by kernel_rfl)) qf9I qf9O Int Int id id id id (fun _ => rfl) (fun _ => rfl) (by kernel_rfl) (by kernel_rfl) qf9F qf9_bd (fun _ _ _ _ => noLoops (by kernel_rfl))
noncomputable def qf10 (a0 : Int) : Option Bool :=
some (!(decide (a0 = a0)))
noncomputable def qf10I : Shape := ⟨6, 0, [(0, .dat false (.int .i64))], [], [], true⟩
noncomputable def qf10O : Shape := ⟨7, 0, [(6, .dat true .bool)], [], [], true⟩
noncomputable def qf10F : Int → Option Bool := fun y => qf10 y
noncomputable def qf10ct : Ctr := ctrOf qf10I qf10O id id qf10F
noncomputable def qf10E : Env := { tf := tfE, mt := mtE, fn := fun f => none }
theorem qf10_env : EnvOk PT qf10E := ⟨tyE, (fun f ct h => by
  simp only [qf10E] at h
  cases h), mapE⟩
noncomputable def qf10C : Code := bodyOf Tryz.f140
theorem qf10_bd (y : Int) : @Eq (Option Bool) (exec qf10E qf0H qf10C (qf10I.mk' (show qf10I.D from y)) (kontF (Z := Bool) qf10E Tryz.f140.results.toList qf10O id)) (qf10F y) := by kernel_rfl
theorem qf10_ctr : CtrOk PT 140 qf10ct :=
  @ctr_ok PT qf10E qf0H qf10_env mixed 140 Tryz.f140 qf10C (by kernel_rfl) (by kernel_rfl) (enters_of (by kernel_rfl : PT.funcs[140]? = some Tryz.f140) (by kernel_rfl) (by kernel_rfl)) qf10I qf10O Int Bool id id id id (fun _ => rfl) (fun _ => rfl) (by kernel_rfl) (by kernel_rfl) qf10F qf10_bd (fun _ _ _ _ => noLoops (by kernel_rfl))
noncomputable def qf11 (a0 : Int) (a1 : Int) : Option Bool :=
(qf10 a0).bind fun r1 =>
bif r1 then (
(qf10 a1).bind fun r2 =>
bif (!r2) then (
some true)
else (
some (decide (a0 < a1))))
else (
some (decide (a0 < a1)))
noncomputable def qf11I : Shape := ⟨17, 0, [(0, .dat false (.int .i64)), (1, .dat false (.int .i64))], [], [], true⟩
noncomputable def qf11O : Shape := ⟨18, 0, [(17, .dat true .bool)], [], [], true⟩
noncomputable def qf11F : (Int × Int) → Option Bool := fun y => qf11 y.1 y.2
noncomputable def qf11ct : Ctr := ctrOf qf11I qf11O id id qf11F
noncomputable def qf11E : Env := { tf := tfE, mt := mtE, fn := fun f => bif Nat.beq f 140 then some qf10ct else none }
theorem qf11_env : EnvOk PT qf11E := ⟨tyE, (fun f ct h => by
  simp only [qf11E] at h
  refine envCons (c := qf10ct) h qf10_ctr (fun h => ?_)
  cases h), mapE⟩
noncomputable def qf11C : Code := bodyOf Tryz.f170
theorem qf11_bd (y : Int × Int) : @Eq (Option Bool) (exec qf11E qf0H qf11C (qf11I.mk' (show qf11I.D from y)) (kontF (Z := Bool) qf11E Tryz.f170.results.toList qf11O id)) (qf11F y) := by kernel_rfl
theorem qf11_ctr : CtrOk PT 170 qf11ct :=
  @ctr_ok PT qf11E qf0H qf11_env mixed 170 Tryz.f170 qf11C (by kernel_rfl) (by kernel_rfl) (enters_of (by kernel_rfl : PT.funcs[170]? = some Tryz.f170) (by kernel_rfl) (by kernel_rfl)) qf11I qf11O (Int × Int) Bool id id id id (fun _ => rfl) (fun _ => rfl) (by kernel_rfl) (by kernel_rfl) qf11F qf11_bd (fun _ _ _ _ => noLoops (by kernel_rfl))
noncomputable def qf12L1b (x0 : Int) (x1 : Int) (x2 : Int) (x3 : Int) (x4 : Val (.slice (.int .i64))) : Option ((Int × Int × Int × Int × (Val (.slice (.int .i64)))) ⊕ (Int × Int × Int × (Val (.slice (.int .i64))))) :=
bif (decide (x0 < x3)) then (
bif (inR x3 (List.length x4)) then
bif (inR (IntKind.wrap .i64 (x3 - (1 : Int))) (List.length x4)) then
(qf11 (List.getD x4 (Int.toNat x3) (0 : Int)) (List.getD x4 (Int.toNat (IntKind.wrap .i64 (x3 - (1 : Int)))) (0 : Int))).bind fun r1 =>
bif r1 then (
bif (inR (IntKind.wrap .i64 (x3 - (1 : Int))) (List.length x4)) then
bif (inR x3 (List.length x4)) then
bif (inR x3 (List.length x4)) then
bif (inR (IntKind.wrap .i64 (x3 - (1 : Int))) (List.length (List.set x4 (Int.toNat x3) (List.getD x4 (Int.toNat (IntKind.wrap .i64 (x3 - (1 : Int)))) (0 : Int))))) then
some (Sum.inl (x0, x1, x2, (IntKind.wrap .i64 (x3 - (1 : Int))), (List.set (List.set x4 (Int.toNat x3) (List.getD x4 (Int.toNat (IntKind.wrap .i64 (x3 - (1 : Int)))) (0 : Int))) (Int.toNat (IntKind.wrap .i64 (x3 - (1 : Int)))) (List.getD x4 (Int.toNat x3) (0 : Int)))))
else none
else none
else none
else none)
else (
some (Sum.inr (x0, x1, x2, x4)))
else none
else none)
else (
some (Sum.inr (x0, x1, x2, x4)))
noncomputable def qf12L1B : (Int × Int × Int × Int × (Val (.slice (.int .i64)))) → Option ((Int × Int × Int × Int × (Val (.slice (.int .i64)))) ⊕ (Int × Int × Int × (Val (.slice (.int .i64))))) := fun y => qf12L1b y.1 y.2.1 y.2.2.1 y.2.2.2.1 y.2.2.2.2
noncomputable def qf12L1 (x0 : Int) (x1 : Int) (x2 : Int) (x3 : Int) (x4 : Val (.slice (.int .i64))) : Option (Int × Int × Int × (Val (.slice (.int .i64)))) := iter qf12L1B (x0, x1, x2, x3, x4)
noncomputable def qf12L2b (x0 : Int) (x1 : Int) (x2 : Int) (x3 : Val (.slice (.int .i64))) : Option ((Int × Int × Int × (Val (.slice (.int .i64)))) ⊕ ((Val (.slice (.int .i64))))) :=
bif (decide (x2 < x1)) then (
(qf12L1 x0 x1 x2 x2 x3).bind fun r1 =>
some (Sum.inl (r1.1, r1.2.1, (IntKind.wrap .i64 (r1.2.2.1 + (1 : Int))), r1.2.2.2)))
else (
some (Sum.inr x3))
noncomputable def qf12L2B : (Int × Int × Int × (Val (.slice (.int .i64)))) → Option ((Int × Int × Int × (Val (.slice (.int .i64)))) ⊕ ((Val (.slice (.int .i64))))) := fun y => qf12L2b y.1 y.2.1 y.2.2.1 y.2.2.2
noncomputable def qf12L2 (x0 : Int) (x1 : Int) (x2 : Int) (x3 : Val (.slice (.int .i64))) : Option ((Val (.slice (.int .i64)))) := iter qf12L2B (x0, x1, x2, x3)
noncomputable def qf12 (a0 : Int) (a1 : Int) (a2 : Val (.slice (.int .i64))) : Option ((Val (.slice (.int .i64)))) :=
(qf12L2 a0 a1 (IntKind.wrap .i64 (a0 + (1 : Int))) a2).bind fun r1 =>
some r1
abbrev qf12L1Y : Type := Int × Int × Int × Int × (Val (.slice (.int .i64)))
abbrev qf12L1Z : Type := Int × Int × Int × (Val (.slice (.int .i64)))
abbrev qf12L2Y : Type := Int × Int × Int × (Val (.slice (.int .i64)))
noncomputable def qf12I : Shape := ⟨49, 1, [(0, .own (.int .i64) 0), (1, .dat false (.int .i64)), (2, .dat false (.int .i64))], [(0, .slc false (.int .i64))], [0], false⟩
noncomputable def qf12O : Shape := ⟨50, 1, [(49, .tup (.nil))], [(0, .slc false (.int .i64))], [0], false⟩
noncomputable def qf12F : (Int × Int × (Val (.slice (.int .i64)))) → Option ((Val (.slice (.int .i64)))) := fun y => qf12 y.1 y.2.1 y.2.2
noncomputable def qf12ct : Ctr := ctrOf qf12I qf12O id id qf12F
noncomputable def qf12E : Env := { tf := tfE, mt := mtE, fn := fun f => bif Nat.beq f 170 then some qf11ct else none }
theorem qf12_env : EnvOk PT qf12E := ⟨tyE, (fun f ct h => by
  simp only [qf12E] at h
  refine envCons (c := qf11ct) h qf11_ctr (fun h => ?_)
  cases h), mapE⟩
noncomputable def qf12C : Code := bodyOf Tryz.f164
noncomputable def qf12L2C : Code := (loopsOf qf12C).getD 0 .skip
noncomputable def qf12L1C : Code := (loopsOf qf12C).getD 1 .skip
noncomputable def qf12L1S : Shape := ⟨49, 1, [(0, .own (.int .i64) 0), (1, .dat false (.int .i64)), (2, .dat false (.int .i64)), (6, .dat true (.int .i64)), (7, .dat true (.int .i64))], [(0, .slc false (.int .i64))], [0], false⟩
noncomputable def qf12L1O : List (Ex × Shape) := [(.exit 2, ⟨49, 1, [(0, .own (.int .i64) 0), (1, .dat false (.int .i64)), (2, .dat false (.int .i64)), (6, .dat true (.int .i64))], [(0, .slc false (.int .i64))], [0], false⟩)]
noncomputable def qf12L1M : Sum := loopSum (Y := qf12L1Y) (Z := qf12L1Z) qf12L1S qf12L1O id id (iter qf12L1B)
noncomputable def qf12L2S : Shape := ⟨49, 1, [(0, .own (.int .i64) 0), (1, .dat false (.int .i64)), (2, .dat false (.int .i64)), (6, .dat true (.int .i64))], [(0, .slc false (.int .i64))], [0], false⟩
noncomputable def qf12L2O : List (Ex × Shape) := [(.exit 0, ⟨49, 1, [], [(0, .slc false (.int .i64))], [0], false⟩)]
noncomputable def qf12L2M : Sum := loopSum (Y := qf12L2Y) (Z := (Val (.slice (.int .i64)))) qf12L2S qf12L2O id id (iter qf12L2B)
noncomputable def qf12H : Nat → Option Sum := fun n => bif Nat.beq n 4 then some qf12L1M else bif Nat.beq n 1 then some qf12L2M else none
theorem qf12L1_bd (y : qf12L1Y) : @Eq (Option (qf12L1Y ⊕ qf12L1Z)) (exec qf12E qf12H qf12L1C (qf12L1S.mk' (show qf12L1S.D from y)) (kont (Y := qf12L1Y) (Z := qf12L1Z) qf12L1S qf12L1O id id)) (qf12L1B y) := by kernel_rfl
theorem qf12L1_ok {w0 : World} {Jo : Io} (hfix : ∀ i b, Jo.fix i = some b → i ∈ [0]) (hmay : false = true → Jo.may) : SumOk PT w0 Jo qf12L1M (.loop qf12L1C) :=
  @loop_ok w0 Jo PT qf12E qf12H qf12L1Y qf12L1Z qf12_env mixed qf12L1C qf12L1S qf12L1O id id id id (fun _ => rfl) (fun _ => rfl) hfix hmay (by kernel_rfl) (noLoops (by kernel_rfl)) qf12L1B qf12L1_bd
theorem qf12L2_bd (y : qf12L2Y) : @Eq (Option (qf12L2Y ⊕ ((Val (.slice (.int .i64)))))) (exec qf12E qf12H qf12L2C (qf12L2S.mk' (show qf12L2S.D from y)) (kont (Y := qf12L2Y) (Z := (Val (.slice (.int .i64)))) qf12L2S qf12L2O id id)) (qf12L2B y) := by kernel_rfl
theorem qf12L2_ok {w0 : World} {Jo : Io} (hfix : ∀ i b, Jo.fix i = some b → i ∈ [0]) (hmay : false = true → Jo.may) : SumOk PT w0 Jo qf12L2M (.loop qf12L2C) :=
  @loop_ok w0 Jo PT qf12E qf12H qf12L2Y ((Val (.slice (.int .i64)))) qf12_env mixed qf12L2C qf12L2S qf12L2O id id id id (fun _ => rfl) (fun _ => rfl) hfix hmay (by kernel_rfl) (loopsMk (by kernel_rfl) (loopsCons (c := qf12L1C) (n := 4) (f := qf12L1M) (by kernel_rfl) (by kernel_rfl) (qf12L1_ok hfix hmay) loopsNil)) qf12L2B qf12L2_bd
theorem qf12_bd (y : Int × Int × (Val (.slice (.int .i64)))) : @Eq (Option ((Val (.slice (.int .i64))))) (exec qf12E qf12H qf12C (qf12I.mk' (show qf12I.D from y)) (kontF (Z := (Val (.slice (.int .i64)))) qf12E Tryz.f164.results.toList qf12O id)) (qf12F y) := by kernel_rfl
theorem qf12_lo {w0 : World} {Jo : Io} (hfix : ∀ i b, Jo.fix i = some b → i ∈ [0]) (hmay : false = true → Jo.may) : LoopsOk PT w0 Jo qf12H qf12C := (loopsMk (by kernel_rfl) (loopsCons (c := qf12L2C) (n := 1) (f := qf12L2M) (by kernel_rfl) (by kernel_rfl) (qf12L2_ok hfix hmay) (loopsCons (c := qf12L1C) (n := 4) (f := qf12L1M) (by kernel_rfl) (by kernel_rfl) (qf12L1_ok hfix hmay) loopsNil)))
theorem qf12_ctr : CtrOk PT 164 qf12ct :=
  @ctr_ok PT qf12E qf12H qf12_env mixed 164 Tryz.f164 qf12C (by kernel_rfl) (by kernel_rfl) (enters_of (by kernel_rfl : PT.funcs[164]? = some Tryz.f164) (by kernel_rfl) (by kernel_rfl)) qf12I qf12O (Int × Int × (Val (.slice (.int .i64)))) ((Val (.slice (.int .i64)))) id id id id (fun _ => rfl) (fun _ => rfl) (by kernel_rfl) (by kernel_rfl) qf12F qf12_bd (fun w0 Jo hfix hmay => qf12_lo hfix hmay)
noncomputable def qf13L1b (x0 : Int) (x1 : Int) (x2 : Int) (x3 : Bool) (x4 : Bool) (x5 : Val (.slice (.int .i64))) : Option ((Int × Int × Int × Bool × Bool × (Val (.slice (.int .i64)))) ⊕ ((Val (.slice (.int .i64))))) :=
bif (decide ((IntKind.wrap .i64 (x1 - x0)) ≤ (12 : Int))) then (
(qf12 x0 x1 x5).bind fun r1 =>
some (Sum.inr r1))
else (
bif (decide (x2 = (0 : Int))) then (
none)
else (
bif (!x3) then (
none)
else (
none)))
noncomputable def qf13L1B : (Int × Int × Int × Bool × Bool × (Val (.slice (.int .i64)))) → Option ((Int × Int × Int × Bool × Bool × (Val (.slice (.int .i64)))) ⊕ ((Val (.slice (.int .i64))))) := fun y => qf13L1b y.1 y.2.1 y.2.2.1 y.2.2.2.1 y.2.2.2.2.1 y.2.2.2.2.2
noncomputable def qf13L1 (x0 : Int) (x1 : Int) (x2 : Int) (x3 : Bool) (x4 : Bool) (x5 : Val (.slice (.int .i64))) : Option ((Val (.slice (.int .i64)))) := iter qf13L1B (x0, x1, x2, x3, x4, x5)
noncomputable def qf13 (a0 : Int) (a1 : Int) (a2 : Int) (a3 : Val (.slice (.int .i64))) : Option ((Val (.slice (.int .i64)))) :=
(qf13L1 a0 a1 a2 true true a3).bind fun r1 =>
some r1
abbrev qf13Y : Type := Int × Int × Int × (Val (.slice (.int .i64)))
abbrev qf13L1Y : Type := Int × Int × Int × Bool × Bool × (Val (.slice (.int .i64)))
noncomputable def qf13I : Shape := ⟨134, 1, [(0, .own (.int .i64) 0), (1, .dat false (.int .i64)), (2, .dat false (.int .i64)), (3, .dat false (.int .i64))], [(0, .slc false (.int .i64))], [0], false⟩
noncomputable def qf13O : Shape := ⟨135, 1, [(134, .tup (.nil))], [(0, .slc false (.int .i64))], [0], false⟩
noncomputable def qf13F : qf13Y → Option ((Val (.slice (.int .i64)))) := fun y => qf13 y.1 y.2.1 y.2.2.1 y.2.2.2
noncomputable def qf13ct : Ctr := ctrOf qf13I qf13O id id qf13F
noncomputable def qf13E : Env := { tf := tfE, mt := mtE, fn := fun f => bif Nat.beq f 164 then some qf12ct else none }
theorem qf13_env : EnvOk PT qf13E := ⟨tyE, (fun f ct h => by
  simp only [qf13E] at h
  refine envCons (c := qf12ct) h qf12_ctr (fun h => ?_)
  cases h), mapE⟩
noncomputable def qf13C : Code := bodyOf Tryz.f144
noncomputable def qf13L1C : Code := (loopsOf qf13C).getD 0 .skip
noncomputable def qf13L1S : Shape := ⟨134, 1, [(0, .own (.int .i64) 0), (1, .dat false (.int .i64)), (2, .dat false (.int .i64)), (3, .dat false (.int .i64)), (8, .dat true .bool), (9, .dat true .bool)], [(0, .slc false (.int .i64))], [0], false⟩
noncomputable def qf13L1O : List (Ex × Shape) := [(.ret, ⟨134, 1, [], [(0, .slc false (.int .i64))], [0], false⟩)]
noncomputable def qf13L1M : Sum := loopSum (Y := qf13L1Y) (Z := (Val (.slice (.int .i64)))) qf13L1S qf13L1O id id (iter qf13L1B)
noncomputable def qf13H : Nat → Option Sum := fun n => bif Nat.beq n 2 then some qf13L1M else none
theorem qf13L1_bd (y : qf13L1Y) : @Eq (Option (qf13L1Y ⊕ ((Val (.slice (.int .i64)))))) (exec qf13E qf13H qf13L1C (qf13L1S.mk' (show qf13L1S.D from y)) (kont (Y := qf13L1Y) (Z := (Val (.slice (.int .i64)))) qf13L1S qf13L1O id id)) (qf13L1B y) := by kernel_rfl
theorem qf13L1_ok {w0 : World} {Jo : Io} (hfix : ∀ i b, Jo.fix i = some b → i ∈ [0]) (hmay : false = true → Jo.may) : SumOk PT w0 Jo qf13L1M (.loop qf13L1C) :=
  @loop_ok w0 Jo PT qf13E qf13H qf13L1Y ((Val (.slice (.int .i64)))) qf13_env mixed qf13L1C qf13L1S qf13L1O id id id id (fun _ => rfl) (fun _ => rfl) hfix hmay (by kernel_rfl) (noLoops (by kernel_rfl)) qf13L1B qf13L1_bd
theorem qf13_bd (y : qf13Y) : @Eq (Option ((Val (.slice (.int .i64))))) (exec qf13E qf13H qf13C (qf13I.mk' (show qf13I.D from y)) (kontF (Z := (Val (.slice (.int .i64)))) qf13E Tryz.f144.results.toList qf13O id)) (qf13F y) := by kernel_rfl
theorem qf13_lo {w0 : World} {Jo : Io} (hfix : ∀ i b, Jo.fix i = some b → i ∈ [0]) (hmay : false = true → Jo.may) : LoopsOk PT w0 Jo qf13H qf13C := (loopsMk (by kernel_rfl) (loopsCons (c := qf13L1C) (n := 2) (f := qf13L1M) (by kernel_rfl) (by kernel_rfl) (qf13L1_ok hfix hmay) loopsNil))
theorem qf13_ctr : CtrOk PT 144 qf13ct :=
  @ctr_ok PT qf13E qf13H qf13_env mixed 144 Tryz.f144 qf13C (by kernel_rfl) (by kernel_rfl) (enters_of (by kernel_rfl : PT.funcs[144]? = some Tryz.f144) (by kernel_rfl) (by kernel_rfl)) qf13I qf13O qf13Y ((Val (.slice (.int .i64)))) id id id id (fun _ => rfl) (fun _ => rfl) (by kernel_rfl) (by kernel_rfl) qf13F qf13_bd (fun w0 Jo hfix hmay => qf13_lo hfix hmay)
noncomputable def qf14 (a0 : Val (.slice (.int .i64))) : Option ((Val (.slice (.int .i64)))) :=
(qf9 (IntKind.wrap .u64 (((List.length a0) : Nat) : Int))).bind fun r1 =>
(qf13 (0 : Int) (((List.length a0) : Nat) : Int) r1 a0).bind fun r2 =>
some r2
noncomputable def qf14I : Shape := ⟨11, 1, [(0, .own (.int .i64) 0)], [(0, .slc false (.int .i64))], [0], false⟩
noncomputable def qf14O : Shape := ⟨12, 1, [(11, .tup (.nil))], [(0, .slc false (.int .i64))], [0], false⟩
noncomputable def qf14F : ((Val (.slice (.int .i64)))) → Option ((Val (.slice (.int .i64)))) := fun y => qf14 y
noncomputable def qf14ct : Ctr := ctrOf qf14I qf14O id id qf14F
noncomputable def qf14E : Env := { tf := tfE, mt := mtE, fn := fun f => bif Nat.beq f 139 then some qf9ct else bif Nat.beq f 144 then some qf13ct else none }
theorem qf14_env : EnvOk PT qf14E := ⟨tyE, (fun f ct h => by
  simp only [qf14E] at h
  refine envCons (c := qf9ct) h qf9_ctr (fun h => ?_)
  refine envCons (c := qf13ct) h qf13_ctr (fun h => ?_)
  cases h), mapE⟩
noncomputable def qf14C : Code := bodyOf Tryz.f104
theorem qf14_bd (y : (Val (.slice (.int .i64)))) : @Eq (Option ((Val (.slice (.int .i64))))) (exec qf14E qf0H qf14C (qf14I.mk' (show qf14I.D from y)) (kontF (Z := (Val (.slice (.int .i64)))) qf14E Tryz.f104.results.toList qf14O id)) (qf14F y) := by kernel_rfl
theorem qf14_ctr : CtrOk PT 104 qf14ct :=
  @ctr_ok PT qf14E qf0H qf14_env mixed 104 Tryz.f104 qf14C (by kernel_rfl) (by kernel_rfl) (enters_of (by kernel_rfl : PT.funcs[104]? = some Tryz.f104) (by kernel_rfl) (by kernel_rfl)) qf14I qf14O ((Val (.slice (.int .i64)))) ((Val (.slice (.int .i64)))) id id id id (fun _ => rfl) (fun _ => rfl) (by kernel_rfl) (by kernel_rfl) qf14F qf14_bd (fun _ _ _ _ => noLoops (by kernel_rfl))
noncomputable def qf15L1b (x0 : Int) (x1 : Nat) (x2 : Nat) (x3 : Int) (x4 : Val (.slice (.int .i64))) : Option ((Int × Nat × Nat × Int × (Val (.slice (.int .i64)))) ⊕ (Int × (Val (.slice (.int .i64))))) :=
bif (decide (x3 < (((x2 : Nat) : Int) - ((x1 : Nat) : Int)))) then (
bif (inR x3 (x2 - x1)) then
bif (inR (IntKind.wrap .i64 (x3 - (1 : Int))) (x2 - x1)) then
bif (!(decide ((List.getD x4 (x1 + (Int.toNat x3)) (0 : Int)) = (List.getD x4 (x1 + (Int.toNat (IntKind.wrap .i64 (x3 - (1 : Int))))) (0 : Int))))) then (
bif (inR x3 (x2 - x1)) then
bif (inR x0 (List.length x4)) then
some (Sum.inl ((IntKind.wrap .i64 (x0 + (1 : Int))), x1, x2, (IntKind.wrap .i64 (x3 + (1 : Int))), (List.set x4 (Int.toNat x0) (List.getD x4 (x1 + (Int.toNat x3)) (0 : Int)))))
else none
else none)
else (
some (Sum.inl (x0, x1, x2, (IntKind.wrap .i64 (x3 + (1 : Int))), x4)))
else none
else none)
else (
some (Sum.inr (x0, x4)))
noncomputable def qf15L1B : (Int × Nat × Nat × Int × (Val (.slice (.int .i64)))) → Option ((Int × Nat × Nat × Int × (Val (.slice (.int .i64)))) ⊕ (Int × (Val (.slice (.int .i64))))) := fun y => qf15L1b y.1 y.2.1 y.2.2.1 y.2.2.2.1 y.2.2.2.2
noncomputable def qf15L1 (x0 : Int) (x1 : Nat) (x2 : Nat) (x3 : Int) (x4 : Val (.slice (.int .i64))) : Option (Int × (Val (.slice (.int .i64)))) := iter qf15L1B (x0, x1, x2, x3, x4)
noncomputable def qf15L2b (x0 : Int) (x1 : Val (.slice (.int .i64))) : Option ((Int × (Val (.slice (.int .i64)))) ⊕ ((Val (.slice (.int .i64))))) :=
bif (decide (x0 < (((List.length x1) : Nat) : Int))) then (
bif (inR x0 (List.length x1)) then
bif (inR (IntKind.wrap .i64 (x0 - (1 : Int))) (List.length x1)) then
bif (decide ((List.getD x1 (Int.toNat x0) (0 : Int)) = (List.getD x1 (Int.toNat (IntKind.wrap .i64 (x0 - (1 : Int)))) (0 : Int)))) then (
bif (((decide ((0 : Int) ≤ x0)) && (decide (x0 ≤ (((List.length x1) : Nat) : Int)))) && (decide ((((List.length x1) : Nat) : Int) ≤ (((List.length x1) : Nat) : Int)))) then
(qf15L1 x0 (Int.toNat x0) (List.length x1) (1 : Int) x1).bind fun r1 =>
bif (((decide ((0 : Int) ≤ r1.1)) && (decide (r1.1 ≤ (((List.length r1.2) : Nat) : Int)))) && (decide ((((List.length r1.2) : Nat) : Int) ≤ (((List.length r1.2) : Nat) : Int)))) then
none
else none
else none)
else (
some (Sum.inl ((IntKind.wrap .i64 (x0 + (1 : Int))), x1)))
else none
else none)
else (
some (Sum.inr x1))
noncomputable def qf15L2B : (Int × (Val (.slice (.int .i64)))) → Option ((Int × (Val (.slice (.int .i64)))) ⊕ ((Val (.slice (.int .i64))))) := fun y => qf15L2b y.1 y.2
noncomputable def qf15L2 (x0 : Int) (x1 : Val (.slice (.int .i64))) : Option ((Val (.slice (.int .i64)))) := iter qf15L2B (x0, x1)
noncomputable def qf15 (a0 : Val (.slice (.int .i64))) : Option ((Val (.slice (.int .i64)))) :=
bif (decide ((((List.length a0) : Nat) : Int) < (2 : Int))) then (
some a0)
else (
(qf15L2 (1 : Int) a0).bind fun r1 =>
some r1)
abbrev qf15L1Y : Type := Int × Nat × Nat × Int × (Val (.slice (.int .i64)))
noncomputable def qf15I : Shape := ⟨61, 1, [(0, .own (.int .i64) 0)], [(0, .slc false (.int .i64))], [0], false⟩
noncomputable def qf15O : Shape := ⟨62, 1, [(61, .own (.int .i64) 0)], [(0, .slc false (.int .i64))], [0], false⟩
noncomputable def qf15F : ((Val (.slice (.int .i64)))) → Option ((Val (.slice (.int .i64)))) := fun y => qf15 y
noncomputable def qf15ct : Ctr := ctrOf qf15I qf15O id id qf15F
noncomputable def qf15E : Env := { tf := tfE, mt := mtE, fn := fun f => none }
theorem qf15_env : EnvOk PT qf15E := ⟨tyE, (fun f ct h => by
  simp only [qf15E] at h
  cases h), mapE⟩
noncomputable def qf15C : Code := bodyOf Tryz.f105
noncomputable def qf15L2C : Code := (loopsOf qf15C).getD 0 .skip
noncomputable def qf15L1C : Code := (loopsOf qf15C).getD 1 .skip
noncomputable def qf15L1S : Shape := ⟨61, 1, [(0, .own (.int .i64) 0), (3, .dat true (.int .i64)), (4, .sub (.int .i64) 0), (5, .dat true (.int .i64))], [(0, .slc false (.int .i64))], [0], false⟩
noncomputable def qf15L1O : List (Ex × Shape) := [(.exit 2, ⟨61, 1, [(0, .own (.int .i64) 0), (3, .dat true (.int .i64))], [(0, .slc false (.int .i64))], [0], false⟩)]
noncomputable def qf15L1M : Sum := loopSum (Y := qf15L1Y) (Z := Int × (Val (.slice (.int .i64)))) qf15L1S qf15L1O id id (iter qf15L1B)
noncomputable def qf15L2S : Shape := ⟨61, 1, [(0, .own (.int .i64) 0), (3, .dat true (.int .i64))], [(0, .slc false (.int .i64))], [0], false⟩
noncomputable def qf15L2O : List (Ex × Shape) := [(.exit 0, ⟨61, 1, [(0, .own (.int .i64) 0)], [(0, .slc false (.int .i64))], [0], false⟩)]
noncomputable def qf15L2M : Sum := loopSum (Y := Int × (Val (.slice (.int .i64)))) (Z := (Val (.slice (.int .i64)))) qf15L2S qf15L2O id id (iter qf15L2B)
noncomputable def qf15H : Nat → Option Sum := fun n => bif Nat.beq n 9 then some qf15L1M else bif Nat.beq n 4 then some qf15L2M else none
theorem qf15L1_bd (y : qf15L1Y) : @Eq (Option (qf15L1Y ⊕ (Int × (Val (.slice (.int .i64)))))) (exec qf15E qf15H qf15L1C (qf15L1S.mk' (show qf15L1S.D from y)) (kont (Y := qf15L1Y) (Z := Int × (Val (.slice (.int .i64)))) qf15L1S qf15L1O id id)) (qf15L1B y) := by kernel_rfl
theorem qf15L1_ok {w0 : World} {Jo : Io} (hfix : ∀ i b, Jo.fix i = some b → i ∈ [0]) (hmay : false = true → Jo.may) : SumOk PT w0 Jo qf15L1M (.loop qf15L1C) :=
  @loop_ok w0 Jo PT qf15E qf15H qf15L1Y (Int × (Val (.slice (.int .i64)))) qf15_env mixed qf15L1C qf15L1S qf15L1O id id id id (fun _ => rfl) (fun _ => rfl) hfix hmay (by kernel_rfl) (noLoops (by kernel_rfl)) qf15L1B qf15L1_bd
theorem qf15L2_bd (y : Int × (Val (.slice (.int .i64)))) : @Eq (Option ((Int × (Val (.slice (.int .i64)))) ⊕ ((Val (.slice (.int .i64)))))) (exec qf15E qf15H qf15L2C (qf15L2S.mk' (show qf15L2S.D from y)) (kont (Y := Int × (Val (.slice (.int .i64)))) (Z := (Val (.slice (.int .i64)))) qf15L2S qf15L2O id id)) (qf15L2B y) := by kernel_rfl
theorem qf15L2_ok {w0 : World} {Jo : Io} (hfix : ∀ i b, Jo.fix i = some b → i ∈ [0]) (hmay : false = true → Jo.may) : SumOk PT w0 Jo qf15L2M (.loop qf15L2C) :=
  @loop_ok w0 Jo PT qf15E qf15H (Int × (Val (.slice (.int .i64)))) ((Val (.slice (.int .i64)))) qf15_env mixed qf15L2C qf15L2S qf15L2O id id id id (fun _ => rfl) (fun _ => rfl) hfix hmay (by kernel_rfl) (loopsMk (by kernel_rfl) (loopsCons (c := qf15L1C) (n := 9) (f := qf15L1M) (by kernel_rfl) (by kernel_rfl) (qf15L1_ok hfix hmay) loopsNil)) qf15L2B qf15L2_bd
theorem qf15_bd (y : (Val (.slice (.int .i64)))) : @Eq (Option ((Val (.slice (.int .i64))))) (exec qf15E qf15H qf15C (qf15I.mk' (show qf15I.D from y)) (kontF (Z := (Val (.slice (.int .i64)))) qf15E Tryz.f105.results.toList qf15O id)) (qf15F y) := by kernel_rfl
theorem qf15_lo {w0 : World} {Jo : Io} (hfix : ∀ i b, Jo.fix i = some b → i ∈ [0]) (hmay : false = true → Jo.may) : LoopsOk PT w0 Jo qf15H qf15C := (loopsMk (by kernel_rfl) (loopsCons (c := qf15L2C) (n := 4) (f := qf15L2M) (by kernel_rfl) (by kernel_rfl) (qf15L2_ok hfix hmay) (loopsCons (c := qf15L1C) (n := 9) (f := qf15L1M) (by kernel_rfl) (by kernel_rfl) (qf15L1_ok hfix hmay) loopsNil)))
theorem qf15_ctr : CtrOk PT 105 qf15ct :=
  @ctr_ok PT qf15E qf15H qf15_env mixed 105 Tryz.f105 qf15C (by kernel_rfl) (by kernel_rfl) (enters_of (by kernel_rfl : PT.funcs[105]? = some Tryz.f105) (by kernel_rfl) (by kernel_rfl)) qf15I qf15O ((Val (.slice (.int .i64)))) ((Val (.slice (.int .i64)))) id id id id (fun _ => rfl) (fun _ => rfl) (by kernel_rfl) (by kernel_rfl) qf15F qf15_bd (fun w0 Jo hfix hmay => qf15_lo hfix hmay)
noncomputable def qf16L1b (x0 : Val (.slice TPage)) (x1 : Val (.slice (.int .i64))) (x2 : Int) (x3 : Int) (x4 : Val (.slice (.int .i64))) : Option (((Val (.slice TPage)) × (Val (.slice (.int .i64))) × Int × Int × (Val (.slice (.int .i64)))) ⊕ ((Val (.slice (.int .i64))))) :=
bif (decide (x3 < x2)) then (
bif (inR x3 (List.length x1)) then
(qf7 x0 (List.getD x1 (Int.toNat x3) (0 : Int))).bind fun r1 =>
bif (!r1.2) then (
bif (decide (((List.length x4) + 1) ≤ lim)) then
some (Sum.inl (x0, x1, x2, (IntKind.wrap .i64 (x3 + (1 : Int))), (x4 ++ [(List.getD x1 (Int.toNat x3) (0 : Int))])))
else none)
else (
some (Sum.inl (x0, x1, x2, (IntKind.wrap .i64 (x3 + (1 : Int))), x4)))
else none)
else (
some (Sum.inr x4))
noncomputable def qf16L1B : ((Val (.slice TPage)) × (Val (.slice (.int .i64))) × Int × Int × (Val (.slice (.int .i64)))) → Option (((Val (.slice TPage)) × (Val (.slice (.int .i64))) × Int × Int × (Val (.slice (.int .i64)))) ⊕ ((Val (.slice (.int .i64))))) := fun y => qf16L1b y.1 y.2.1 y.2.2.1 y.2.2.2.1 y.2.2.2.2
noncomputable def qf16L1 (x0 : Val (.slice TPage)) (x1 : Val (.slice (.int .i64))) (x2 : Int) (x3 : Int) (x4 : Val (.slice (.int .i64))) : Option ((Val (.slice (.int .i64)))) := iter qf16L1B (x0, x1, x2, x3, x4)
noncomputable def qf16 (a0 : Val (.slice TPage)) (a1 : Val (.slice (.int .i64))) : Option ((Val (.slice (.int .i64)))) :=
(qf16L1 a0 a1 (((List.length a1) : Nat) : Int) (0 : Int) []).bind fun r1 =>
(qf14 r1).bind fun r2 =>
(qf15 r2).bind fun r3 =>
some r3
abbrev qf16Y : Type := (Val (.slice TPage)) × (Val (.slice (.int .i64)))
abbrev qf16L1Y : Type := (Val (.slice TPage)) × (Val (.slice (.int .i64))) × Int × Int × (Val (.slice (.int .i64)))
noncomputable def qf16I : Shape := ⟨33, 0, [(0, .dat false (.slice TPage)), (1, .dat false (.slice (.int .i64)))], [], [], true⟩
noncomputable def qf16O : Shape := ⟨34, 1, [(33, .own (.int .i64) 0)], [(0, .slc true (.int .i64))], [], true⟩
noncomputable def qf16F : qf16Y → Option ((Val (.slice (.int .i64)))) := fun y => qf16 y.1 y.2
noncomputable def qf16ct : Ctr := ctrOf qf16I qf16O id id qf16F
noncomputable def qf16E : Env := { tf := tfE, mt := mtE, fn := fun f => bif Nat.beq f 70 then some qf7ct else bif Nat.beq f 104 then some qf14ct else bif Nat.beq f 105 then some qf15ct else none }
theorem qf16_env : EnvOk PT qf16E := ⟨tyE, (fun f ct h => by
  simp only [qf16E] at h
  refine envCons (c := qf7ct) h qf7_ctr (fun h => ?_)
  refine envCons (c := qf14ct) h qf14_ctr (fun h => ?_)
  refine envCons (c := qf15ct) h qf15_ctr (fun h => ?_)
  cases h), mapE⟩
noncomputable def qf16C : Code := bodyOf Tryz.f43
noncomputable def qf16L1C : Code := (loopsOf qf16C).getD 0 .skip
noncomputable def qf16L1S : Shape := ⟨33, 1, [(0, .dat false (.slice TPage)), (5, .own (.int .i64) 0), (10, .dat false (.slice (.int .i64))), (11, .dat true (.int .i64)), (12, .dat true (.int .i64))], [(0, .slc true (.int .i64))], [], true⟩
noncomputable def qf16L1O : List (Ex × Shape) := [(.exit 0, ⟨33, 1, [(5, .own (.int .i64) 0)], [(0, .slc true (.int .i64))], [], true⟩)]
noncomputable def qf16L1M : Sum := loopSum (Y := qf16L1Y) (Z := (Val (.slice (.int .i64)))) qf16L1S qf16L1O id id (iter qf16L1B)
noncomputable def qf16H : Nat → Option Sum := fun n => bif Nat.beq n 3 then some qf16L1M else none
theorem qf16L1_bd (y : qf16L1Y) : @Eq (Option (qf16L1Y ⊕ ((Val (.slice (.int .i64)))))) (exec qf16E qf16H qf16L1C (qf16L1S.mk' (show qf16L1S.D from y)) (kont (Y := qf16L1Y) (Z := (Val (.slice (.int .i64)))) qf16L1S qf16L1O id id)) (qf16L1B y) := by kernel_rfl
theorem qf16L1_ok {w0 : World} {Jo : Io} (hfix : ∀ i b, Jo.fix i = some b → i ∈ []) (hmay : true = true → Jo.may) : SumOk PT w0 Jo qf16L1M (.loop qf16L1C) :=
  @loop_ok w0 Jo PT qf16E qf16H qf16L1Y ((Val (.slice (.int .i64)))) qf16_env mixed qf16L1C qf16L1S qf16L1O id id id id (fun _ => rfl) (fun _ => rfl) hfix hmay (by kernel_rfl) (noLoops (by kernel_rfl)) qf16L1B qf16L1_bd
theorem qf16_bd (y : qf16Y) : @Eq (Option ((Val (.slice (.int .i64))))) (exec qf16E qf16H qf16C (qf16I.mk' (show qf16I.D from y)) (kontF (Z := (Val (.slice (.int .i64)))) qf16E Tryz.f43.results.toList qf16O id)) (qf16F y) := by kernel_rfl
theorem qf16_lo {w0 : World} {Jo : Io} (hfix : ∀ i b, Jo.fix i = some b → i ∈ []) (hmay : true = true → Jo.may) : LoopsOk PT w0 Jo qf16H qf16C := (loopsMk (by kernel_rfl) (loopsCons (c := qf16L1C) (n := 3) (f := qf16L1M) (by kernel_rfl) (by kernel_rfl) (qf16L1_ok hfix hmay) loopsNil))
theorem qf16_ctr : CtrOk PT 43 qf16ct :=
  @ctr_ok PT qf16E qf16H qf16_env mixed 43 Tryz.f43 qf16C (by kernel_rfl) (by kernel_rfl) (enters_of (by kernel_rfl : PT.funcs[43]? = some Tryz.f43) (by kernel_rfl) (by kernel_rfl)) qf16I qf16O qf16Y ((Val (.slice (.int .i64)))) id id id id (fun _ => rfl) (fun _ => rfl) (by kernel_rfl) (by kernel_rfl) qf16F qf16_bd (fun w0 Jo hfix hmay => qf16_lo hfix hmay)
noncomputable def qf17 (a0 : Val TPage) : Option Bool :=
some (!(decide ((IntKind.wrap .u64 ((BitVec.ofInt (IntKind.bits .u64) a0.2.1 &&& BitVec.ofInt (IntKind.bits .u64) (255 : Int)).toNat : Int)) = (0 : Int))))
noncomputable def qf17I : Shape := ⟨7, 0, [(0, .dat false TPage)], [], [], true⟩
noncomputable def qf17O : Shape := ⟨8, 0, [(7, .dat true .bool)], [], [], true⟩
noncomputable def qf17F : ((Val TPage)) → Option Bool := fun y => qf17 y
noncomputable def qf17ct : Ctr := ctrOf qf17I qf17O id id qf17F
noncomputable def qf17E : Env := { tf := tfE, mt := mtE, fn := fun f => none }
theorem qf17_env : EnvOk PT qf17E := ⟨tyE, (fun f ct h => by
  simp only [qf17E] at h
  cases h), mapE⟩
noncomputable def qf17C : Code := bodyOf Tryz.f72
theorem qf17_bd (y : (Val TPage)) : @Eq (Option Bool) (exec qf17E qf0H qf17C (qf17I.mk' (show qf17I.D from y)) (kontF (Z := Bool) qf17E Tryz.f72.results.toList qf17O id)) (qf17F y) := by kernel_rfl
theorem qf17_ctr : CtrOk PT 72 qf17ct :=
  @ctr_ok PT qf17E qf0H qf17_env mixed 72 Tryz.f72 qf17C (by kernel_rfl) (by kernel_rfl) (enters_of (by kernel_rfl : PT.funcs[72]? = some Tryz.f72) (by kernel_rfl) (by kernel_rfl)) qf17I qf17O ((Val TPage)) Bool id id id id (fun _ => rfl) (fun _ => rfl) (by kernel_rfl) (by kernel_rfl) qf17F qf17_bd (fun _ _ _ _ => noLoops (by kernel_rfl))
noncomputable def qf18 (a0 : Int) : Option Bool :=
bif (decide ((98 : Int) ≤ a0)) then (
some (decide (a0 < (104 : Int))))
else (
some false)
noncomputable def qf18I : Shape := ⟨9, 0, [(0, .dat false (.int .i64))], [], [], true⟩
noncomputable def qf18O : Shape := ⟨10, 0, [(9, .dat true .bool)], [], [], true⟩
noncomputable def qf18F : Int → Option Bool := fun y => qf18 y
noncomputable def qf18ct : Ctr := ctrOf qf18I qf18O id id qf18F
noncomputable def qf18E : Env := { tf := tfE, mt := mtE, fn := fun f => none }
theorem qf18_env : EnvOk PT qf18E := ⟨tyE, (fun f ct h => by
  simp only [qf18E] at h
  cases h), mapE⟩
noncomputable def qf18C : Code := bodyOf Tryz.f65
theorem qf18_bd (y : Int) : @Eq (Option Bool) (exec qf18E qf0H qf18C (qf18I.mk' (show qf18I.D from y)) (kontF (Z := Bool) qf18E Tryz.f65.results.toList qf18O id)) (qf18F y) := by kernel_rfl
theorem qf18_ctr : CtrOk PT 65 qf18ct :=
  @ctr_ok PT qf18E qf0H qf18_env mixed 65 Tryz.f65 qf18C (by kernel_rfl) (by kernel_rfl) (enters_of (by kernel_rfl : PT.funcs[65]? = some Tryz.f65) (by kernel_rfl) (by kernel_rfl)) qf18I qf18O Int Bool id id id id (fun _ => rfl) (fun _ => rfl) (by kernel_rfl) (by kernel_rfl) qf18F qf18_bd (fun _ _ _ _ => noLoops (by kernel_rfl))
noncomputable def qf19 (a0 : Int) : Option ((Val TPtr)) :=
some ((IntKind.wrap .i64 (IntKind.wrap .u32 ((BitVec.ofInt (IntKind.bits .u32) a0 &&& BitVec.ofInt (IntKind.bits .u32) (255 : Int)).toNat : Int))), (IntKind.wrap .i64 (shiftR .u32 a0 (8 : Int))), ())
noncomputable def qf19I : Shape := ⟨10, 0, [(0, .dat false (.int .u32))], [], [], true⟩
noncomputable def qf19O : Shape := ⟨11, 0, [(10, .dat true TPtr)], [], [], true⟩
noncomputable def qf19F : Int → Option ((Val TPtr)) := fun y => qf19 y
noncomputable def qf19ct : Ctr := ctrOf qf19I qf19O id id qf19F
noncomputable def qf19E : Env := { tf := tfE, mt := mtE, fn := fun f => none }
theorem qf19_env : EnvOk PT qf19E := ⟨tyE, (fun f ct h => by
  simp only [qf19E] at h
  cases h), mapE⟩
noncomputable def qf19C : Code := bodyOf Tryz.f119
theorem qf19_bd (y : Int) : @Eq (Option ((Val TPtr))) (exec qf19E qf0H qf19C (qf19I.mk' (show qf19I.D from y)) (kontF (Z := (Val TPtr)) qf19E Tryz.f119.results.toList qf19O id)) (qf19F y) := by kernel_rfl
theorem qf19_ctr : CtrOk PT 119 qf19ct :=
  @ctr_ok PT qf19E qf0H qf19_env mixed 119 Tryz.f119 qf19C (by kernel_rfl) (by kernel_rfl) (enters_of (by kernel_rfl : PT.funcs[119]? = some Tryz.f119) (by kernel_rfl) (by kernel_rfl)) qf19I qf19O Int ((Val TPtr)) id id id id (fun _ => rfl) (fun _ => rfl) (by kernel_rfl) (by kernel_rfl) qf19F qf19_bd (fun _ _ _ _ => noLoops (by kernel_rfl))
noncomputable def qf20 (a0 : Int) : Option Bool :=
bif (decide ((104 : Int) ≤ a0)) then (
some (decide (a0 < (256 : Int))))
else (
some false)
noncomputable def qf20I : Shape := ⟨9, 0, [(0, .dat false (.int .i64))], [], [], true⟩
noncomputable def qf20O : Shape := ⟨10, 0, [(9, .dat true .bool)], [], [], true⟩
noncomputable def qf20F : Int → Option Bool := fun y => qf20 y
noncomputable def qf20ct : Ctr := ctrOf qf20I qf20O id id qf20F
noncomputable def qf20E : Env := { tf := tfE, mt := mtE, fn := fun f => none }
theorem qf20_env : EnvOk PT qf20E := ⟨tyE, (fun f ct h => by
  simp only [qf20E] at h
  cases h), mapE⟩
noncomputable def qf20C : Code := bodyOf Tryz.f124
theorem qf20_bd (y : Int) : @Eq (Option Bool) (exec qf20E qf0H qf20C (qf20I.mk' (show qf20I.D from y)) (kontF (Z := Bool) qf20E Tryz.f124.results.toList qf20O id)) (qf20F y) := by kernel_rfl
theorem qf20_ctr : CtrOk PT 124 qf20ct :=
  @ctr_ok PT qf20E qf0H qf20_env mixed 124 Tryz.f124 qf20C (by kernel_rfl) (by kernel_rfl) (enters_of (by kernel_rfl : PT.funcs[124]? = some Tryz.f124) (by kernel_rfl) (by kernel_rfl)) qf20I qf20O Int Bool id id id id (fun _ => rfl) (fun _ => rfl) (by kernel_rfl) (by kernel_rfl) qf20F qf20_bd (fun _ _ _ _ => noLoops (by kernel_rfl))
noncomputable def qf21 (a0 : Val TPtr) : Option Bool :=
(qf20 a0.1).bind fun r1 =>
bif r1 then (
bif (decide ((1 : Int) ≤ a0.2.1)) then (
some (decide (a0.2.1 ≤ (16777215 : Int))))
else (
some false))
else (
some false)
noncomputable def qf21I : Shape := ⟨16, 0, [(0, .dat false TPtr)], [], [], true⟩
noncomputable def qf21O : Shape := ⟨17, 0, [(16, .dat true .bool)], [], [], true⟩
noncomputable def qf21F : ((Val TPtr)) → Option Bool := fun y => qf21 y
noncomputable def qf21ct : Ctr := ctrOf qf21I qf21O id id qf21F
noncomputable def qf21E : Env := { tf := tfE, mt := mtE, fn := fun f => bif Nat.beq f 124 then some qf20ct else none }
theorem qf21_env : EnvOk PT qf21E := ⟨tyE, (fun f ct h => by
  simp only [qf21E] at h
  refine envCons (c := qf20ct) h qf20_ctr (fun h => ?_)
  cases h), mapE⟩
noncomputable def qf21C : Code := bodyOf Tryz.f78
theorem qf21_bd (y : (Val TPtr)) : @Eq (Option Bool) (exec qf21E qf0H qf21C (qf21I.mk' (show qf21I.D from y)) (kontF (Z := Bool) qf21E Tryz.f78.results.toList qf21O id)) (qf21F y) := by kernel_rfl
theorem qf21_ctr : CtrOk PT 78 qf21ct :=
  @ctr_ok PT qf21E qf0H qf21_env mixed 78 Tryz.f78 qf21C (by kernel_rfl) (by kernel_rfl) (enters_of (by kernel_rfl : PT.funcs[78]? = some Tryz.f78) (by kernel_rfl) (by kernel_rfl)) qf21I qf21O ((Val TPtr)) Bool id id id id (fun _ => rfl) (fun _ => rfl) (by kernel_rfl) (by kernel_rfl) qf21F qf21_bd (fun _ _ _ _ => noLoops (by kernel_rfl))
noncomputable def qf22 (a0 : Int) : Option ((Val TRet) × Bool) :=
bif (decide (a0 = (0 : Int))) then (
some ((((0 : Int), (0 : Int), ()), (0 : Int), ()), true))
else (
(qf19 (IntKind.wrap .u32 a0)).bind fun r1 =>
(qf21 r1).bind fun r2 =>
some ((r1, (IntKind.wrap .u32 (shiftR .u64 a0 (32 : Int))), ()), r2))
noncomputable def qf22I : Shape := ⟨19, 0, [(0, .dat false (.int .u64))], [], [], true⟩
noncomputable def qf22O : Shape := ⟨20, 0, [(19, .tup (.cons (.dat true TRet) (.cons (.dat true .bool) (.nil))))], [], [], true⟩
noncomputable def qf22F : Int → Option ((Val TRet) × Bool) := fun y => qf22 y
noncomputable def qf22ct : Ctr := ctrOf qf22I qf22O id id qf22F
noncomputable def qf22E : Env := { tf := tfE, mt := mtE, fn := fun f => bif Nat.beq f 119 then some qf19ct else bif Nat.beq f 78 then some qf21ct else none }
theorem qf22_env : EnvOk PT qf22E := ⟨tyE, (fun f ct h => by
  simp only [qf22E] at h
  refine envCons (c := qf19ct) h qf19_ctr (fun h => ?_)
  refine envCons (c := qf21ct) h qf21_ctr (fun h => ?_)
  cases h), mapE⟩
noncomputable def qf22C : Code := bodyOf Tryz.f66
theorem qf22_bd (y : Int) : @Eq (Option ((Val TRet) × Bool)) (exec qf22E qf0H qf22C (qf22I.mk' (show qf22I.D from y)) (kontF (Z := (Val TRet) × Bool) qf22E Tryz.f66.results.toList qf22O id)) (qf22F y) := by kernel_rfl
theorem qf22_ctr : CtrOk PT 66 qf22ct :=
  @ctr_ok PT qf22E qf0H qf22_env mixed 66 Tryz.f66 qf22C (by kernel_rfl) (by kernel_rfl) (enters_of (by kernel_rfl : PT.funcs[66]? = some Tryz.f66) (by kernel_rfl) (by kernel_rfl)) qf22I qf22O Int ((Val TRet) × Bool) id id id id (fun _ => rfl) (fun _ => rfl) (by kernel_rfl) (by kernel_rfl) qf22F qf22_bd (fun _ _ _ _ => noLoops (by kernel_rfl))
noncomputable def qf23L1b (x0 : Int) (x1 : Val TPage) (x2 : Val TNode) (x3 : Val TNode) : Option ((Int × (Val TPage) × (Val TNode) × (Val TNode)) ⊕ (((Val TNode) × (Val TNode)) ⊕ (Int × (Val TNode)))) :=
bif (decide (x0 < (4 : Int))) then (
bif (inR (IntKind.wrap .i64 ((3 : Int) + x0)) 7) then
(qf22 (List.getD x1.2.2.1 (Int.toNat (IntKind.wrap .i64 ((3 : Int) + x0))) (0 : Int))).bind fun r1 =>
bif (!r1.2) then (
some (Sum.inr (Sum.inr ((14 : Int), false, (0 : Int), (0 : Int), (0 : Int), (List.replicate 4 (((0 : Int), (0 : Int), ()), (0 : Int), ())), ()))))
else (
bif (inR x0 4) then
some (Sum.inl ((IntKind.wrap .i64 (x0 + (1 : Int))), x1, x2, x3.1, x3.2.1, x3.2.2.1, x3.2.2.2.1, (List.set x3.2.2.2.2.1 (Int.toNat x0) r1.1), x3.2.2.2.2.2))
else none)
else none)
else (
some (Sum.inr (Sum.inl (x2, x3))))
noncomputable def qf23L1B : (Int × (Val TPage) × (Val TNode) × (Val TNode)) → Option ((Int × (Val TPage) × (Val TNode) × (Val TNode)) ⊕ (((Val TNode) × (Val TNode)) ⊕ (Int × (Val TNode)))) := fun y => qf23L1b y.1 y.2.1 y.2.2.1 y.2.2.2
noncomputable def qf23L1 (x0 : Int) (x1 : Val TPage) (x2 : Val TNode) (x3 : Val TNode) : Option (((Val TNode) × (Val TNode)) ⊕ (Int × (Val TNode))) := iter qf23L1B (x0, x1, x2, x3)
noncomputable def qf23 (a0 : Val TPage) : Option ((Val TNode) × Int) :=
(qf18 a0.1).bind fun r1 =>
bif (!r1) then (
some ((false, (0 : Int), (0 : Int), (0 : Int), (List.replicate 4 (((0 : Int), (0 : Int), ()), (0 : Int), ())), ()), (1 : Int)))
else (
bif (decide ((4294967296 : Int) < (List.getD a0.2.2.1 0 (0 : Int)))) then (
some ((false, (0 : Int), (0 : Int), (0 : Int), (List.replicate 4 (((0 : Int), (0 : Int), ()), (0 : Int), ())), ()), (14 : Int)))
else (
bif (decide ((512 : Int) ≤ (List.getD a0.2.2.1 1 (0 : Int)))) then (
some ((false, (0 : Int), (0 : Int), (0 : Int), (List.replicate 4 (((0 : Int), (0 : Int), ()), (0 : Int), ())), ()), (14 : Int)))
else (
bif (decide ((59 : Int) < (List.getD a0.2.2.1 2 (0 : Int)))) then (
some ((false, (0 : Int), (0 : Int), (0 : Int), (List.replicate 4 (((0 : Int), (0 : Int), ()), (0 : Int), ())), ()), (14 : Int)))
else (
bif (decide ((0 : Int) < (List.getD a0.2.2.1 0 (0 : Int)))) then (
(qf23L1 (0 : Int) a0 (false, (0 : Int), (0 : Int), (0 : Int), (List.replicate 4 (((0 : Int), (0 : Int), ()), (0 : Int), ())), ()) (true, (IntKind.wrap .u32 (IntKind.wrap .u64 ((List.getD a0.2.2.1 0 (0 : Int)) - (1 : Int)))), (IntKind.wrap .u32 (List.getD a0.2.2.1 1 (0 : Int))), (IntKind.wrap .i64 (List.getD a0.2.2.1 2 (0 : Int))), (List.replicate 4 (((0 : Int), (0 : Int), ()), (0 : Int), ())), ())).bind fun r2 =>
match r2 with
| .inl r3 => (
some (r3.2, (0 : Int)))
| .inr r4 => (
some (r4.2, r4.1)))
else (
(qf23L1 (0 : Int) a0 (false, (0 : Int), (0 : Int), (0 : Int), (List.replicate 4 (((0 : Int), (0 : Int), ()), (0 : Int), ())), ()) (false, (0 : Int), (IntKind.wrap .u32 (List.getD a0.2.2.1 1 (0 : Int))), (IntKind.wrap .i64 (List.getD a0.2.2.1 2 (0 : Int))), (List.replicate 4 (((0 : Int), (0 : Int), ()), (0 : Int), ())), ())).bind fun r5 =>
match r5 with
| .inl r6 => (
some (r6.2, (0 : Int)))
| .inr r7 => (
some (r7.2, r7.1)))))))
abbrev qf23L1Y : Type := Int × (Val TPage) × (Val TNode) × (Val TNode)
abbrev qf23L1Z : Type := ((Val TNode) × (Val TNode)) ⊕ (Int × (Val TNode))
noncomputable def qf23I : Shape := ⟨71, 0, [(0, .dat false TPage)], [], [], true⟩
noncomputable def qf23O : Shape := ⟨72, 0, [(71, .tup (.cons (.dat true TNode) (.cons (.dat true (.int .i64)) (.nil))))], [], [], true⟩
noncomputable def qf23F : ((Val TPage)) → Option ((Val TNode) × Int) := fun y => qf23 y
noncomputable def qf23ct : Ctr := ctrOf qf23I qf23O id id qf23F
noncomputable def qf23E : Env := { tf := tfE, mt := mtE, fn := fun f => bif Nat.beq f 65 then some qf18ct else bif Nat.beq f 66 then some qf22ct else none }
theorem qf23_env : EnvOk PT qf23E := ⟨tyE, (fun f ct h => by
  simp only [qf23E] at h
  refine envCons (c := qf18ct) h qf18_ctr (fun h => ?_)
  refine envCons (c := qf22ct) h qf22_ctr (fun h => ?_)
  cases h), mapE⟩
noncomputable def qf23C : Code := bodyOf Tryz.f23
noncomputable def qf23L1C : Code := (loopsOf qf23C).getD 0 .skip
noncomputable def qf23L1S : Shape := ⟨71, 3, [(1, .ref 0 []), (2, .ref 1 []), (4, .ref 2 []), (50, .dat true (.int .i64))], [(0, .box TPage (.dat false TPage)), (1, .box TNode (.dat true TNode)), (2, .box TNode (.dat true TNode))], [], true⟩
noncomputable def qf23L1O : List (Ex × Shape) := [(.exit 0, ⟨71, 2, [(2, .ref 0 []), (4, .ref 1 [])], [(0, .box TNode (.dat true TNode)), (1, .box TNode (.dat true TNode))], [], true⟩), (.ret, ⟨71, 1, [(2, .ref 0 []), (3, .dat true (.int .i64))], [(0, .box TNode (.dat true TNode))], [], true⟩)]
noncomputable def qf23L1M : Sum := loopSum (Y := qf23L1Y) (Z := qf23L1Z) qf23L1S qf23L1O id id (iter qf23L1B)
noncomputable def qf23H : Nat → Option Sum := fun n => bif Nat.beq n 9 then some qf23L1M else none
theorem qf23L1_bd (y : qf23L1Y) : @Eq (Option (qf23L1Y ⊕ qf23L1Z)) (exec qf23E qf23H qf23L1C (qf23L1S.mk' (show qf23L1S.D from y)) (kont (Y := qf23L1Y) (Z := qf23L1Z) qf23L1S qf23L1O id id)) (qf23L1B y) := by kernel_rfl
theorem qf23L1_ok {w0 : World} {Jo : Io} (hfix : ∀ i b, Jo.fix i = some b → i ∈ []) (hmay : true = true → Jo.may) : SumOk PT w0 Jo qf23L1M (.loop qf23L1C) :=
  @loop_ok w0 Jo PT qf23E qf23H qf23L1Y qf23L1Z qf23_env mixed qf23L1C qf23L1S qf23L1O id id id id (fun _ => rfl) (fun _ => rfl) hfix hmay (by kernel_rfl) (noLoops (by kernel_rfl)) qf23L1B qf23L1_bd
theorem qf23_bd (y : (Val TPage)) : @Eq (Option ((Val TNode) × Int)) (exec qf23E qf23H qf23C (qf23I.mk' (show qf23I.D from y)) (kontF (Z := (Val TNode) × Int) qf23E Tryz.f23.results.toList qf23O id)) (qf23F y) := by kernel_rfl
theorem qf23_lo {w0 : World} {Jo : Io} (hfix : ∀ i b, Jo.fix i = some b → i ∈ []) (hmay : true = true → Jo.may) : LoopsOk PT w0 Jo qf23H qf23C := (loopsMk (by kernel_rfl) (loopsCons (c := qf23L1C) (n := 9) (f := qf23L1M) (by kernel_rfl) (by kernel_rfl) (qf23L1_ok hfix hmay) loopsNil))
theorem qf23_ctr : CtrOk PT 23 qf23ct :=
  @ctr_ok PT qf23E qf23H qf23_env mixed 23 Tryz.f23 qf23C (by kernel_rfl) (by kernel_rfl) (enters_of (by kernel_rfl : PT.funcs[23]? = some Tryz.f23) (by kernel_rfl) (by kernel_rfl)) qf23I qf23O ((Val TPage)) ((Val TNode) × Int) id id id id (fun _ => rfl) (fun _ => rfl) (by kernel_rfl) (by kernel_rfl) qf23F qf23_bd (fun w0 Jo hfix hmay => qf23_lo hfix hmay)
noncomputable def qf24 (a0 : Val (.slice TPage)) (a1 : Int) : Option ((Val TPage) × (Val TNode) × Bool × Int) :=
(qf7 a0 (IntKind.wrap .i64 ((98 : Int) + a1))).bind fun r1 =>
bif (!r1.2) then (
some (((0 : Int), (0 : Int), (List.replicate 7 (0 : Int)), ()), (false, (0 : Int), (0 : Int), (0 : Int), (List.replicate 4 (((0 : Int), (0 : Int), ()), (0 : Int), ())), ()), false, (0 : Int)))
else (
(qf17 r1.1).bind fun r2 =>
bif r2 then (
some (((0 : Int), (0 : Int), (List.replicate 7 (0 : Int)), ()), (false, (0 : Int), (0 : Int), (0 : Int), (List.replicate 4 (((0 : Int), (0 : Int), ()), (0 : Int), ())), ()), true, (3 : Int)))
else (
(qf23 r1.1).bind fun r3 =>
some (r1.1, r3.1, true, r3.2)))
noncomputable def qf24I : Shape := ⟨31, 0, [(0, .dat false (.slice TPage)), (1, .dat false (.int .i64))], [], [], true⟩
noncomputable def qf24O : Shape := ⟨32, 0, [(31, .tup (.cons (.dat false TPage) (.cons (.dat true TNode) (.cons (.dat true .bool) (.cons (.dat true (.int .i64)) (.nil))))))], [], [], true⟩
noncomputable def qf24F : ((Val (.slice TPage)) × Int) → Option ((Val TPage) × (Val TNode) × Bool × Int) := fun y => qf24 y.1 y.2
noncomputable def qf24ct : Ctr := ctrOf qf24I qf24O id id qf24F
noncomputable def qf24E : Env := { tf := tfE, mt := mtE, fn := fun f => bif Nat.beq f 70 then some qf7ct else bif Nat.beq f 72 then some qf17ct else bif Nat.beq f 23 then some qf23ct else none }
theorem qf24_env : EnvOk PT qf24E := ⟨tyE, (fun f ct h => by
  simp only [qf24E] at h
  refine envCons (c := qf7ct) h qf7_ctr (fun h => ?_)
  refine envCons (c := qf17ct) h qf17_ctr (fun h => ?_)
  refine envCons (c := qf23ct) h qf23_ctr (fun h => ?_)
  cases h), mapE⟩
noncomputable def qf24C : Code := bodyOf Tryz.f44
theorem qf24_bd (y : (Val (.slice TPage)) × Int) : @Eq (Option ((Val TPage) × (Val TNode) × Bool × Int)) (exec qf24E qf0H qf24C (qf24I.mk' (show qf24I.D from y)) (kontF (Z := (Val TPage) × (Val TNode) × Bool × Int) qf24E Tryz.f44.results.toList qf24O id)) (qf24F y) := by kernel_rfl
theorem qf24_ctr : CtrOk PT 44 qf24ct :=
  @ctr_ok PT qf24E qf0H qf24_env mixed 44 Tryz.f44 qf24C (by kernel_rfl) (by kernel_rfl) (enters_of (by kernel_rfl : PT.funcs[44]? = some Tryz.f44) (by kernel_rfl) (by kernel_rfl)) qf24I qf24O ((Val (.slice TPage)) × Int) ((Val TPage) × (Val TNode) × Bool × Int) id id id id (fun _ => rfl) (fun _ => rfl) (by kernel_rfl) (by kernel_rfl) qf24F qf24_bd (fun _ _ _ _ => noLoops (by kernel_rfl))
noncomputable def qf25 (a0 : Int) : Option Int :=
(qf6 a0).bind fun r1 =>
bif (!r1) then (
some (0 : Int))
else (
some (IntKind.wrap .i64 (Int.tdiv (IntKind.wrap .i64 (a0 - (104 : Int))) (16 : Int))))
noncomputable def qf25I : Shape := ⟨9, 0, [(0, .dat false (.int .i64))], [], [], true⟩
noncomputable def qf25O : Shape := ⟨10, 0, [(9, .dat true (.int .i64))], [], [], true⟩
noncomputable def qf25F : Int → Option Int := fun y => qf25 y
noncomputable def qf25ct : Ctr := ctrOf qf25I qf25O id id qf25F
noncomputable def qf25E : Env := { tf := tfE, mt := mtE, fn := fun f => bif Nat.beq f 42 then some qf6ct else none }
theorem qf25_env : EnvOk PT qf25E := ⟨tyE, (fun f ct h => by
  simp only [qf25E] at h
  refine envCons (c := qf6ct) h qf6_ctr (fun h => ?_)
  cases h), mapE⟩
noncomputable def qf25C : Code := bodyOf Tryz.f45
theorem qf25_bd (y : Int) : @Eq (Option Int) (exec qf25E qf0H qf25C (qf25I.mk' (show qf25I.D from y)) (kontF (Z := Int) qf25E Tryz.f45.results.toList qf25O id)) (qf25F y) := by kernel_rfl
theorem qf25_ctr : CtrOk PT 45 qf25ct :=
  @ctr_ok PT qf25E qf0H qf25_env mixed 45 Tryz.f45 qf25C (by kernel_rfl) (by kernel_rfl) (enters_of (by kernel_rfl : PT.funcs[45]? = some Tryz.f45) (by kernel_rfl) (by kernel_rfl)) qf25I qf25O Int Int id id id id (fun _ => rfl) (fun _ => rfl) (by kernel_rfl) (by kernel_rfl) qf25F qf25_bd (fun _ _ _ _ => noLoops (by kernel_rfl))
noncomputable def qf26L1b (x0 : Int) (x1 : Int) (x2 : Int) (x3 : Val (.slice (.int .i64))) : Option ((Int × Int × Int × (Val (.slice (.int .i64)))) ⊕ ((Val (.slice (.int .i64))))) :=
bif (decide (x2 < x1)) then (
bif (decide ((0 : Int) ≤ (IntKind.wrap .u64 x2))) then
bif (decide ((IntKind.wrap .u32 ((BitVec.ofInt (IntKind.bits .u32) (shiftR .u32 x0 (IntKind.wrap .u64 x2)) &&& BitVec.ofInt (IntKind.bits .u32) (1 : Int)).toNat : Int)) = (1 : Int))) then (
bif (decide (((List.length x3) + 1) ≤ lim)) then
some (Sum.inl (x0, x1, (IntKind.wrap .i64 (x2 + (1 : Int))), (x3 ++ [x2])))
else none)
else (
some (Sum.inl (x0, x1, (IntKind.wrap .i64 (x2 + (1 : Int))), x3)))
else none)
else (
some (Sum.inr x3))
noncomputable def qf26L1B : (Int × Int × Int × (Val (.slice (.int .i64)))) → Option ((Int × Int × Int × (Val (.slice (.int .i64)))) ⊕ ((Val (.slice (.int .i64))))) := fun y => qf26L1b y.1 y.2.1 y.2.2.1 y.2.2.2
noncomputable def qf26L1 (x0 : Int) (x1 : Int) (x2 : Int) (x3 : Val (.slice (.int .i64))) : Option ((Val (.slice (.int .i64)))) := iter qf26L1B (x0, x1, x2, x3)
noncomputable def qf26 (a0 : Int) (a1 : Int) : Option ((Val (.slice (.int .i64)))) :=
(qf26L1 a0 a1 (0 : Int) []).bind fun r1 =>
some r1
abbrev qf26L1Y : Type := Int × Int × Int × (Val (.slice (.int .i64)))
noncomputable def qf26I : Shape := ⟨23, 0, [(0, .dat false (.int .u32)), (1, .dat false (.int .i64))], [], [], true⟩
noncomputable def qf26O : Shape := ⟨24, 0, [(23, .dat true (.slice (.int .i64)))], [], [], true⟩
noncomputable def qf26F : (Int × Int) → Option ((Val (.slice (.int .i64)))) := fun y => qf26 y.1 y.2
noncomputable def qf26ct : Ctr := ctrOf qf26I qf26O id id qf26F
noncomputable def qf26E : Env := { tf := tfE, mt := mtE, fn := fun f => none }
theorem qf26_env : EnvOk PT qf26E := ⟨tyE, (fun f ct h => by
  simp only [qf26E] at h
  cases h), mapE⟩
noncomputable def qf26C : Code := bodyOf Tryz.f47
noncomputable def qf26L1C : Code := (loopsOf qf26C).getD 0 .skip
noncomputable def qf26L1S : Shape := ⟨23, 1, [(0, .dat false (.int .u32)), (1, .dat false (.int .i64)), (5, .own (.int .i64) 0), (6, .dat true (.int .i64))], [(0, .slc true (.int .i64))], [], true⟩
noncomputable def qf26L1O : List (Ex × Shape) := [(.exit 0, ⟨23, 1, [(5, .own (.int .i64) 0)], [(0, .slc true (.int .i64))], [], true⟩)]
noncomputable def qf26L1M : Sum := loopSum (Y := qf26L1Y) (Z := (Val (.slice (.int .i64)))) qf26L1S qf26L1O id id (iter qf26L1B)
noncomputable def qf26H : Nat → Option Sum := fun n => bif Nat.beq n 3 then some qf26L1M else none
theorem qf26L1_bd (y : qf26L1Y) : @Eq (Option (qf26L1Y ⊕ ((Val (.slice (.int .i64)))))) (exec qf26E qf26H qf26L1C (qf26L1S.mk' (show qf26L1S.D from y)) (kont (Y := qf26L1Y) (Z := (Val (.slice (.int .i64)))) qf26L1S qf26L1O id id)) (qf26L1B y) := by kernel_rfl
theorem qf26L1_ok {w0 : World} {Jo : Io} (hfix : ∀ i b, Jo.fix i = some b → i ∈ []) (hmay : true = true → Jo.may) : SumOk PT w0 Jo qf26L1M (.loop qf26L1C) :=
  @loop_ok w0 Jo PT qf26E qf26H qf26L1Y ((Val (.slice (.int .i64)))) qf26_env mixed qf26L1C qf26L1S qf26L1O id id id id (fun _ => rfl) (fun _ => rfl) hfix hmay (by kernel_rfl) (noLoops (by kernel_rfl)) qf26L1B qf26L1_bd
theorem qf26_bd (y : Int × Int) : @Eq (Option ((Val (.slice (.int .i64))))) (exec qf26E qf26H qf26C (qf26I.mk' (show qf26I.D from y)) (kontF (Z := (Val (.slice (.int .i64)))) qf26E Tryz.f47.results.toList qf26O id)) (qf26F y) := by kernel_rfl
theorem qf26_lo {w0 : World} {Jo : Io} (hfix : ∀ i b, Jo.fix i = some b → i ∈ []) (hmay : true = true → Jo.may) : LoopsOk PT w0 Jo qf26H qf26C := (loopsMk (by kernel_rfl) (loopsCons (c := qf26L1C) (n := 3) (f := qf26L1M) (by kernel_rfl) (by kernel_rfl) (qf26L1_ok hfix hmay) loopsNil))
theorem qf26_ctr : CtrOk PT 47 qf26ct :=
  @ctr_ok PT qf26E qf26H qf26_env mixed 47 Tryz.f47 qf26C (by kernel_rfl) (by kernel_rfl) (enters_of (by kernel_rfl : PT.funcs[47]? = some Tryz.f47) (by kernel_rfl) (by kernel_rfl)) qf26I qf26O (Int × Int) ((Val (.slice (.int .i64)))) id id id id (fun _ => rfl) (fun _ => rfl) (by kernel_rfl) (by kernel_rfl) qf26F qf26_bd (fun w0 Jo hfix hmay => qf26_lo hfix hmay)
noncomputable def qf27 (a0 : Int) : Option Int :=
bif (decide (a0 < (0 : Int))) then (
some (-1 : Int))
else (
bif (decide ((9 : Int) ≤ a0)) then (
some (-1 : Int))
else (
some (IntKind.wrap .i64 ((104 : Int) + (IntKind.wrap .i64 (a0 * (16 : Int)))))))
noncomputable def qf27I : Shape := ⟨12, 0, [(0, .dat false (.int .i64))], [], [], true⟩
noncomputable def qf27O : Shape := ⟨13, 0, [(12, .dat true (.int .i64))], [], [], true⟩
noncomputable def qf27F : Int → Option Int := fun y => qf27 y
noncomputable def qf27ct : Ctr := ctrOf qf27I qf27O id id qf27F
noncomputable def qf27E : Env := { tf := tfE, mt := mtE, fn := fun f => none }
theorem qf27_env : EnvOk PT qf27E := ⟨tyE, (fun f ct h => by
  simp only [qf27E] at h
  cases h), mapE⟩
noncomputable def qf27C : Code := bodyOf Tryz.f24
theorem qf27_bd (y : Int) : @Eq (Option Int) (exec qf27E qf0H qf27C (qf27I.mk' (show qf27I.D from y)) (kontF (Z := Int) qf27E Tryz.f24.results.toList qf27O id)) (qf27F y) := by kernel_rfl
theorem qf27_ctr : CtrOk PT 24 qf27ct :=
  @ctr_ok PT qf27E qf0H qf27_env mixed 24 Tryz.f24 qf27C (by kernel_rfl) (by kernel_rfl) (enters_of (by kernel_rfl : PT.funcs[24]? = some Tryz.f24) (by kernel_rfl) (by kernel_rfl)) qf27I qf27O Int Int id id id id (fun _ => rfl) (fun _ => rfl) (by kernel_rfl) (by kernel_rfl) qf27F qf27_bd (fun _ _ _ _ => noLoops (by kernel_rfl))
noncomputable def qf28L1b (x0 : Val (.slice (.int .i64))) (x1 : Int) (x2 : Int) (x3 : Val (.slice (.int .i64))) : Option (((Val (.slice (.int .i64))) × Int × Int × (Val (.slice (.int .i64)))) ⊕ ((Val (.slice (.int .i64))))) :=
bif (decide (x2 < x1)) then (
bif (inR x2 (List.length x0)) then
(qf27 (List.getD x0 (Int.toNat x2) (0 : Int))).bind fun r1 =>
bif (decide (((List.length x3) + 1) ≤ lim)) then
some (Sum.inl (x0, x1, (IntKind.wrap .i64 (x2 + (1 : Int))), (x3 ++ [r1])))
else none
else none)
else (
some (Sum.inr x3))
noncomputable def qf28L1B : ((Val (.slice (.int .i64))) × Int × Int × (Val (.slice (.int .i64)))) → Option (((Val (.slice (.int .i64))) × Int × Int × (Val (.slice (.int .i64)))) ⊕ ((Val (.slice (.int .i64))))) := fun y => qf28L1b y.1 y.2.1 y.2.2.1 y.2.2.2
noncomputable def qf28L1 (x0 : Val (.slice (.int .i64))) (x1 : Int) (x2 : Int) (x3 : Val (.slice (.int .i64))) : Option ((Val (.slice (.int .i64)))) := iter qf28L1B (x0, x1, x2, x3)
noncomputable def qf28 (a0 : Val (.slice (.int .i64))) : Option ((Val (.slice (.int .i64)))) :=
(qf28L1 a0 (((List.length a0) : Nat) : Int) (0 : Int) []).bind fun r1 =>
some r1
abbrev qf28L1Y : Type := (Val (.slice (.int .i64))) × Int × Int × (Val (.slice (.int .i64)))
noncomputable def qf28I : Shape := ⟨19, 0, [(0, .dat false (.slice (.int .i64)))], [], [], true⟩
noncomputable def qf28O : Shape := ⟨20, 0, [(19, .dat true (.slice (.int .i64)))], [], [], true⟩
noncomputable def qf28F : ((Val (.slice (.int .i64)))) → Option ((Val (.slice (.int .i64)))) := fun y => qf28 y
noncomputable def qf28ct : Ctr := ctrOf qf28I qf28O id id qf28F
noncomputable def qf28E : Env := { tf := tfE, mt := mtE, fn := fun f => bif Nat.beq f 24 then some qf27ct else none }
theorem qf28_env : EnvOk PT qf28E := ⟨tyE, (fun f ct h => by
  simp only [qf28E] at h
  refine envCons (c := qf27ct) h qf27_ctr (fun h => ?_)
  cases h), mapE⟩
noncomputable def qf28C : Code := bodyOf Tryz.f46
noncomputable def qf28L1C : Code := (loopsOf qf28C).getD 0 .skip
noncomputable def qf28L1S : Shape := ⟨19, 1, [(3, .own (.int .i64) 0), (6, .dat false (.slice (.int .i64))), (7, .dat true (.int .i64)), (8, .dat true (.int .i64))], [(0, .slc true (.int .i64))], [], true⟩
noncomputable def qf28L1O : List (Ex × Shape) := [(.exit 0, ⟨19, 1, [(3, .own (.int .i64) 0)], [(0, .slc true (.int .i64))], [], true⟩)]
noncomputable def qf28L1M : Sum := loopSum (Y := qf28L1Y) (Z := (Val (.slice (.int .i64)))) qf28L1S qf28L1O id id (iter qf28L1B)
noncomputable def qf28H : Nat → Option Sum := fun n => bif Nat.beq n 3 then some qf28L1M else none
theorem qf28L1_bd (y : qf28L1Y) : @Eq (Option (qf28L1Y ⊕ ((Val (.slice (.int .i64)))))) (exec qf28E qf28H qf28L1C (qf28L1S.mk' (show qf28L1S.D from y)) (kont (Y := qf28L1Y) (Z := (Val (.slice (.int .i64)))) qf28L1S qf28L1O id id)) (qf28L1B y) := by kernel_rfl
theorem qf28L1_ok {w0 : World} {Jo : Io} (hfix : ∀ i b, Jo.fix i = some b → i ∈ []) (hmay : true = true → Jo.may) : SumOk PT w0 Jo qf28L1M (.loop qf28L1C) :=
  @loop_ok w0 Jo PT qf28E qf28H qf28L1Y ((Val (.slice (.int .i64)))) qf28_env mixed qf28L1C qf28L1S qf28L1O id id id id (fun _ => rfl) (fun _ => rfl) hfix hmay (by kernel_rfl) (noLoops (by kernel_rfl)) qf28L1B qf28L1_bd
theorem qf28_bd (y : (Val (.slice (.int .i64)))) : @Eq (Option ((Val (.slice (.int .i64))))) (exec qf28E qf28H qf28C (qf28I.mk' (show qf28I.D from y)) (kontF (Z := (Val (.slice (.int .i64)))) qf28E Tryz.f46.results.toList qf28O id)) (qf28F y) := by kernel_rfl
theorem qf28_lo {w0 : World} {Jo : Io} (hfix : ∀ i b, Jo.fix i = some b → i ∈ []) (hmay : true = true → Jo.may) : LoopsOk PT w0 Jo qf28H qf28C := (loopsMk (by kernel_rfl) (loopsCons (c := qf28L1C) (n := 3) (f := qf28L1M) (by kernel_rfl) (by kernel_rfl) (qf28L1_ok hfix hmay) loopsNil))
theorem qf28_ctr : CtrOk PT 46 qf28ct :=
  @ctr_ok PT qf28E qf28H qf28_env mixed 46 Tryz.f46 qf28C (by kernel_rfl) (by kernel_rfl) (enters_of (by kernel_rfl : PT.funcs[46]? = some Tryz.f46) (by kernel_rfl) (by kernel_rfl)) qf28I qf28O ((Val (.slice (.int .i64)))) ((Val (.slice (.int .i64)))) id id id id (fun _ => rfl) (fun _ => rfl) (by kernel_rfl) (by kernel_rfl) qf28F qf28_bd (fun w0 Jo hfix hmay => qf28_lo hfix hmay)
noncomputable def qf29 (a0 : Int) : Option Bool :=
bif (decide ((104 : Int) ≤ a0)) then (
bif (decide (a0 < (248 : Int))) then (
some (decide ((Int.tmod (IntKind.wrap .i64 (a0 - (104 : Int))) (16 : Int)) = (0 : Int))))
else (
some false))
else (
some false)
noncomputable def qf29I : Shape := ⟨15, 0, [(0, .dat false (.int .i64))], [], [], true⟩
noncomputable def qf29O : Shape := ⟨16, 0, [(15, .dat true .bool)], [], [], true⟩
noncomputable def qf29F : Int → Option Bool := fun y => qf29 y
noncomputable def qf29ct : Ctr := ctrOf qf29I qf29O id id qf29F
noncomputable def qf29E : Env := { tf := tfE, mt := mtE, fn := fun f => none }
theorem qf29_env : EnvOk PT qf29E := ⟨tyE, (fun f ct h => by
  simp only [qf29E] at h
  cases h), mapE⟩
noncomputable def qf29C : Code := bodyOf Tryz.f67
theorem qf29_bd (y : Int) : @Eq (Option Bool) (exec qf29E qf0H qf29C (qf29I.mk' (show qf29I.D from y)) (kontF (Z := Bool) qf29E Tryz.f67.results.toList qf29O id)) (qf29F y) := by kernel_rfl
theorem qf29_ctr : CtrOk PT 67 qf29ct :=
  @ctr_ok PT qf29E qf0H qf29_env mixed 67 Tryz.f67 qf29C (by kernel_rfl) (by kernel_rfl) (enters_of (by kernel_rfl : PT.funcs[67]? = some Tryz.f67) (by kernel_rfl) (by kernel_rfl)) qf29I qf29O Int Bool id id id id (fun _ => rfl) (fun _ => rfl) (by kernel_rfl) (by kernel_rfl) qf29F qf29_bd (fun _ _ _ _ => noLoops (by kernel_rfl))
noncomputable def qf30 (a0 : Int) : Option Bool :=
some (!(decide (a0 = (0 : Int))))
noncomputable def qf30I : Shape := ⟨5, 0, [(0, .dat false (.int .u64))], [], [], true⟩
noncomputable def qf30O : Shape := ⟨6, 0, [(5, .dat true .bool)], [], [], true⟩
noncomputable def qf30F : Int → Option Bool := fun y => qf30 y
noncomputable def qf30ct : Ctr := ctrOf qf30I qf30O id id qf30F
noncomputable def qf30E : Env := { tf := tfE, mt := mtE, fn := fun f => none }
theorem qf30_env : EnvOk PT qf30E := ⟨tyE, (fun f ct h => by
  simp only [qf30E] at h
  cases h), mapE⟩
noncomputable def qf30C : Code := bodyOf Tryz.f121
theorem qf30_bd (y : Int) : @Eq (Option Bool) (exec qf30E qf0H qf30C (qf30I.mk' (show qf30I.D from y)) (kontF (Z := Bool) qf30E Tryz.f121.results.toList qf30O id)) (qf30F y) := by kernel_rfl
theorem qf30_ctr : CtrOk PT 121 qf30ct :=
  @ctr_ok PT qf30E qf0H qf30_env mixed 121 Tryz.f121 qf30C (by kernel_rfl) (by kernel_rfl) (enters_of (by kernel_rfl : PT.funcs[121]? = some Tryz.f121) (by kernel_rfl) (by kernel_rfl)) qf30I qf30O Int Bool id id id id (fun _ => rfl) (fun _ => rfl) (by kernel_rfl) (by kernel_rfl) qf30F qf30_bd (fun _ _ _ _ => noLoops (by kernel_rfl))
noncomputable def qf31L1b (x0 : Val (.slice (.int .u64))) (x1 : Int) (x2 : Int) : Option (((Val (.slice (.int .u64))) × Int × Int) ⊕ ((Unit) ⊕ (Int))) :=
bif (decide (x2 < x1)) then (
bif (inR x2 (List.length x0)) then
(qf30 (List.getD x0 (Int.toNat x2) (0 : Int))).bind fun r1 =>
bif r1 then (
some (Sum.inr (Sum.inr x2)))
else (
some (Sum.inl (x0, x1, (IntKind.wrap .i64 (x2 + (1 : Int))))))
else none)
else (
some (Sum.inr (Sum.inl ())))
noncomputable def qf31L1B : ((Val (.slice (.int .u64))) × Int × Int) → Option (((Val (.slice (.int .u64))) × Int × Int) ⊕ ((Unit) ⊕ (Int))) := fun y => qf31L1b y.1 y.2.1 y.2.2
noncomputable def qf31L1 (x0 : Val (.slice (.int .u64))) (x1 : Int) (x2 : Int) : Option ((Unit) ⊕ (Int)) := iter qf31L1B (x0, x1, x2)
noncomputable def qf31 (a0 : Val (.slice (.int .u64))) : Option Int :=
(qf31L1 a0 (((List.length a0) : Nat) : Int) (0 : Int)).bind fun r1 =>
match r1 with
| .inl r2 => (
some (-1 : Int))
| .inr r3 => (
some r3)
noncomputable def qf31I : Shape := ⟨19, 0, [(0, .dat false (.slice (.int .u64))), (1, .fn 121 (.nil))], [], [], true⟩
noncomputable def qf31O : Shape := ⟨20, 0, [(19, .dat true (.int .i64))], [], [], true⟩
noncomputable def qf31F : ((Val (.slice (.int .u64)))) → Option Int := fun y => qf31 y
noncomputable def qf31ct : Ctr := ctrOf qf31I qf31O id id qf31F
noncomputable def qf31E : Env := { tf := tfE, mt := mtE, fn := fun f => bif Nat.beq f 121 then some qf30ct else none }
theorem qf31_env : EnvOk PT qf31E := ⟨tyE, (fun f ct h => by
  simp only [qf31E] at h
  refine envCons (c := qf30ct) h qf30_ctr (fun h => ?_)
  cases h), mapE⟩
noncomputable def qf31C : Code := bodyOf Tryz.f150
noncomputable def qf31L1C : Code := (loopsOf qf31C).getD 0 .skip
noncomputable def qf31L1S : Shape := ⟨19, 0, [(0, .dat false (.slice (.int .u64))), (1, .fn 121 (.nil)), (7, .dat true (.int .i64)), (8, .dat true (.int .i64))], [], [], true⟩
noncomputable def qf31L1O : List (Ex × Shape) := [(.exit 0, ⟨19, 0, [], [], [], true⟩), (.ret, ⟨19, 0, [(4, .dat true (.int .i64))], [], [], true⟩)]
noncomputable def qf31L1M : Sum := loopSum (Y := (Val (.slice (.int .u64))) × Int × Int) (Z := (Unit) ⊕ (Int)) qf31L1S qf31L1O id id (iter qf31L1B)
noncomputable def qf31H : Nat → Option Sum := fun n => bif Nat.beq n 2 then some qf31L1M else none
theorem qf31L1_bd (y : (Val (.slice (.int .u64))) × Int × Int) : @Eq (Option (((Val (.slice (.int .u64))) × Int × Int) ⊕ ((Unit) ⊕ (Int)))) (exec qf31E qf31H qf31L1C (qf31L1S.mk' (show qf31L1S.D from y)) (kont (Y := (Val (.slice (.int .u64))) × Int × Int) (Z := (Unit) ⊕ (Int)) qf31L1S qf31L1O id id)) (qf31L1B y) := by kernel_rfl
theorem qf31L1_ok {w0 : World} {Jo : Io} (hfix : ∀ i b, Jo.fix i = some b → i ∈ []) (hmay : true = true → Jo.may) : SumOk PT w0 Jo qf31L1M (.loop qf31L1C) :=
  @loop_ok w0 Jo PT qf31E qf31H ((Val (.slice (.int .u64))) × Int × Int) ((Unit) ⊕ (Int)) qf31_env mixed qf31L1C qf31L1S qf31L1O id id id id (fun _ => rfl) (fun _ => rfl) hfix hmay (by kernel_rfl) (noLoops (by kernel_rfl)) qf31L1B qf31L1_bd
theorem qf31_bd (y : (Val (.slice (.int .u64)))) : @Eq (Option Int) (exec qf31E qf31H qf31C (qf31I.mk' (show qf31I.D from y)) (kontF (Z := Int) qf31E Tryz.f150.results.toList qf31O id)) (qf31F y) := by kernel_rfl
theorem qf31_lo {w0 : World} {Jo : Io} (hfix : ∀ i b, Jo.fix i = some b → i ∈ []) (hmay : true = true → Jo.may) : LoopsOk PT w0 Jo qf31H qf31C := (loopsMk (by kernel_rfl) (loopsCons (c := qf31L1C) (n := 2) (f := qf31L1M) (by kernel_rfl) (by kernel_rfl) (qf31L1_ok hfix hmay) loopsNil))
theorem qf31_ctr : CtrOk PT 150 qf31ct :=
  @ctr_ok PT qf31E qf31H qf31_env mixed 150 Tryz.f150 qf31C (by kernel_rfl) (by kernel_rfl) (enters_of (by kernel_rfl : PT.funcs[150]? = some Tryz.f150) (by kernel_rfl) (by kernel_rfl)) qf31I qf31O ((Val (.slice (.int .u64)))) Int id id id id (fun _ => rfl) (fun _ => rfl) (by kernel_rfl) (by kernel_rfl) qf31F qf31_bd (fun w0 Jo hfix hmay => qf31_lo hfix hmay)
noncomputable def qf32 (a0 : Val (.slice (.int .u64))) : Option Bool :=
(qf31 a0).bind fun r1 =>
some (decide ((0 : Int) ≤ r1))
noncomputable def qf32I : Shape := ⟨9, 0, [(0, .dat false (.slice (.int .u64))), (1, .fn 121 (.nil))], [], [], true⟩
noncomputable def qf32O : Shape := ⟨10, 0, [(9, .dat true .bool)], [], [], true⟩
noncomputable def qf32F : ((Val (.slice (.int .u64)))) → Option Bool := fun y => qf32 y
noncomputable def qf32ct : Ctr := ctrOf qf32I qf32O id id qf32F
noncomputable def qf32E : Env := { tf := tfE, mt := mtE, fn := fun f => bif Nat.beq f 150 then some qf31ct else none }
theorem qf32_env : EnvOk PT qf32E := ⟨tyE, (fun f ct h => by
  simp only [qf32E] at h
  refine envCons (c := qf31ct) h qf31_ctr (fun h => ?_)
  cases h), mapE⟩
noncomputable def qf32C : Code := bodyOf Tryz.f120
theorem qf32_bd (y : (Val (.slice (.int .u64)))) : @Eq (Option Bool) (exec qf32E qf0H qf32C (qf32I.mk' (show qf32I.D from y)) (kontF (Z := Bool) qf32E Tryz.f120.results.toList qf32O id)) (qf32F y) := by kernel_rfl
theorem qf32_ctr : CtrOk PT 120 qf32ct :=
  @ctr_ok PT qf32E qf0H qf32_env mixed 120 Tryz.f120 qf32C (by kernel_rfl) (by kernel_rfl) (enters_of (by kernel_rfl : PT.funcs[120]? = some Tryz.f120) (by kernel_rfl) (by kernel_rfl)) qf32I qf32O ((Val (.slice (.int .u64)))) Bool id id id id (fun _ => rfl) (fun _ => rfl) (by kernel_rfl) (by kernel_rfl) qf32F qf32_bd (fun _ _ _ _ => noLoops (by kernel_rfl))
noncomputable def qf33 (a0 : Val (.slice (.int .u64))) : Option Bool :=
(qf32 a0).bind fun r1 =>
some (!r1)
noncomputable def qf33I : Shape := ⟨6, 0, [(0, .dat false (.slice (.int .u64)))], [], [], true⟩
noncomputable def qf33O : Shape := ⟨7, 0, [(6, .dat true .bool)], [], [], true⟩
noncomputable def qf33F : ((Val (.slice (.int .u64)))) → Option Bool := fun y => qf33 y
noncomputable def qf33ct : Ctr := ctrOf qf33I qf33O id id qf33F
noncomputable def qf33E : Env := { tf := tfE, mt := mtE, fn := fun f => bif Nat.beq f 120 then some qf32ct else none }
theorem qf33_env : EnvOk PT qf33E := ⟨tyE, (fun f ct h => by
  simp only [qf33E] at h
  refine envCons (c := qf32ct) h qf32_ctr (fun h => ?_)
  cases h), mapE⟩
noncomputable def qf33C : Code := bodyOf Tryz.f68
theorem qf33_bd (y : (Val (.slice (.int .u64)))) : @Eq (Option Bool) (exec qf33E qf0H qf33C (qf33I.mk' (show qf33I.D from y)) (kontF (Z := Bool) qf33E Tryz.f68.results.toList qf33O id)) (qf33F y) := by kernel_rfl
theorem qf33_ctr : CtrOk PT 68 qf33ct :=
  @ctr_ok PT qf33E qf0H qf33_env mixed 68 Tryz.f68 qf33C (by kernel_rfl) (by kernel_rfl) (enters_of (by kernel_rfl : PT.funcs[68]? = some Tryz.f68) (by kernel_rfl) (by kernel_rfl)) qf33I qf33O ((Val (.slice (.int .u64)))) Bool id id id id (fun _ => rfl) (fun _ => rfl) (by kernel_rfl) (by kernel_rfl) qf33F qf33_bd (fun _ _ _ _ => noLoops (by kernel_rfl))
noncomputable def qf34 (a0 : Val TPage) : Option ((Val THead) × Int) :=
(qf29 a0.1).bind fun r1 =>
bif (!r1) then (
some (((0 : Int), (0 : Int), ()), (1 : Int)))
else (
bif (decide ((6 : Int) < (List.getD a0.2.2.1 0 (0 : Int)))) then (
some (((0 : Int), (0 : Int), ()), (14 : Int)))
else (
bif (!(decide ((IntKind.wrap .u64 ((BitVec.ofInt (IntKind.bits .u64) (List.getD a0.2.2.1 1 (0 : Int)) &&& ~~~ BitVec.ofInt (IntKind.bits .u64) (65534 : Int)).toNat : Int)) = (0 : Int)))) then (
some (((0 : Int), (0 : Int), ()), (14 : Int)))
else (
(qf33 (List.drop 2 (List.take 7 a0.2.2.1))).bind fun r2 =>
bif (!r2) then (
some (((0 : Int), (0 : Int), ()), (14 : Int)))
else (
some (((IntKind.wrap .i64 ((IntKind.wrap .i64 (List.getD a0.2.2.1 0 (0 : Int))) - (1 : Int))), (IntKind.wrap .u32 (List.getD a0.2.2.1 1 (0 : Int))), ()), (0 : Int))))))
noncomputable def qf34I : Shape := ⟨37, 0, [(0, .dat false TPage)], [], [], true⟩
noncomputable def qf34O : Shape := ⟨38, 0, [(37, .tup (.cons (.dat true THead) (.cons (.dat true (.int .i64)) (.nil))))], [], [], true⟩
noncomputable def qf34F : ((Val TPage)) → Option ((Val THead) × Int) := fun y => qf34 y
noncomputable def qf34ct : Ctr := ctrOf qf34I qf34O id id qf34F
noncomputable def qf34E : Env := { tf := tfE, mt := mtE, fn := fun f => bif Nat.beq f 67 then some qf29ct else bif Nat.beq f 68 then some qf33ct else none }
theorem qf34_env : EnvOk PT qf34E := ⟨tyE, (fun f ct h => by
  simp only [qf34E] at h
  refine envCons (c := qf29ct) h qf29_ctr (fun h => ?_)
  refine envCons (c := qf33ct) h qf33_ctr (fun h => ?_)
  cases h), mapE⟩
noncomputable def qf34C : Code := bodyOf Tryz.f25
theorem qf34_bd (y : (Val TPage)) : @Eq (Option ((Val THead) × Int)) (exec qf34E qf0H qf34C (qf34I.mk' (show qf34I.D from y)) (kontF (Z := (Val THead) × Int) qf34E Tryz.f25.results.toList qf34O id)) (qf34F y) := by kernel_rfl
theorem qf34_ctr : CtrOk PT 25 qf34ct :=
  @ctr_ok PT qf34E qf0H qf34_env mixed 25 Tryz.f25 qf34C (by kernel_rfl) (by kernel_rfl) (enters_of (by kernel_rfl : PT.funcs[25]? = some Tryz.f25) (by kernel_rfl) (by kernel_rfl)) qf34I qf34O ((Val TPage)) ((Val THead) × Int) id id id id (fun _ => rfl) (fun _ => rfl) (by kernel_rfl) (by kernel_rfl) qf34F qf34_bd (fun _ _ _ _ => noLoops (by kernel_rfl))
noncomputable def qf35 (a0 : Val (.slice TPage)) (a1 : Int) : Option ((Val TPage) × (Val THead) × Bool × Int) :=
(qf27 a1).bind fun r1 =>
(qf7 a0 r1).bind fun r2 =>
bif (!r2.2) then (
some (((0 : Int), (0 : Int), (List.replicate 7 (0 : Int)), ()), ((0 : Int), (0 : Int), ()), false, (0 : Int)))
else (
(qf17 r2.1).bind fun r3 =>
bif r3 then (
some (((0 : Int), (0 : Int), (List.replicate 7 (0 : Int)), ()), ((0 : Int), (0 : Int), ()), true, (3 : Int)))
else (
(qf34 r2.1).bind fun r4 =>
some (r2.1, r4.1, true, r4.2)))
noncomputable def qf35I : Shape := ⟨31, 0, [(0, .dat false (.slice TPage)), (1, .dat false (.int .i64))], [], [], true⟩
noncomputable def qf35O : Shape := ⟨32, 0, [(31, .tup (.cons (.dat false TPage) (.cons (.dat true THead) (.cons (.dat true .bool) (.cons (.dat true (.int .i64)) (.nil))))))], [], [], true⟩
noncomputable def qf35F : ((Val (.slice TPage)) × Int) → Option ((Val TPage) × (Val THead) × Bool × Int) := fun y => qf35 y.1 y.2
noncomputable def qf35ct : Ctr := ctrOf qf35I qf35O id id qf35F
noncomputable def qf35E : Env := { tf := tfE, mt := mtE, fn := fun f => bif Nat.beq f 24 then some qf27ct else bif Nat.beq f 70 then some qf7ct else bif Nat.beq f 72 then some qf17ct else bif Nat.beq f 25 then some qf34ct else none }
theorem qf35_env : EnvOk PT qf35E := ⟨tyE, (fun f ct h => by
  simp only [qf35E] at h
  refine envCons (c := qf27ct) h qf27_ctr (fun h => ?_)
  refine envCons (c := qf7ct) h qf7_ctr (fun h => ?_)
  refine envCons (c := qf17ct) h qf17_ctr (fun h => ?_)
  refine envCons (c := qf34ct) h qf34_ctr (fun h => ?_)
  cases h), mapE⟩
noncomputable def qf35C : Code := bodyOf Tryz.f49
theorem qf35_bd (y : (Val (.slice TPage)) × Int) : @Eq (Option ((Val TPage) × (Val THead) × Bool × Int)) (exec qf35E qf0H qf35C (qf35I.mk' (show qf35I.D from y)) (kontF (Z := (Val TPage) × (Val THead) × Bool × Int) qf35E Tryz.f49.results.toList qf35O id)) (qf35F y) := by kernel_rfl
theorem qf35_ctr : CtrOk PT 49 qf35ct :=
  @ctr_ok PT qf35E qf0H qf35_env mixed 49 Tryz.f49 qf35C (by kernel_rfl) (by kernel_rfl) (enters_of (by kernel_rfl : PT.funcs[49]? = some Tryz.f49) (by kernel_rfl) (by kernel_rfl)) qf35I qf35O ((Val (.slice TPage)) × Int) ((Val TPage) × (Val THead) × Bool × Int) id id id id (fun _ => rfl) (fun _ => rfl) (by kernel_rfl) (by kernel_rfl) qf35F qf35_bd (fun _ _ _ _ => noLoops (by kernel_rfl))
noncomputable def qf36L1b (x0 : Val (.slice TPage)) (x1 : Int) (x2 : Int) (x3 : Int) : Option (((Val (.slice TPage)) × Int × Int × Int) ⊕ ((Unit) ⊕ (Int × Bool))) :=
bif (decide (x3 < x2)) then (
bif (!(decide (x2 = (0 : Int)))) then
(qf35 x0 (Int.tmod (IntKind.wrap .i64 (x1 + x3)) x2)).bind fun r1 =>
bif (decide (r1.2.2.2 = (0 : Int))) then (
bif (decide (r1.2.1.1 = (-1 : Int))) then (
some (Sum.inr (Sum.inr ((Int.tmod (IntKind.wrap .i64 (x1 + x3)) x2), true))))
else (
some (Sum.inl (x0, x1, x2, (IntKind.wrap .i64 (x3 + (1 : Int)))))))
else (
some (Sum.inl (x0, x1, x2, (IntKind.wrap .i64 (x3 + (1 : Int))))))
else none)
else (
some (Sum.inr (Sum.inl ())))
noncomputable def qf36L1B : ((Val (.slice TPage)) × Int × Int × Int) → Option (((Val (.slice TPage)) × Int × Int × Int) ⊕ ((Unit) ⊕ (Int × Bool))) := fun y => qf36L1b y.1 y.2.1 y.2.2.1 y.2.2.2
noncomputable def qf36L1 (x0 : Val (.slice TPage)) (x1 : Int) (x2 : Int) (x3 : Int) : Option ((Unit) ⊕ (Int × Bool)) := iter qf36L1B (x0, x1, x2, x3)
noncomputable def qf36 (a0 : Val (.slice TPage)) (a1 : Int) (a2 : Int) : Option (Int × Bool) :=
(qf36L1 a0 a1 a2 (0 : Int)).bind fun r1 =>
match r1 with
| .inl r2 => (
some ((0 : Int), false))
| .inr r3 => (
some r3)
noncomputable def qf36I : Shape := ⟨40, 0, [(0, .dat false (.slice TPage)), (1, .dat false (.int .i64)), (2, .dat false (.int .i64))], [], [], true⟩
noncomputable def qf36O : Shape := ⟨41, 0, [(40, .tup (.cons (.dat true (.int .i64)) (.cons (.dat true .bool) (.nil))))], [], [], true⟩
noncomputable def qf36F : ((Val (.slice TPage)) × Int × Int) → Option (Int × Bool) := fun y => qf36 y.1 y.2.1 y.2.2
noncomputable def qf36ct : Ctr := ctrOf qf36I qf36O id id qf36F
noncomputable def qf36E : Env := { tf := tfE, mt := mtE, fn := fun f => bif Nat.beq f 49 then some qf35ct else none }
theorem qf36_env : EnvOk PT qf36E := ⟨tyE, (fun f ct h => by
  simp only [qf36E] at h
  refine envCons (c := qf35ct) h qf35_ctr (fun h => ?_)
  cases h), mapE⟩
noncomputable def qf36C : Code := bodyOf Tryz.f48
noncomputable def qf36L1C : Code := (loopsOf qf36C).getD 0 .skip
noncomputable def qf36L1S : Shape := ⟨40, 0, [(0, .dat false (.slice TPage)), (1, .dat false (.int .i64)), (2, .dat false (.int .i64)), (8, .dat true (.int .i64))], [], [], true⟩
noncomputable def qf36L1O : List (Ex × Shape) := [(.exit 0, ⟨40, 0, [], [], [], true⟩), (.ret, ⟨40, 0, [(6, .dat true (.int .i64)), (7, .dat true .bool)], [], [], true⟩)]
noncomputable def qf36L1M : Sum := loopSum (Y := (Val (.slice TPage)) × Int × Int × Int) (Z := (Unit) ⊕ (Int × Bool)) qf36L1S qf36L1O id id (iter qf36L1B)
noncomputable def qf36H : Nat → Option Sum := fun n => bif Nat.beq n 2 then some qf36L1M else none
theorem qf36L1_bd (y : (Val (.slice TPage)) × Int × Int × Int) : @Eq (Option (((Val (.slice TPage)) × Int × Int × Int) ⊕ ((Unit) ⊕ (Int × Bool)))) (exec qf36E qf36H qf36L1C (qf36L1S.mk' (show qf36L1S.D from y)) (kont (Y := (Val (.slice TPage)) × Int × Int × Int) (Z := (Unit) ⊕ (Int × Bool)) qf36L1S qf36L1O id id)) (qf36L1B y) := by kernel_rfl
theorem qf36L1_ok {w0 : World} {Jo : Io} (hfix : ∀ i b, Jo.fix i = some b → i ∈ []) (hmay : true = true → Jo.may) : SumOk PT w0 Jo qf36L1M (.loop qf36L1C) :=
  @loop_ok w0 Jo PT qf36E qf36H ((Val (.slice TPage)) × Int × Int × Int) ((Unit) ⊕ (Int × Bool)) qf36_env mixed qf36L1C qf36L1S qf36L1O id id id id (fun _ => rfl) (fun _ => rfl) hfix hmay (by kernel_rfl) (noLoops (by kernel_rfl)) qf36L1B qf36L1_bd
theorem qf36_bd (y : (Val (.slice TPage)) × Int × Int) : @Eq (Option (Int × Bool)) (exec qf36E qf36H qf36C (qf36I.mk' (show qf36I.D from y)) (kontF (Z := Int × Bool) qf36E Tryz.f48.results.toList qf36O id)) (qf36F y) := by kernel_rfl
theorem qf36_lo {w0 : World} {Jo : Io} (hfix : ∀ i b, Jo.fix i = some b → i ∈ []) (hmay : true = true → Jo.may) : LoopsOk PT w0 Jo qf36H qf36C := (loopsMk (by kernel_rfl) (loopsCons (c := qf36L1C) (n := 2) (f := qf36L1M) (by kernel_rfl) (by kernel_rfl) (qf36L1_ok hfix hmay) loopsNil))
theorem qf36_ctr : CtrOk PT 48 qf36ct :=
  @ctr_ok PT qf36E qf36H qf36_env mixed 48 Tryz.f48 qf36C (by kernel_rfl) (by kernel_rfl) (enters_of (by kernel_rfl : PT.funcs[48]? = some Tryz.f48) (by kernel_rfl) (by kernel_rfl)) qf36I qf36O ((Val (.slice TPage)) × Int × Int) (Int × Bool) id id id id (fun _ => rfl) (fun _ => rfl) (by kernel_rfl) (by kernel_rfl) qf36F qf36_bd (fun w0 Jo hfix hmay => qf36_lo hfix hmay)
noncomputable def qf37 (a0 : Val TPtr) : Option Int :=
(qf21 a0).bind fun r1 =>
bif (!r1) then (
some (0 : Int))
else (
some (IntKind.wrap .u32 ((BitVec.ofInt (IntKind.bits .u32) (shiftL .u32 (IntKind.wrap .u32 a0.2.1) (8 : Int)) ||| BitVec.ofInt (IntKind.bits .u32) (IntKind.wrap .u32 a0.1)).toNat : Int)))
noncomputable def qf37I : Shape := ⟨14, 0, [(0, .dat false TPtr)], [], [], true⟩
noncomputable def qf37O : Shape := ⟨15, 0, [(14, .dat true (.int .u32))], [], [], true⟩
noncomputable def qf37F : ((Val TPtr)) → Option Int := fun y => qf37 y
noncomputable def qf37ct : Ctr := ctrOf qf37I qf37O id id qf37F
noncomputable def qf37E : Env := { tf := tfE, mt := mtE, fn := fun f => bif Nat.beq f 78 then some qf21ct else none }
theorem qf37_env : EnvOk PT qf37E := ⟨tyE, (fun f ct h => by
  simp only [qf37E] at h
  refine envCons (c := qf21ct) h qf21_ctr (fun h => ?_)
  cases h), mapE⟩
noncomputable def qf37C : Code := bodyOf Tryz.f106
theorem qf37_bd (y : (Val TPtr)) : @Eq (Option Int) (exec qf37E qf0H qf37C (qf37I.mk' (show qf37I.D from y)) (kontF (Z := Int) qf37E Tryz.f106.results.toList qf37O id)) (qf37F y) := by kernel_rfl
theorem qf37_ctr : CtrOk PT 106 qf37ct :=
  @ctr_ok PT qf37E qf0H qf37_env mixed 106 Tryz.f106 qf37C (by kernel_rfl) (by kernel_rfl) (enters_of (by kernel_rfl : PT.funcs[106]? = some Tryz.f106) (by kernel_rfl) (by kernel_rfl)) qf37I qf37O ((Val TPtr)) Int id id id id (fun _ => rfl) (fun _ => rfl) (by kernel_rfl) (by kernel_rfl) qf37F qf37_bd (fun _ _ _ _ => noLoops (by kernel_rfl))
noncomputable def qf38L1b (x0 : Val (.arr 4 TRet)) (x1 : Int) (x2 : Val TPage) (x3 : Val TPage) : Option (((Val (.arr 4 TRet)) × Int × (Val TPage) × (Val TPage)) ⊕ (((Val TPage) × (Val TPage)) ⊕ (Int × (Val TPage)))) :=
bif (decide (x1 < (4 : Int))) then (
bif (inR x1 4) then
bif (eqV TRet (List.getD x0 (Int.toNat x1) (((0 : Int), (0 : Int), ()), (0 : Int), ())) (((0 : Int), (0 : Int), ()), (0 : Int), ())) then (
some (Sum.inl (x0, (IntKind.wrap .i64 (x1 + (1 : Int))), x2, x3)))
else (
(qf21 (List.getD x0 (Int.toNat x1) (((0 : Int), (0 : Int), ()), (0 : Int), ())).1).bind fun r1 =>
bif r1 then (
(qf37 (List.getD x0 (Int.toNat x1) (((0 : Int), (0 : Int), ()), (0 : Int), ())).1).bind fun r2 =>
bif (inR (IntKind.wrap .i64 ((3 : Int) + x1)) 7) then
some (Sum.inl (x0, (IntKind.wrap .i64 (x1 + (1 : Int))), (x2.1, x2.2.1, (List.set x2.2.2.1 (Int.toNat (IntKind.wrap .i64 ((3 : Int) + x1))) (IntKind.wrap .u64 ((BitVec.ofInt (IntKind.bits .u64) (IntKind.wrap .u64 r2) ||| BitVec.ofInt (IntKind.bits .u64) (shiftL .u64 (IntKind.wrap .u64 (List.getD x0 (Int.toNat x1) (((0 : Int), (0 : Int), ()), (0 : Int), ())).2.1) (32 : Int))).toNat : Int))), x2.2.2.2), x3))
else none)
else (
some (Sum.inr (Sum.inr ((1 : Int), (0 : Int), (0 : Int), (List.replicate 7 (0 : Int)), ())))))
else none)
else (
some (Sum.inr (Sum.inl (x2, x3))))
noncomputable def qf38L1B : ((Val (.arr 4 TRet)) × Int × (Val TPage) × (Val TPage)) → Option (((Val (.arr 4 TRet)) × Int × (Val TPage) × (Val TPage)) ⊕ (((Val TPage) × (Val TPage)) ⊕ (Int × (Val TPage)))) := fun y => qf38L1b y.1 y.2.1 y.2.2.1 y.2.2.2
noncomputable def qf38L1 (x0 : Val (.arr 4 TRet)) (x1 : Int) (x2 : Val TPage) (x3 : Val TPage) : Option (((Val TPage) × (Val TPage)) ⊕ (Int × (Val TPage))) := iter qf38L1B (x0, x1, x2, x3)
noncomputable def qf38 (a0 : Val TPage) (a1 : Val TNode) : Option ((Val TPage) × Int) :=
(qf18 a0.1).bind fun r1 =>
bif (!r1) then (
some (((0 : Int), (0 : Int), (List.replicate 7 (0 : Int)), ()), (1 : Int)))
else (
bif (!a1.1) then (
bif (!(decide (a1.2.1 = (0 : Int)))) then (
some (((0 : Int), (0 : Int), (List.replicate 7 (0 : Int)), ()), (1 : Int)))
else (
bif (decide ((512 : Int) ≤ a1.2.2.1)) then (
some (((0 : Int), (0 : Int), (List.replicate 7 (0 : Int)), ()), (1 : Int)))
else (
bif (decide (a1.2.2.2.1 < (0 : Int))) then (
some (((0 : Int), (0 : Int), (List.replicate 7 (0 : Int)), ()), (1 : Int)))
else (
bif (decide ((59 : Int) < a1.2.2.2.1)) then (
some (((0 : Int), (0 : Int), (List.replicate 7 (0 : Int)), ()), (1 : Int)))
else (
bif a1.1 then (
(qf38L1 a1.2.2.2.2.1 (0 : Int) (a0.1, a0.2.1, (List.set [(0 : Int), (IntKind.wrap .u64 a1.2.2.1), (IntKind.wrap .u64 a1.2.2.2.1), (0 : Int), (0 : Int), (0 : Int), (0 : Int)] 0 (IntKind.wrap .u64 ((IntKind.wrap .u64 a1.2.1) + (1 : Int)))), a0.2.2.2) ((0 : Int), (0 : Int), (List.replicate 7 (0 : Int)), ())).bind fun r2 =>
match r2 with
| .inl r3 => (
some (r3.1, (0 : Int)))
| .inr r4 => (
some (r4.2, r4.1)))
else (
(qf38L1 a1.2.2.2.2.1 (0 : Int) (a0.1, a0.2.1, [(0 : Int), (IntKind.wrap .u64 a1.2.2.1), (IntKind.wrap .u64 a1.2.2.2.1), (0 : Int), (0 : Int), (0 : Int), (0 : Int)], a0.2.2.2) ((0 : Int), (0 : Int), (List.replicate 7 (0 : Int)), ())).bind fun r5 =>
match r5 with
| .inl r6 => (
some (r6.1, (0 : Int)))
| .inr r7 => (
some (r7.2, r7.1))))))))
else (
bif (decide ((512 : Int) ≤ a1.2.2.1)) then (
some (((0 : Int), (0 : Int), (List.replicate 7 (0 : Int)), ()), (1 : Int)))
else (
bif (decide (a1.2.2.2.1 < (0 : Int))) then (
some (((0 : Int), (0 : Int), (List.replicate 7 (0 : Int)), ()), (1 : Int)))
else (
bif (decide ((59 : Int) < a1.2.2.2.1)) then (
some (((0 : Int), (0 : Int), (List.replicate 7 (0 : Int)), ()), (1 : Int)))
else (
bif a1.1 then (
(qf38L1 a1.2.2.2.2.1 (0 : Int) (a0.1, a0.2.1, (List.set [(0 : Int), (IntKind.wrap .u64 a1.2.2.1), (IntKind.wrap .u64 a1.2.2.2.1), (0 : Int), (0 : Int), (0 : Int), (0 : Int)] 0 (IntKind.wrap .u64 ((IntKind.wrap .u64 a1.2.1) + (1 : Int)))), a0.2.2.2) ((0 : Int), (0 : Int), (List.replicate 7 (0 : Int)), ())).bind fun r8 =>
match r8 with
| .inl r9 => (
some (r9.1, (0 : Int)))
| .inr r10 => (
some (r10.2, r10.1)))
else (
(qf38L1 a1.2.2.2.2.1 (0 : Int) (a0.1, a0.2.1, [(0 : Int), (IntKind.wrap .u64 a1.2.2.1), (IntKind.wrap .u64 a1.2.2.2.1), (0 : Int), (0 : Int), (0 : Int), (0 : Int)], a0.2.2.2) ((0 : Int), (0 : Int), (List.replicate 7 (0 : Int)), ())).bind fun r11 =>
match r11 with
| .inl r12 => (
some (r12.1, (0 : Int)))
| .inr r13 => (
some (r13.2, r13.1))))))))
abbrev qf38L1Y : Type := (Val (.arr 4 TRet)) × Int × (Val TPage) × (Val TPage)
abbrev qf38L1Z : Type := ((Val TPage) × (Val TPage)) ⊕ (Int × (Val TPage))
noncomputable def qf38I : Shape := ⟨84, 0, [(0, .dat false TPage), (1, .dat false TNode)], [], [], true⟩
noncomputable def qf38O : Shape := ⟨85, 0, [(84, .tup (.cons (.dat false TPage) (.cons (.dat true (.int .i64)) (.nil))))], [], [], true⟩
noncomputable def qf38F : ((Val TPage) × (Val TNode)) → Option ((Val TPage) × Int) := fun y => qf38 y.1 y.2
noncomputable def qf38ct : Ctr := ctrOf qf38I qf38O id id qf38F
noncomputable def qf38E : Env := { tf := tfE, mt := mtE, fn := fun f => bif Nat.beq f 65 then some qf18ct else bif Nat.beq f 78 then some qf21ct else bif Nat.beq f 106 then some qf37ct else none }
theorem qf38_env : EnvOk PT qf38E := ⟨tyE, (fun f ct h => by
  simp only [qf38E] at h
  refine envCons (c := qf18ct) h qf18_ctr (fun h => ?_)
  refine envCons (c := qf21ct) h qf21_ctr (fun h => ?_)
  refine envCons (c := qf37ct) h qf37_ctr (fun h => ?_)
  cases h), mapE⟩
noncomputable def qf38C : Code := bodyOf Tryz.f50
noncomputable def qf38L1C : Code := (loopsOf qf38C).getD 0 .skip
noncomputable def qf38L1S : Shape := ⟨84, 2, [(2, .ref 0 []), (4, .ref 1 []), (55, .dat false (.arr 4 TRet)), (56, .dat true (.int .i64))], [(0, .box TPage (.dat false TPage)), (1, .box TPage (.dat true TPage))], [], true⟩
noncomputable def qf38L1O : List (Ex × Shape) := [(.exit 0, ⟨84, 2, [(2, .ref 0 []), (4, .ref 1 [])], [(0, .box TPage (.dat false TPage)), (1, .box TPage (.dat true TPage))], [], true⟩), (.ret, ⟨84, 1, [(4, .ref 0 []), (5, .dat true (.int .i64))], [(0, .box TPage (.dat true TPage))], [], true⟩)]
noncomputable def qf38L1M : Sum := loopSum (Y := qf38L1Y) (Z := qf38L1Z) qf38L1S qf38L1O id id (iter qf38L1B)
noncomputable def qf38H : Nat → Option Sum := fun n => bif Nat.beq n 7 then some qf38L1M else none
theorem qf38L1_bd (y : qf38L1Y) : @Eq (Option (qf38L1Y ⊕ qf38L1Z)) (exec qf38E qf38H qf38L1C (qf38L1S.mk' (show qf38L1S.D from y)) (kont (Y := qf38L1Y) (Z := qf38L1Z) qf38L1S qf38L1O id id)) (qf38L1B y) := by kernel_rfl
theorem qf38L1_ok {w0 : World} {Jo : Io} (hfix : ∀ i b, Jo.fix i = some b → i ∈ []) (hmay : true = true → Jo.may) : SumOk PT w0 Jo qf38L1M (.loop qf38L1C) :=
  @loop_ok w0 Jo PT qf38E qf38H qf38L1Y qf38L1Z qf38_env mixed qf38L1C qf38L1S qf38L1O id id id id (fun _ => rfl) (fun _ => rfl) hfix hmay (by kernel_rfl) (noLoops (by kernel_rfl)) qf38L1B qf38L1_bd
theorem qf38_bd (y : (Val TPage) × (Val TNode)) : @Eq (Option ((Val TPage) × Int)) (exec qf38E qf38H qf38C (qf38I.mk' (show qf38I.D from y)) (kontF (Z := (Val TPage) × Int) qf38E Tryz.f50.results.toList qf38O id)) (qf38F y) := by kernel_rfl
theorem qf38_lo {w0 : World} {Jo : Io} (hfix : ∀ i b, Jo.fix i = some b → i ∈ []) (hmay : true = true → Jo.may) : LoopsOk PT w0 Jo qf38H qf38C := (loopsMk (by kernel_rfl) (loopsCons (c := qf38L1C) (n := 7) (f := qf38L1M) (by kernel_rfl) (by kernel_rfl) (qf38L1_ok hfix hmay) loopsNil))
theorem qf38_ctr : CtrOk PT 50 qf38ct :=
  @ctr_ok PT qf38E qf38H qf38_env mixed 50 Tryz.f50 qf38C (by kernel_rfl) (by kernel_rfl) (enters_of (by kernel_rfl : PT.funcs[50]? = some Tryz.f50) (by kernel_rfl) (by kernel_rfl)) qf38I qf38O ((Val TPage) × (Val TNode)) ((Val TPage) × Int) id id id id (fun _ => rfl) (fun _ => rfl) (by kernel_rfl) (by kernel_rfl) qf38F qf38_bd (fun w0 Jo hfix hmay => qf38_lo hfix hmay)
noncomputable def qf39 (a0 : Val TPage) (a1 : Val THead) : Option ((Val TPage) × Int) :=
(qf29 a0.1).bind fun r1 =>
bif (!r1) then (
some (((0 : Int), (0 : Int), (List.replicate 7 (0 : Int)), ()), (1 : Int)))
else (
bif (decide (a1.1 < (-1 : Int))) then (
some (((0 : Int), (0 : Int), (List.replicate 7 (0 : Int)), ()), (1 : Int)))
else (
bif (decide ((6 : Int) ≤ a1.1)) then (
some (((0 : Int), (0 : Int), (List.replicate 7 (0 : Int)), ()), (1 : Int)))
else (
bif (!(decide ((IntKind.wrap .u32 ((BitVec.ofInt (IntKind.bits .u32) a1.2.1 &&& ~~~ BitVec.ofInt (IntKind.bits .u32) (65534 : Int)).toNat : Int)) = (0 : Int)))) then (
some (((0 : Int), (0 : Int), (List.replicate 7 (0 : Int)), ()), (1 : Int)))
else (
some ((a0.1, a0.2.1, [(IntKind.wrap .u64 (IntKind.wrap .i64 (a1.1 + (1 : Int)))), (IntKind.wrap .u64 a1.2.1), (0 : Int), (0 : Int), (0 : Int), (0 : Int), (0 : Int)], a0.2.2.2), (0 : Int))))))
noncomputable def qf39I : Shape := ⟨37, 0, [(0, .dat false TPage), (1, .dat false THead)], [], [], true⟩
noncomputable def qf39O : Shape := ⟨38, 0, [(37, .tup (.cons (.dat false TPage) (.cons (.dat true (.int .i64)) (.nil))))], [], [], true⟩
noncomputable def qf39F : ((Val TPage) × (Val THead)) → Option ((Val TPage) × Int) := fun y => qf39 y.1 y.2
noncomputable def qf39ct : Ctr := ctrOf qf39I qf39O id id qf39F
noncomputable def qf39E : Env := { tf := tfE, mt := mtE, fn := fun f => bif Nat.beq f 67 then some qf29ct else none }
theorem qf39_env : EnvOk PT qf39E := ⟨tyE, (fun f ct h => by
  simp only [qf39E] at h
  refine envCons (c := qf29ct) h qf29_ctr (fun h => ?_)
  cases h), mapE⟩
noncomputable def qf39C : Code := bodyOf Tryz.f51
theorem qf39_bd (y : (Val TPage) × (Val THead)) : @Eq (Option ((Val TPage) × Int)) (exec qf39E qf0H qf39C (qf39I.mk' (show qf39I.D from y)) (kontF (Z := (Val TPage) × Int) qf39E Tryz.f51.results.toList qf39O id)) (qf39F y) := by kernel_rfl
theorem qf39_ctr : CtrOk PT 51 qf39ct :=
  @ctr_ok PT qf39E qf0H qf39_env mixed 51 Tryz.f51 qf39C (by kernel_rfl) (by kernel_rfl) (enters_of (by kernel_rfl : PT.funcs[51]? = some Tryz.f51) (by kernel_rfl) (by kernel_rfl)) qf39I qf39O ((Val TPage) × (Val THead)) ((Val TPage) × Int) id id id id (fun _ => rfl) (fun _ => rfl) (by kernel_rfl) (by kernel_rfl) qf39F qf39_bd (fun _ _ _ _ => noLoops (by kernel_rfl))
noncomputable def qf40 (a0 : Int) (a1 : Int) : Option Int :=
(qf10 a0).bind fun r1 =>
(qf10 a1).bind fun r2 =>
bif r1 then (
bif r2 then (
some (0 : Int))
else (
some (-1 : Int)))
else (
bif r2 then (
some (1 : Int))
else (
bif (decide (a0 < a1)) then (
some (-1 : Int))
else (
bif (decide (a1 < a0)) then (
some (1 : Int))
else (
some (0 : Int)))))
noncomputable def qf40I : Shape := ⟨20, 0, [(0, .dat false (.int .i64)), (1, .dat false (.int .i64))], [], [], true⟩
noncomputable def qf40O : Shape := ⟨21, 0, [(20, .dat true (.int .i64))], [], [], true⟩
noncomputable def qf40F : (Int × Int) → Option Int := fun y => qf40 y.1 y.2
noncomputable def qf40ct : Ctr := ctrOf qf40I qf40O id id qf40F
noncomputable def qf40E : Env := { tf := tfE, mt := mtE, fn := fun f => bif Nat.beq f 140 then some qf10ct else none }
theorem qf40_env : EnvOk PT qf40E := ⟨tyE, (fun f ct h => by
  simp only [qf40E] at h
  refine envCons (c := qf10ct) h qf10_ctr (fun h => ?_)
  cases h), mapE⟩
noncomputable def qf40C : Code := bodyOf Tryz.f91
theorem qf40_bd (y : Int × Int) : @Eq (Option Int) (exec qf40E qf0H qf40C (qf40I.mk' (show qf40I.D from y)) (kontF (Z := Int) qf40E Tryz.f91.results.toList qf40O id)) (qf40F y) := by kernel_rfl
theorem qf40_ctr : CtrOk PT 91 qf40ct :=
  @ctr_ok PT qf40E qf0H qf40_env mixed 91 Tryz.f91 qf40C (by kernel_rfl) (by kernel_rfl) (enters_of (by kernel_rfl : PT.funcs[91]? = some Tryz.f91) (by kernel_rfl) (by kernel_rfl)) qf40I qf40O (Int × Int) Int id id id id (fun _ => rfl) (fun _ => rfl) (by kernel_rfl) (by kernel_rfl) qf40F qf40_bd (fun _ _ _ _ => noLoops (by kernel_rfl))
noncomputable def qf41 (a0 : Val TPage) (a1 : Val TPage) : Option Int :=
(qf40 a0.1 a1.1).bind fun r1 =>
some r1
noncomputable def qf41I : Shape := ⟨10, 0, [(0, .dat false TPage), (1, .dat false TPage)], [], [], true⟩
noncomputable def qf41O : Shape := ⟨11, 0, [(10, .dat true (.int .i64))], [], [], true⟩
noncomputable def qf41F : ((Val TPage) × (Val TPage)) → Option Int := fun y => qf41 y.1 y.2
noncomputable def qf41ct : Ctr := ctrOf qf41I qf41O id id qf41F
noncomputable def qf41E : Env := { tf := tfE, mt := mtE, fn := fun f => bif Nat.beq f 91 then some qf40ct else none }
theorem qf41_env : EnvOk PT qf41E := ⟨tyE, (fun f ct h => by
  simp only [qf41E] at h
  refine envCons (c := qf40ct) h qf40_ctr (fun h => ?_)
  cases h), mapE⟩
noncomputable def qf41C : Code := bodyOf Tryz.f108
theorem qf41_bd (y : (Val TPage) × (Val TPage)) : @Eq (Option Int) (exec qf41E qf0H qf41C (qf41I.mk' (show qf41I.D from y)) (kontF (Z := Int) qf41E Tryz.f108.results.toList qf41O id)) (qf41F y) := by kernel_rfl
theorem qf41_ctr : CtrOk PT 108 qf41ct :=
  @ctr_ok PT qf41E qf0H qf41_env mixed 108 Tryz.f108 qf41C (by kernel_rfl) (by kernel_rfl) (enters_of (by kernel_rfl : PT.funcs[108]? = some Tryz.f108) (by kernel_rfl) (by kernel_rfl)) qf41I qf41O ((Val TPage) × (Val TPage)) Int id id id id (fun _ => rfl) (fun _ => rfl) (by kernel_rfl) (by kernel_rfl) qf41F qf41_bd (fun _ _ _ _ => noLoops (by kernel_rfl))
noncomputable def qf42L1b (x0 : Int) (x1 : Int) (x2 : Int) (x3 : Int) (x4 : Val (.slice TPage)) : Option ((Int × Int × Int × Int × (Val (.slice TPage))) ⊕ (Int × Int × Int × (Val (.slice TPage)))) :=
bif (decide (x0 < x3)) then (
bif (inR x3 (List.length x4)) then
bif (inR (IntKind.wrap .i64 (x3 - (1 : Int))) (List.length x4)) then
(qf41 (List.getD x4 (Int.toNat x3) ((0 : Int), (0 : Int), (List.replicate 7 (0 : Int)), ())) (List.getD x4 (Int.toNat (IntKind.wrap .i64 (x3 - (1 : Int)))) ((0 : Int), (0 : Int), (List.replicate 7 (0 : Int)), ()))).bind fun r1 =>
bif (decide (r1 < (0 : Int))) then (
bif (inR (IntKind.wrap .i64 (x3 - (1 : Int))) (List.length x4)) then
bif (inR x3 (List.length x4)) then
bif (inR x3 (List.length x4)) then
bif (inR (IntKind.wrap .i64 (x3 - (1 : Int))) (List.length (List.set x4 (Int.toNat x3) (List.getD x4 (Int.toNat (IntKind.wrap .i64 (x3 - (1 : Int)))) ((0 : Int), (0 : Int), (List.replicate 7 (0 : Int)), ()))))) then
some (Sum.inl (x0, x1, x2, (IntKind.wrap .i64 (x3 - (1 : Int))), (List.set (List.set x4 (Int.toNat x3) (List.getD x4 (Int.toNat (IntKind.wrap .i64 (x3 - (1 : Int)))) ((0 : Int), (0 : Int), (List.replicate 7 (0 : Int)), ()))) (Int.toNat (IntKind.wrap .i64 (x3 - (1 : Int)))) (List.getD x4 (Int.toNat x3) ((0 : Int), (0 : Int), (List.replicate 7 (0 : Int)), ())))))
else none
else none
else none
else none)
else (
some (Sum.inr (x0, x1, x2, x4)))
else none
else none)
else (
some (Sum.inr (x0, x1, x2, x4)))
noncomputable def qf42L1B : (Int × Int × Int × Int × (Val (.slice TPage))) → Option ((Int × Int × Int × Int × (Val (.slice TPage))) ⊕ (Int × Int × Int × (Val (.slice TPage)))) := fun y => qf42L1b y.1 y.2.1 y.2.2.1 y.2.2.2.1 y.2.2.2.2
noncomputable def qf42L1 (x0 : Int) (x1 : Int) (x2 : Int) (x3 : Int) (x4 : Val (.slice TPage)) : Option (Int × Int × Int × (Val (.slice TPage))) := iter qf42L1B (x0, x1, x2, x3, x4)
noncomputable def qf42L2b (x0 : Int) (x1 : Int) (x2 : Int) (x3 : Val (.slice TPage)) : Option ((Int × Int × Int × (Val (.slice TPage))) ⊕ ((Val (.slice TPage)))) :=
bif (decide (x2 < x1)) then (
(qf42L1 x0 x1 x2 x2 x3).bind fun r1 =>
some (Sum.inl (r1.1, r1.2.1, (IntKind.wrap .i64 (r1.2.2.1 + (1 : Int))), r1.2.2.2)))
else (
some (Sum.inr x3))
noncomputable def qf42L2B : (Int × Int × Int × (Val (.slice TPage))) → Option ((Int × Int × Int × (Val (.slice TPage))) ⊕ ((Val (.slice TPage)))) := fun y => qf42L2b y.1 y.2.1 y.2.2.1 y.2.2.2
noncomputable def qf42L2 (x0 : Int) (x1 : Int) (x2 : Int) (x3 : Val (.slice TPage)) : Option ((Val (.slice TPage))) := iter qf42L2B (x0, x1, x2, x3)
noncomputable def qf42 (a0 : Int) (a1 : Int) (a2 : Val (.slice TPage)) : Option ((Val (.slice TPage))) :=
(qf42L2 a0 a1 (IntKind.wrap .i64 (a0 + (1 : Int))) a2).bind fun r1 =>
some r1
abbrev qf42L1Y : Type := Int × Int × Int × Int × (Val (.slice TPage))
noncomputable def qf42I : Shape := ⟨53, 1, [(0, .own TPage 0), (1, .dat false (.int .i64)), (2, .dat false (.int .i64)), (3, .fn 108 (.nil))], [(0, .slc false TPage)], [0], false⟩
noncomputable def qf42O : Shape := ⟨54, 1, [(53, .tup (.nil))], [(0, .slc false TPage)], [0], false⟩
noncomputable def qf42F : (Int × Int × (Val (.slice TPage))) → Option ((Val (.slice TPage))) := fun y => qf42 y.1 y.2.1 y.2.2
noncomputable def qf42ct : Ctr := ctrOf qf42I qf42O id id qf42F
noncomputable def qf42E : Env := { tf := tfE, mt := mtE, fn := fun f => bif Nat.beq f 108 then some qf41ct else none }
theorem qf42_env : EnvOk PT qf42E := ⟨tyE, (fun f ct h => by
  simp only [qf42E] at h
  refine envCons (c := qf41ct) h qf41_ctr (fun h => ?_)
  cases h), mapE⟩
noncomputable def qf42C : Code := bodyOf Tryz.f154
noncomputable def qf42L2C : Code := (loopsOf qf42C).getD 0 .skip
noncomputable def qf42L1C : Code := (loopsOf qf42C).getD 1 .skip
noncomputable def qf42L1S : Shape := ⟨53, 1, [(0, .own TPage 0), (1, .dat false (.int .i64)), (2, .dat false (.int .i64)), (3, .fn 108 (.nil)), (8, .dat true (.int .i64)), (9, .dat true (.int .i64))], [(0, .slc false TPage)], [0], false⟩
noncomputable def qf42L1O : List (Ex × Shape) := [(.exit 2, ⟨53, 1, [(0, .own TPage 0), (1, .dat false (.int .i64)), (2, .dat false (.int .i64)), (3, .fn 108 (.nil)), (8, .dat true (.int .i64))], [(0, .slc false TPage)], [0], false⟩)]
noncomputable def qf42L1M : Sum := loopSum (Y := qf42L1Y) (Z := Int × Int × Int × (Val (.slice TPage))) qf42L1S qf42L1O id id (iter qf42L1B)
noncomputable def qf42L2S : Shape := ⟨53, 1, [(0, .own TPage 0), (1, .dat false (.int .i64)), (2, .dat false (.int .i64)), (3, .fn 108 (.nil)), (8, .dat true (.int .i64))], [(0, .slc false TPage)], [0], false⟩
noncomputable def qf42L2O : List (Ex × Shape) := [(.exit 0, ⟨53, 1, [], [(0, .slc false TPage)], [0], false⟩)]
noncomputable def qf42L2M : Sum := loopSum (Y := Int × Int × Int × (Val (.slice TPage))) (Z := (Val (.slice TPage))) qf42L2S qf42L2O id id (iter qf42L2B)
noncomputable def qf42H : Nat → Option Sum := fun n => bif Nat.beq n 4 then some qf42L1M else bif Nat.beq n 1 then some qf42L2M else none
theorem qf42L1_bd (y : qf42L1Y) : @Eq (Option (qf42L1Y ⊕ (Int × Int × Int × (Val (.slice TPage))))) (exec qf42E qf42H qf42L1C (qf42L1S.mk' (show qf42L1S.D from y)) (kont (Y := qf42L1Y) (Z := Int × Int × Int × (Val (.slice TPage))) qf42L1S qf42L1O id id)) (qf42L1B y) := by kernel_rfl
theorem qf42L1_ok {w0 : World} {Jo : Io} (hfix : ∀ i b, Jo.fix i = some b → i ∈ [0]) (hmay : false = true → Jo.may) : SumOk PT w0 Jo qf42L1M (.loop qf42L1C) :=
  @loop_ok w0 Jo PT qf42E qf42H qf42L1Y (Int × Int × Int × (Val (.slice TPage))) qf42_env mixed qf42L1C qf42L1S qf42L1O id id id id (fun _ => rfl) (fun _ => rfl) hfix hmay (by kernel_rfl) (noLoops (by kernel_rfl)) qf42L1B qf42L1_bd
theorem qf42L2_bd (y : Int × Int × Int × (Val (.slice TPage))) : @Eq (Option ((Int × Int × Int × (Val (.slice TPage))) ⊕ ((Val (.slice TPage))))) (exec qf42E qf42H qf42L2C (qf42L2S.mk' (show qf42L2S.D from y)) (kont (Y := Int × Int × Int × (Val (.slice TPage))) (Z := (Val (.slice TPage))) qf42L2S qf42L2O id id)) (qf42L2B y) := by kernel_rfl
theorem qf42L2_ok {w0 : World} {Jo : Io} (hfix : ∀ i b, Jo.fix i = some b → i ∈ [0]) (hmay : false = true → Jo.may) : SumOk PT w0 Jo qf42L2M (.loop qf42L2C) :=
  @loop_ok w0 Jo PT qf42E qf42H (Int × Int × Int × (Val (.slice TPage))) ((Val (.slice TPage))) qf42_env mixed qf42L2C qf42L2S qf42L2O id id id id (fun _ => rfl) (fun _ => rfl) hfix hmay (by kernel_rfl) (loopsMk (by kernel_rfl) (loopsCons (c := qf42L1C) (n := 4) (f := qf42L1M) (by kernel_rfl) (by kernel_rfl) (qf42L1_ok hfix hmay) loopsNil)) qf42L2B qf42L2_bd
theorem qf42_bd (y : Int × Int × (Val (.slice TPage))) : @Eq (Option ((Val (.slice TPage)))) (exec qf42E qf42H qf42C (qf42I.mk' (show qf42I.D from y)) (kontF (Z := (Val (.slice TPage))) qf42E Tryz.f154.results.toList qf42O id)) (qf42F y) := by kernel_rfl
theorem qf42_lo {w0 : World} {Jo : Io} (hfix : ∀ i b, Jo.fix i = some b → i ∈ [0]) (hmay : false = true → Jo.may) : LoopsOk PT w0 Jo qf42H qf42C := (loopsMk (by kernel_rfl) (loopsCons (c := qf42L2C) (n := 1) (f := qf42L2M) (by kernel_rfl) (by kernel_rfl) (qf42L2_ok hfix hmay) (loopsCons (c := qf42L1C) (n := 4) (f := qf42L1M) (by kernel_rfl) (by kernel_rfl) (qf42L1_ok hfix hmay) loopsNil)))
theorem qf42_ctr : CtrOk PT 154 qf42ct :=
  @ctr_ok PT qf42E qf42H qf42_env mixed 154 Tryz.f154 qf42C (by kernel_rfl) (by kernel_rfl) (enters_of (by kernel_rfl : PT.funcs[154]? = some Tryz.f154) (by kernel_rfl) (by kernel_rfl)) qf42I qf42O (Int × Int × (Val (.slice TPage))) ((Val (.slice TPage))) id id id id (fun _ => rfl) (fun _ => rfl) (by kernel_rfl) (by kernel_rfl) qf42F qf42_bd (fun w0 Jo hfix hmay => qf42_lo hfix hmay)
noncomputable def qf43L1b (x0 : Int) (x1 : Int) (x2 : Int) (x3 : Int) (x4 : Val (.slice TPage)) : Option ((Int × Int × Int × Int × (Val (.slice TPage))) ⊕ ((Val (.slice TPage)))) :=
bif (decide (x3 < x2)) then (
bif (inR (IntKind.wrap .i64 (x1 + x3)) (List.length x4)) then
bif (inR (IntKind.wrap .i64 (x0 + x3)) (List.length x4)) then
bif (inR (IntKind.wrap .i64 (x0 + x3)) (List.length x4)) then
bif (inR (IntKind.wrap .i64 (x1 + x3)) (List.length (List.set x4 (Int.toNat (IntKind.wrap .i64 (x0 + x3))) (List.getD x4 (Int.toNat (IntKind.wrap .i64 (x1 + x3))) ((0 : Int), (0 : Int), (List.replicate 7 (0 : Int)), ()))))) then
some (Sum.inl (x0, x1, x2, (IntKind.wrap .i64 (x3 + (1 : Int))), (List.set (List.set x4 (Int.toNat (IntKind.wrap .i64 (x0 + x3))) (List.getD x4 (Int.toNat (IntKind.wrap .i64 (x1 + x3))) ((0 : Int), (0 : Int), (List.replicate 7 (0 : Int)), ()))) (Int.toNat (IntKind.wrap .i64 (x1 + x3))) (List.getD x4 (Int.toNat (IntKind.wrap .i64 (x0 + x3))) ((0 : Int), (0 : Int), (List.replicate 7 (0 : Int)), ())))))
else none
else none
else none
else none)
else (
some (Sum.inr x4))
noncomputable def qf43L1B : (Int × Int × Int × Int × (Val (.slice TPage))) → Option ((Int × Int × Int × Int × (Val (.slice TPage))) ⊕ ((Val (.slice TPage)))) := fun y => qf43L1b y.1 y.2.1 y.2.2.1 y.2.2.2.1 y.2.2.2.2
noncomputable def qf43L1 (x0 : Int) (x1 : Int) (x2 : Int) (x3 : Int) (x4 : Val (.slice TPage)) : Option ((Val (.slice TPage))) := iter qf43L1B (x0, x1, x2, x3, x4)
noncomputable def qf43 (a0 : Int) (a1 : Int) (a2 : Int) (a3 : Val (.slice TPage)) : Option ((Val (.slice TPage))) :=
(qf43L1 a0 a1 a2 (0 : Int) a3).bind fun r1 =>
some r1
abbrev qf43L1Y : Type := Int × Int × Int × Int × (Val (.slice TPage))
noncomputable def qf43I : Shape := ⟨38, 1, [(0, .own TPage 0), (1, .dat false (.int .i64)), (2, .dat false (.int .i64)), (3, .dat false (.int .i64)), (4, .fn 108 (.nil))], [(0, .slc false TPage)], [0], false⟩
noncomputable def qf43O : Shape := ⟨39, 1, [(38, .tup (.nil))], [(0, .slc false TPage)], [0], false⟩
noncomputable def qf43F : (Int × Int × Int × (Val (.slice TPage))) → Option ((Val (.slice TPage))) := fun y => qf43 y.1 y.2.1 y.2.2.1 y.2.2.2
noncomputable def qf43ct : Ctr := ctrOf qf43I qf43O id id qf43F
noncomputable def qf43E : Env := { tf := tfE, mt := mtE, fn := fun f => none }
theorem qf43_env : EnvOk PT qf43E := ⟨tyE, (fun f ct h => by
  simp only [qf43E] at h
  cases h), mapE⟩
noncomputable def qf43C : Code := bodyOf Tryz.f222
noncomputable def qf43L1C : Code := (loopsOf qf43C).getD 0 .skip
noncomputable def qf43L1S : Shape := ⟨38, 1, [(0, .own TPage 0), (1, .dat false (.int .i64)), (2, .dat false (.int .i64)), (3, .dat false (.int .i64)), (10, .dat true (.int .i64))], [(0, .slc false TPage)], [0], false⟩
noncomputable def qf43L1O : List (Ex × Shape) := [(.exit 0, ⟨38, 1, [], [(0, .slc false TPage)], [0], false⟩)]
noncomputable def qf43L1M : Sum := loopSum (Y := qf43L1Y) (Z := (Val (.slice TPage))) qf43L1S qf43L1O id id (iter qf43L1B)
noncomputable def qf43H : Nat → Option Sum := fun n => bif Nat.beq n 1 then some qf43L1M else none
theorem qf43L1_bd (y : qf43L1Y) : @Eq (Option (qf43L1Y ⊕ ((Val (.slice TPage))))) (exec qf43E qf43H qf43L1C (qf43L1S.mk' (show qf43L1S.D from y)) (kont (Y := qf43L1Y) (Z := (Val (.slice TPage))) qf43L1S qf43L1O id id)) (qf43L1B y) := by kernel_rfl
theorem qf43L1_ok {w0 : World} {Jo : Io} (hfix : ∀ i b, Jo.fix i = some b → i ∈ [0]) (hmay : false = true → Jo.may) : SumOk PT w0 Jo qf43L1M (.loop qf43L1C) :=
  @loop_ok w0 Jo PT qf43E qf43H qf43L1Y ((Val (.slice TPage))) qf43_env mixed qf43L1C qf43L1S qf43L1O id id id id (fun _ => rfl) (fun _ => rfl) hfix hmay (by kernel_rfl) (noLoops (by kernel_rfl)) qf43L1B qf43L1_bd
theorem qf43_bd (y : Int × Int × Int × (Val (.slice TPage))) : @Eq (Option ((Val (.slice TPage)))) (exec qf43E qf43H qf43C (qf43I.mk' (show qf43I.D from y)) (kontF (Z := (Val (.slice TPage))) qf43E Tryz.f222.results.toList qf43O id)) (qf43F y) := by kernel_rfl
theorem qf43_lo {w0 : World} {Jo : Io} (hfix : ∀ i b, Jo.fix i = some b → i ∈ [0]) (hmay : false = true → Jo.may) : LoopsOk PT w0 Jo qf43H qf43C := (loopsMk (by kernel_rfl) (loopsCons (c := qf43L1C) (n := 1) (f := qf43L1M) (by kernel_rfl) (by kernel_rfl) (qf43L1_ok hfix hmay) loopsNil))
theorem qf43_ctr : CtrOk PT 222 qf43ct :=
  @ctr_ok PT qf43E qf43H qf43_env mixed 222 Tryz.f222 qf43C (by kernel_rfl) (by kernel_rfl) (enters_of (by kernel_rfl : PT.funcs[222]? = some Tryz.f222) (by kernel_rfl) (by kernel_rfl)) qf43I qf43O (Int × Int × Int × (Val (.slice TPage))) ((Val (.slice TPage))) id id id id (fun _ => rfl) (fun _ => rfl) (by kernel_rfl) (by kernel_rfl) qf43F qf43_bd (fun w0 Jo hfix hmay => qf43_lo hfix hmay)
noncomputable def qf44L1b (x0 : Int) (x1 : Int) (x2 : Int) (x3 : Val (.slice TPage)) : Option ((Int × Int × Int × (Val (.slice TPage))) ⊕ (Int × Int × (Val (.slice TPage)))) :=
bif (!(decide (x1 = x2))) then (
bif (decide (x2 < x1)) then (
(qf43 (IntKind.wrap .i64 (x0 - x1)) x0 x2 x3).bind fun r1 =>
some (Sum.inl (x0, (IntKind.wrap .i64 (x1 - x2)), x2, r1)))
else (
(qf43 (IntKind.wrap .i64 (x0 - x1)) (IntKind.wrap .i64 ((IntKind.wrap .i64 (x0 + x2)) - x1)) x1 x3).bind fun r2 =>
some (Sum.inl (x0, x1, (IntKind.wrap .i64 (x2 - x1)), r2))))
else (
some (Sum.inr (x0, x1, x3)))
noncomputable def qf44L1B : (Int × Int × Int × (Val (.slice TPage))) → Option ((Int × Int × Int × (Val (.slice TPage))) ⊕ (Int × Int × (Val (.slice TPage)))) := fun y => qf44L1b y.1 y.2.1 y.2.2.1 y.2.2.2
noncomputable def qf44L1 (x0 : Int) (x1 : Int) (x2 : Int) (x3 : Val (.slice TPage)) : Option (Int × Int × (Val (.slice TPage))) := iter qf44L1B (x0, x1, x2, x3)
noncomputable def qf44 (a0 : Int) (a1 : Int) (a2 : Int) (a3 : Val (.slice TPage)) : Option ((Val (.slice TPage))) :=
(qf44L1 a1 (IntKind.wrap .i64 (a1 - a0)) (IntKind.wrap .i64 (a2 - a1)) a3).bind fun r1 =>
(qf43 (IntKind.wrap .i64 (r1.1 - r1.2.1)) r1.1 r1.2.1 r1.2.2).bind fun r2 =>
some r2
noncomputable def qf44I : Shape := ⟨58, 1, [(0, .own TPage 0), (1, .dat false (.int .i64)), (2, .dat false (.int .i64)), (3, .dat false (.int .i64)), (4, .fn 108 (.nil))], [(0, .slc false TPage)], [0], false⟩
noncomputable def qf44O : Shape := ⟨59, 1, [(58, .tup (.nil))], [(0, .slc false TPage)], [0], false⟩
noncomputable def qf44F : (Int × Int × Int × (Val (.slice TPage))) → Option ((Val (.slice TPage))) := fun y => qf44 y.1 y.2.1 y.2.2.1 y.2.2.2
noncomputable def qf44ct : Ctr := ctrOf qf44I qf44O id id qf44F
noncomputable def qf44E : Env := { tf := tfE, mt := mtE, fn := fun f => bif Nat.beq f 222 then some qf43ct else none }
theorem qf44_env : EnvOk PT qf44E := ⟨tyE, (fun f ct h => by
  simp only [qf44E] at h
  refine envCons (c := qf43ct) h qf43_ctr (fun h => ?_)
  cases h), mapE⟩
noncomputable def qf44C : Code := bodyOf Tryz.f200
noncomputable def qf44L1C : Code := (loopsOf qf44C).getD 0 .skip
noncomputable def qf44L1S : Shape := ⟨58, 1, [(0, .own TPage 0), (2, .dat false (.int .i64)), (4, .fn 108 (.nil)), (10, .dat true (.int .i64)), (11, .dat true (.int .i64))], [(0, .slc false TPage)], [0], false⟩
noncomputable def qf44L1O : List (Ex × Shape) := [(.exit 0, ⟨58, 1, [(0, .own TPage 0), (2, .dat false (.int .i64)), (4, .fn 108 (.nil)), (10, .dat true (.int .i64))], [(0, .slc false TPage)], [0], false⟩)]
noncomputable def qf44L1M : Sum := loopSum (Y := Int × Int × Int × (Val (.slice TPage))) (Z := Int × Int × (Val (.slice TPage))) qf44L1S qf44L1O id id (iter qf44L1B)
noncomputable def qf44H : Nat → Option Sum := fun n => bif Nat.beq n 2 then some qf44L1M else none
theorem qf44L1_bd (y : Int × Int × Int × (Val (.slice TPage))) : @Eq (Option ((Int × Int × Int × (Val (.slice TPage))) ⊕ (Int × Int × (Val (.slice TPage))))) (exec qf44E qf44H qf44L1C (qf44L1S.mk' (show qf44L1S.D from y)) (kont (Y := Int × Int × Int × (Val (.slice TPage))) (Z := Int × Int × (Val (.slice TPage))) qf44L1S qf44L1O id id)) (qf44L1B y) := by kernel_rfl
theorem qf44L1_ok {w0 : World} {Jo : Io} (hfix : ∀ i b, Jo.fix i = some b → i ∈ [0]) (hmay : false = true → Jo.may) : SumOk PT w0 Jo qf44L1M (.loop qf44L1C) :=
  @loop_ok w0 Jo PT qf44E qf44H (Int × Int × Int × (Val (.slice TPage))) (Int × Int × (Val (.slice TPage))) qf44_env mixed qf44L1C qf44L1S qf44L1O id id id id (fun _ => rfl) (fun _ => rfl) hfix hmay (by kernel_rfl) (noLoops (by kernel_rfl)) qf44L1B qf44L1_bd
theorem qf44_bd (y : Int × Int × Int × (Val (.slice TPage))) : @Eq (Option ((Val (.slice TPage)))) (exec qf44E qf44H qf44C (qf44I.mk' (show qf44I.D from y)) (kontF (Z := (Val (.slice TPage))) qf44E Tryz.f200.results.toList qf44O id)) (qf44F y) := by kernel_rfl
theorem qf44_lo {w0 : World} {Jo : Io} (hfix : ∀ i b, Jo.fix i = some b → i ∈ [0]) (hmay : false = true → Jo.may) : LoopsOk PT w0 Jo qf44H qf44C := (loopsMk (by kernel_rfl) (loopsCons (c := qf44L1C) (n := 2) (f := qf44L1M) (by kernel_rfl) (by kernel_rfl) (qf44L1_ok hfix hmay) loopsNil))
theorem qf44_ctr : CtrOk PT 200 qf44ct :=
  @ctr_ok PT qf44E qf44H qf44_env mixed 200 Tryz.f200 qf44C (by kernel_rfl) (by kernel_rfl) (enters_of (by kernel_rfl : PT.funcs[200]? = some Tryz.f200) (by kernel_rfl) (by kernel_rfl)) qf44I qf44O (Int × Int × Int × (Val (.slice TPage))) ((Val (.slice TPage))) id id id id (fun _ => rfl) (fun _ => rfl) (by kernel_rfl) (by kernel_rfl) qf44F qf44_bd (fun w0 Jo hfix hmay => qf44_lo hfix hmay)
noncomputable def slices_symMergeCmpFunc_PageL1b (x0 : Int) (x1 : Int) (x2 : Int) (x3 : Val (.slice TPage)) : Option ((Int × Int × Int × (Val (.slice TPage))) ⊕ (Int × Int × (Val (.slice TPage)))) :=
bif (decide (x1 < x2)) then (
bif (inR (IntKind.wrap .i64 (shiftR .u64 (IntKind.wrap .u64 (IntKind.wrap .i64 (x1 + x2))) (1 : Int))) (List.length x3)) then
bif (inR x0 (List.length x3)) then
(qf41 (List.getD x3 (Int.toNat (IntKind.wrap .i64 (shiftR .u64 (IntKind.wrap .u64 (IntKind.wrap .i64 (x1 + x2))) (1 : Int)))) ((0 : Int), (0 : Int), (List.replicate 7 (0 : Int)), ())) (List.getD x3 (Int.toNat x0) ((0 : Int), (0 : Int), (List.replicate 7 (0 : Int)), ()))).bind fun r1 =>
bif (decide (r1 < (0 : Int))) then (
some (Sum.inl (x0, (IntKind.wrap .i64 ((IntKind.wrap .i64 (shiftR .u64 (IntKind.wrap .u64 (IntKind.wrap .i64 (x1 + x2))) (1 : Int))) + (1 : Int))), x2, x3)))
else (
some (Sum.inl (x0, x1, (IntKind.wrap .i64 (shiftR .u64 (IntKind.wrap .u64 (IntKind.wrap .i64 (x1 + x2))) (1 : Int))), x3)))
else none
else none)
else (
some (Sum.inr (x0, x1, x3)))
noncomputable def slices_symMergeCmpFunc_PageL1B : (Int × Int × Int × (Val (.slice TPage))) → Option ((Int × Int × Int × (Val (.slice TPage))) ⊕ (Int × Int × (Val (.slice TPage)))) := fun y => slices_symMergeCmpFunc_PageL1b y.1 y.2.1 y.2.2.1 y.2.2.2
noncomputable def slices_symMergeCmpFunc_PageL1 (x0 : Int) (x1 : Int) (x2 : Int) (x3 : Val (.slice TPage)) : Option (Int × Int × (Val (.slice TPage))) := iter slices_symMergeCmpFunc_PageL1B (x0, x1, x2, x3)
noncomputable def slices_symMergeCmpFunc_PageL2b (x0 : Int) (x1 : Int) (x2 : Val (.slice TPage)) : Option ((Int × Int × (Val (.slice TPage))) ⊕ ((Val (.slice TPage)))) :=
bif (decide (x1 < (IntKind.wrap .i64 (x0 - (1 : Int))))) then (
bif (inR (IntKind.wrap .i64 (x1 + (1 : Int))) (List.length x2)) then
bif (inR x1 (List.length x2)) then
bif (inR x1 (List.length x2)) then
bif (inR (IntKind.wrap .i64 (x1 + (1 : Int))) (List.length (List.set x2 (Int.toNat x1) (List.getD x2 (Int.toNat (IntKind.wrap .i64 (x1 + (1 : Int)))) ((0 : Int), (0 : Int), (List.replicate 7 (0 : Int)), ()))))) then
some (Sum.inl (x0, (IntKind.wrap .i64 (x1 + (1 : Int))), (List.set (List.set x2 (Int.toNat x1) (List.getD x2 (Int.toNat (IntKind.wrap .i64 (x1 + (1 : Int)))) ((0 : Int), (0 : Int), (List.replicate 7 (0 : Int)), ()))) (Int.toNat (IntKind.wrap .i64 (x1 + (1 : Int)))) (List.getD x2 (Int.toNat x1) ((0 : Int), (0 : Int), (List.replicate 7 (0 : Int)), ())))))
else none
else none
else none
else none)
else (
some (Sum.inr x2))
noncomputable def slices_symMergeCmpFunc_PageL2B : (Int × Int × (Val (.slice TPage))) → Option ((Int × Int × (Val (.slice TPage))) ⊕ ((Val (.slice TPage)))) := fun y => slices_symMergeCmpFunc_PageL2b y.1 y.2.1 y.2.2
noncomputable def slices_symMergeCmpFunc_PageL2 (x0 : Int) (x1 : Int) (x2 : Val (.slice TPage)) : Option ((Val (.slice TPage))) := iter slices_symMergeCmpFunc_PageL2B (x0, x1, x2)
noncomputable def slices_symMergeCmpFunc_PageL3b (x0 : Int) (x1 : Int) (x2 : Int) (x3 : Val (.slice TPage)) : Option ((Int × Int × Int × (Val (.slice TPage))) ⊕ (Int × Int × (Val (.slice TPage)))) :=
bif (decide (x1 < x2)) then (
bif (inR x0 (List.length x3)) then
bif (inR (IntKind.wrap .i64 (shiftR .u64 (IntKind.wrap .u64 (IntKind.wrap .i64 (x1 + x2))) (1 : Int))) (List.length x3)) then
(qf41 (List.getD x3 (Int.toNat x0) ((0 : Int), (0 : Int), (List.replicate 7 (0 : Int)), ())) (List.getD x3 (Int.toNat (IntKind.wrap .i64 (shiftR .u64 (IntKind.wrap .u64 (IntKind.wrap .i64 (x1 + x2))) (1 : Int)))) ((0 : Int), (0 : Int), (List.replicate 7 (0 : Int)), ()))).bind fun r1 =>
bif (!(decide (r1 < (0 : Int)))) then (
some (Sum.inl (x0, (IntKind.wrap .i64 ((IntKind.wrap .i64 (shiftR .u64 (IntKind.wrap .u64 (IntKind.wrap .i64 (x1 + x2))) (1 : Int))) + (1 : Int))), x2, x3)))
else (
some (Sum.inl (x0, x1, (IntKind.wrap .i64 (shiftR .u64 (IntKind.wrap .u64 (IntKind.wrap .i64 (x1 + x2))) (1 : Int))), x3)))
else none
else none)
else (
some (Sum.inr (x0, x1, x3)))
noncomputable def slices_symMergeCmpFunc_PageL3B : (Int × Int × Int × (Val (.slice TPage))) → Option ((Int × Int × Int × (Val (.slice TPage))) ⊕ (Int × Int × (Val (.slice TPage)))) := fun y => slices_symMergeCmpFunc_PageL3b y.1 y.2.1 y.2.2.1 y.2.2.2
noncomputable def slices_symMergeCmpFunc_PageL3 (x0 : Int) (x1 : Int) (x2 : Int) (x3 : Val (.slice TPage)) : Option (Int × Int × (Val (.slice TPage))) := iter slices_symMergeCmpFunc_PageL3B (x0, x1, x2, x3)
noncomputable def slices_symMergeCmpFunc_PageL4b (x0 : Int) (x1 : Int) (x2 : Val (.slice TPage)) : Option ((Int × Int × (Val (.slice TPage))) ⊕ ((Val (.slice TPage)))) :=
bif (decide (x0 < x1)) then (
bif (inR (IntKind.wrap .i64 (x1 - (1 : Int))) (List.length x2)) then
bif (inR x1 (List.length x2)) then
bif (inR x1 (List.length x2)) then
bif (inR (IntKind.wrap .i64 (x1 - (1 : Int))) (List.length (List.set x2 (Int.toNat x1) (List.getD x2 (Int.toNat (IntKind.wrap .i64 (x1 - (1 : Int)))) ((0 : Int), (0 : Int), (List.replicate 7 (0 : Int)), ()))))) then
some (Sum.inl (x0, (IntKind.wrap .i64 (x1 - (1 : Int))), (List.set (List.set x2 (Int.toNat x1) (List.getD x2 (Int.toNat (IntKind.wrap .i64 (x1 - (1 : Int)))) ((0 : Int), (0 : Int), (List.replicate 7 (0 : Int)), ()))) (Int.toNat (IntKind.wrap .i64 (x1 - (1 : Int)))) (List.getD x2 (Int.toNat x1) ((0 : Int), (0 : Int), (List.replicate 7 (0 : Int)), ())))))
else none
else none
else none
else none)
else (
some (Sum.inr x2))
noncomputable def slices_symMergeCmpFunc_PageL4B : (Int × Int × (Val (.slice TPage))) → Option ((Int × Int × (Val (.slice TPage))) ⊕ ((Val (.slice TPage)))) := fun y => slices_symMergeCmpFunc_PageL4b y.1 y.2.1 y.2.2
noncomputable def slices_symMergeCmpFunc_PageL4 (x0 : Int) (x1 : Int) (x2 : Val (.slice TPage)) : Option ((Val (.slice TPage))) := iter slices_symMergeCmpFunc_PageL4B (x0, x1, x2)
noncomputable def slices_symMergeCmpFunc_PageL5b (x0 : Int) (x1 : Int) (x2 : Int) (x3 : Int) (x4 : Int) (x5 : Int) (x6 : Int) (x7 : Int) (x8 : Val (.slice TPage)) : Option ((Int × Int × Int × Int × Int × Int × Int × Int × (Val (.slice TPage))) ⊕ (Int × Int × Int × Int × Int × Int × (Val (.slice TPage)))) :=
bif (decide (x5 < x6)) then (
bif (inR (IntKind.wrap .i64 (x7 - (IntKind.wrap .i64 (shiftR .u64 (IntKind.wrap .u64 (IntKind.wrap .i64 (x5 + x6))) (1 : Int))))) (List.length x8)) then
bif (inR (IntKind.wrap .i64 (shiftR .u64 (IntKind.wrap .u64 (IntKind.wrap .i64 (x5 + x6))) (1 : Int))) (List.length x8)) then
(qf41 (List.getD x8 (Int.toNat (IntKind.wrap .i64 (x7 - (IntKind.wrap .i64 (shiftR .u64 (IntKind.wrap .u64 (IntKind.wrap .i64 (x5 + x6))) (1 : Int)))))) ((0 : Int), (0 : Int), (List.replicate 7 (0 : Int)), ())) (List.getD x8 (Int.toNat (IntKind.wrap .i64 (shiftR .u64 (IntKind.wrap .u64 (IntKind.wrap .i64 (x5 + x6))) (1 : Int)))) ((0 : Int), (0 : Int), (List.replicate 7 (0 : Int)), ()))).bind fun r1 =>
bif (!(decide (r1 < (0 : Int)))) then (
some (Sum.inl (x0, x1, x2, x3, x4, (IntKind.wrap .i64 ((IntKind.wrap .i64 (shiftR .u64 (IntKind.wrap .u64 (IntKind.wrap .i64 (x5 + x6))) (1 : Int))) + (1 : Int))), x6, x7, x8)))
else (
some (Sum.inl (x0, x1, x2, x3, x4, x5, (IntKind.wrap .i64 (shiftR .u64 (IntKind.wrap .u64 (IntKind.wrap .i64 (x5 + x6))) (1 : Int))), x7, x8)))
else none
else none)
else (
some (Sum.inr (x0, x1, x2, x3, x4, x5, x8)))
noncomputable def slices_symMergeCmpFunc_PageL5B : (Int × Int × Int × Int × Int × Int × Int × Int × (Val (.slice TPage))) → Option ((Int × Int × Int × Int × Int × Int × Int × Int × (Val (.slice TPage))) ⊕ (Int × Int × Int × Int × Int × Int × (Val (.slice TPage)))) := fun y => slices_symMergeCmpFunc_PageL5b y.1 y.2.1 y.2.2.1 y.2.2.2.1 y.2.2.2.2.1 y.2.2.2.2.2.1 y.2.2.2.2.2.2.1 y.2.2.2.2.2.2.2.1 y.2.2.2.2.2.2.2.2
noncomputable def slices_symMergeCmpFunc_PageL5 (x0 : Int) (x1 : Int) (x2 : Int) (x3 : Int) (x4 : Int) (x5 : Int) (x6 : Int) (x7 : Int) (x8 : Val (.slice TPage)) : Option (Int × Int × Int × Int × Int × Int × (Val (.slice TPage))) := iter slices_symMergeCmpFunc_PageL5B (x0, x1, x2, x3, x4, x5, x6, x7, x8)
noncomputable def slices_symMergeCmpFunc_Pageb (rec : Int → Int → Int → (Val (.slice TPage)) → Option ((Val (.slice TPage)))) (a0 : Int) (a1 : Int) (a2 : Int) (a3 : Val (.slice TPage)) : Option ((Val (.slice TPage))) :=
bif (decide ((IntKind.wrap .i64 (a1 - a0)) = (1 : Int))) then (
(slices_symMergeCmpFunc_PageL1 a0 a1 a2 a3).bind fun r1 =>
(slices_symMergeCmpFunc_PageL2 r1.2.1 r1.1 r1.2.2).bind fun r2 =>
some r2)
else (
bif (decide ((IntKind.wrap .i64 (a2 - a1)) = (1 : Int))) then (
(slices_symMergeCmpFunc_PageL3 a1 a0 a1 a3).bind fun r3 =>
(slices_symMergeCmpFunc_PageL4 r3.2.1 r3.1 r3.2.2).bind fun r4 =>
some r4)
else (
bif (decide ((IntKind.wrap .i64 (shiftR .u64 (IntKind.wrap .u64 (IntKind.wrap .i64 (a0 + a2))) (1 : Int))) < a1)) then (
(slices_symMergeCmpFunc_PageL5 a0 a1 a2 (IntKind.wrap .i64 (shiftR .u64 (IntKind.wrap .u64 (IntKind.wrap .i64 (a0 + a2))) (1 : Int))) (IntKind.wrap .i64 ((IntKind.wrap .i64 (shiftR .u64 (IntKind.wrap .u64 (IntKind.wrap .i64 (a0 + a2))) (1 : Int))) + a1)) (IntKind.wrap .i64 ((IntKind.wrap .i64 ((IntKind.wrap .i64 (shiftR .u64 (IntKind.wrap .u64 (IntKind.wrap .i64 (a0 + a2))) (1 : Int))) + a1)) - a2)) (IntKind.wrap .i64 (shiftR .u64 (IntKind.wrap .u64 (IntKind.wrap .i64 (a0 + a2))) (1 : Int))) (IntKind.wrap .i64 ((IntKind.wrap .i64 ((IntKind.wrap .i64 (shiftR .u64 (IntKind.wrap .u64 (IntKind.wrap .i64 (a0 + a2))) (1 : Int))) + a1)) - (1 : Int))) a3).bind fun r5 =>
bif (decide (r5.2.2.2.2.2.1 < r5.2.1)) then (
bif (decide (r5.2.1 < (IntKind.wrap .i64 (r5.2.2.2.2.1 - r5.2.2.2.2.2.1)))) then (
(qf44 r5.2.2.2.2.2.1 r5.2.1 (IntKind.wrap .i64 (r5.2.2.2.2.1 - r5.2.2.2.2.2.1)) r5.2.2.2.2.2.2).bind fun r6 =>
bif (decide (r5.1 < r5.2.2.2.2.2.1)) then (
bif (decide (r5.2.2.2.2.2.1 < r5.2.2.2.1)) then (
(rec r5.1 r5.2.2.2.2.2.1 r5.2.2.2.1 r6).bind fun r7 =>
bif (decide (r5.2.2.2.1 < (IntKind.wrap .i64 (r5.2.2.2.2.1 - r5.2.2.2.2.2.1)))) then (
bif (decide ((IntKind.wrap .i64 (r5.2.2.2.2.1 - r5.2.2.2.2.2.1)) < r5.2.2.1)) then (
(rec r5.2.2.2.1 (IntKind.wrap .i64 (r5.2.2.2.2.1 - r5.2.2.2.2.2.1)) r5.2.2.1 r7).bind fun r8 =>
some r8)
else (
some r7))
else (
some r7))
else (
bif (decide (r5.2.2.2.1 < (IntKind.wrap .i64 (r5.2.2.2.2.1 - r5.2.2.2.2.2.1)))) then (
bif (decide ((IntKind.wrap .i64 (r5.2.2.2.2.1 - r5.2.2.2.2.2.1)) < r5.2.2.1)) then (
(rec r5.2.2.2.1 (IntKind.wrap .i64 (r5.2.2.2.2.1 - r5.2.2.2.2.2.1)) r5.2.2.1 r6).bind fun r9 =>
some r9)
else (
some r6))
else (
some r6)))
else (
bif (decide (r5.2.2.2.1 < (IntKind.wrap .i64 (r5.2.2.2.2.1 - r5.2.2.2.2.2.1)))) then (
bif (decide ((IntKind.wrap .i64 (r5.2.2.2.2.1 - r5.2.2.2.2.2.1)) < r5.2.2.1)) then (
(rec r5.2.2.2.1 (IntKind.wrap .i64 (r5.2.2.2.2.1 - r5.2.2.2.2.2.1)) r5.2.2.1 r6).bind fun r10 =>
some r10)
else (
some r6))
else (
some r6)))
else (
bif (decide (r5.1 < r5.2.2.2.2.2.1)) then (
bif (decide (r5.2.2.2.2.2.1 < r5.2.2.2.1)) then (
(rec r5.1 r5.2.2.2.2.2.1 r5.2.2.2.1 r5.2.2.2.2.2.2).bind fun r11 =>
bif (decide (r5.2.2.2.1 < (IntKind.wrap .i64 (r5.2.2.2.2.1 - r5.2.2.2.2.2.1)))) then (
bif (decide ((IntKind.wrap .i64 (r5.2.2.2.2.1 - r5.2.2.2.2.2.1)) < r5.2.2.1)) then (
(rec r5.2.2.2.1 (IntKind.wrap .i64 (r5.2.2.2.2.1 - r5.2.2.2.2.2.1)) r5.2.2.1 r11).bind fun r12 =>
some r12)
else (
some r11))
else (
some r11))
else (
bif (decide (r5.2.2.2.1 < (IntKind.wrap .i64 (r5.2.2.2.2.1 - r5.2.2.2.2.2.1)))) then (
bif (decide ((IntKind.wrap .i64 (r5.2.2.2.2.1 - r5.2.2.2.2.2.1)) < r5.2.2.1)) then (
(rec r5.2.2.2.1 (IntKind.wrap .i64 (r5.2.2.2.2.1 - r5.2.2.2.2.2.1)) r5.2.2.1 r5.2.2.2.2.2.2).bind fun r13 =>
some r13)
else (
some r5.2.2.2.2.2.2))
else (
some r5.2.2.2.2.2.2)))
else (
bif (decide (r5.2.2.2.1 < (IntKind.wrap .i64 (r5.2.2.2.2.1 - r5.2.2.2.2.2.1)))) then (
bif (decide ((IntKind.wrap .i64 (r5.2.2.2.2.1 - r5.2.2.2.2.2.1)) < r5.2.2.1)) then (
(rec r5.2.2.2.1 (IntKind.wrap .i64 (r5.2.2.2.2.1 - r5.2.2.2.2.2.1)) r5.2.2.1 r5.2.2.2.2.2.2).bind fun r14 =>
some r14)
else (
some r5.2.2.2.2.2.2))
else (
some r5.2.2.2.2.2.2))))
else (
bif (decide (r5.1 < r5.2.2.2.2.2.1)) then (
bif (decide (r5.2.2.2.2.2.1 < r5.2.2.2.1)) then (
(rec r5.1 r5.2.2.2.2.2.1 r5.2.2.2.1 r5.2.2.2.2.2.2).bind fun r15 =>
bif (decide (r5.2.2.2.1 < (IntKind.wrap .i64 (r5.2.2.2.2.1 - r5.2.2.2.2.2.1)))) then (
bif (decide ((IntKind.wrap .i64 (r5.2.2.2.2.1 - r5.2.2.2.2.2.1)) < r5.2.2.1)) then (
(rec r5.2.2.2.1 (IntKind.wrap .i64 (r5.2.2.2.2.1 - r5.2.2.2.2.2.1)) r5.2.2.1 r15).bind fun r16 =>
some r16)
else (
some r15))
else (
some r15))
else (
bif (decide (r5.2.2.2.1 < (IntKind.wrap .i64 (r5.2.2.2.2.1 - r5.2.2.2.2.2.1)))) then (
bif (decide ((IntKind.wrap .i64 (r5.2.2.2.2.1 - r5.2.2.2.2.2.1)) < r5.2.2.1)) then (
(rec r5.2.2.2.1 (IntKind.wrap .i64 (r5.2.2.2.2.1 - r5.2.2.2.2.2.1)) r5.2.2.1 r5.2.2.2.2.2.2).bind fun r17 =>
some r17)
else (
some r5.2.2.2.2.2.2))
else (
some r5.2.2.2.2.2.2)))
else (
bif (decide (r5.2.2.2.1 < (IntKind.wrap .i64 (r5.2.2.2.2.1 - r5.2.2.2.2.2.1)))) then (
bif (decide ((IntKind.wrap .i64 (r5.2.2.2.2.1 - r5.2.2.2.2.2.1)) < r5.2.2.1)) then (
(rec r5.2.2.2.1 (IntKind.wrap .i64 (r5.2.2.2.2.1 - r5.2.2.2.2.2.1)) r5.2.2.1 r5.2.2.2.2.2.2).bind fun r18 =>
some r18)
else (
some r5.2.2.2.2.2.2))
else (
some r5.2.2.2.2.2.2))))
else (
(slices_symMergeCmpFunc_PageL5 a0 a1 a2 (IntKind.wrap .i64 (shiftR .u64 (IntKind.wrap .u64 (IntKind.wrap .i64 (a0 + a2))) (1 : Int))) (IntKind.wrap .i64 ((IntKind.wrap .i64 (shiftR .u64 (IntKind.wrap .u64 (IntKind.wrap .i64 (a0 + a2))) (1 : Int))) + a1)) a0 a1 (IntKind.wrap .i64 ((IntKind.wrap .i64 ((IntKind.wrap .i64 (shiftR .u64 (IntKind.wrap .u64 (IntKind.wrap .i64 (a0 + a2))) (1 : Int))) + a1)) - (1 : Int))) a3).bind fun r19 =>
bif (decide (r19.2.2.2.2.2.1 < r19.2.1)) then (
bif (decide (r19.2.1 < (IntKind.wrap .i64 (r19.2.2.2.2.1 - r19.2.2.2.2.2.1)))) then (
(qf44 r19.2.2.2.2.2.1 r19.2.1 (IntKind.wrap .i64 (r19.2.2.2.2.1 - r19.2.2.2.2.2.1)) r19.2.2.2.2.2.2).bind fun r20 =>
bif (decide (r19.1 < r19.2.2.2.2.2.1)) then (
bif (decide (r19.2.2.2.2.2.1 < r19.2.2.2.1)) then (
(rec r19.1 r19.2.2.2.2.2.1 r19.2.2.2.1 r20).bind fun r21 =>
bif (decide (r19.2.2.2.1 < (IntKind.wrap .i64 (r19.2.2.2.2.1 - r19.2.2.2.2.2.1)))) then (
bif (decide ((IntKind.wrap .i64 (r19.2.2.2.2.1 - r19.2.2.2.2.2.1)) < r19.2.2.1)) then (
(rec r19.2.2.2.1 (IntKind.wrap .i64 (r19.2.2.2.2.1 - r19.2.2.2.2.2.1)) r19.2.2.1 r21).bind fun r22 =>
some r22)
else (
some r21))
else (
some r21))
else (
bif (decide (r19.2.2.2.1 < (IntKind.wrap .i64 (r19.2.2.2.2.1 - r19.2.2.2.2.2.1)))) then (
bif (decide ((IntKind.wrap .i64 (r19.2.2.2.2.1 - r19.2.2.2.2.2.1)) < r19.2.2.1)) then (
(rec r19.2.2.2.1 (IntKind.wrap .i64 (r19.2.2.2.2.1 - r19.2.2.2.2.2.1)) r19.2.2.1 r20).bind fun r23 =>
some r23)
else (
some r20))
else (
some r20)))
else (
bif (decide (r19.2.2.2.1 < (IntKind.wrap .i64 (r19.2.2.2.2.1 - r19.2.2.2.2.2.1)))) then (
bif (decide ((IntKind.wrap .i64 (r19.2.2.2.2.1 - r19.2.2.2.2.2.1)) < r19.2.2.1)) then (
(rec r19.2.2.2.1 (IntKind.wrap .i64 (r19.2.2.2.2.1 - r19.2.2.2.2.2.1)) r19.2.2.1 r20).bind fun r24 =>
some r24)
else (
some r20))
else (
some r20)))
else (
bif (decide (r19.1 < r19.2.2.2.2.2.1)) then (
bif (decide (r19.2.2.2.2.2.1 < r19.2.2.2.1)) then (
(rec r19.1 r19.2.2.2.2.2.1 r19.2.2.2.1 r19.2.2.2.2.2.2).bind fun r25 =>
bif (decide (r19.2.2.2.1 < (IntKind.wrap .i64 (r19.2.2.2.2.1 - r19.2.2.2.2.2.1)))) then (
bif (decide ((IntKind.wrap .i64 (r19.2.2.2.2.1 - r19.2.2.2.2.2.1)) < r19.2.2.1)) then (
(rec r19.2.2.2.1 (IntKind.wrap .i64 (r19.2.2.2.2.1 - r19.2.2.2.2.2.1)) r19.2.2.1 r25).bind fun r26 =>
some r26)
else (
some r25))
else (
some r25))
else (
bif (decide (r19.2.2.2.1 < (IntKind.wrap .i64 (r19.2.2.2.2.1 - r19.2.2.2.2.2.1)))) then (
bif (decide ((IntKind.wrap .i64 (r19.2.2.2.2.1 - r19.2.2.2.2.2.1)) < r19.2.2.1)) then (
(rec r19.2.2.2.1 (IntKind.wrap .i64 (r19.2.2.2.2.1 - r19.2.2.2.2.2.1)) r19.2.2.1 r19.2.2.2.2.2.2).bind fun r27 =>
some r27)
else (
some r19.2.2.2.2.2.2))
else (
some r19.2.2.2.2.2.2)))
else (
bif (decide (r19.2.2.2.1 < (IntKind.wrap .i64 (r19.2.2.2.2.1 - r19.2.2.2.2.2.1)))) then (
bif (decide ((IntKind.wrap .i64 (r19.2.2.2.2.1 - r19.2.2.2.2.2.1)) < r19.2.2.1)) then (
(rec r19.2.2.2.1 (IntKind.wrap .i64 (r19.2.2.2.2.1 - r19.2.2.2.2.2.1)) r19.2.2.1 r19.2.2.2.2.2.2).bind fun r28 =>
some r28)
else (
some r19.2.2.2.2.2.2))
else (
some r19.2.2.2.2.2.2))))
else (
bif (decide (r19.1 < r19.2.2.2.2.2.1)) then (
bif (decide (r19.2.2.2.2.2.1 < r19.2.2.2.1)) then (
(rec r19.1 r19.2.2.2.2.2.1 r19.2.2.2.1 r19.2.2.2.2.2.2).bind fun r29 =>
bif (decide (r19.2.2.2.1 < (IntKind.wrap .i64 (r19.2.2.2.2.1 - r19.2.2.2.2.2.1)))) then (
bif (decide ((IntKind.wrap .i64 (r19.2.2.2.2.1 - r19.2.2.2.2.2.1)) < r19.2.2.1)) then (
(rec r19.2.2.2.1 (IntKind.wrap .i64 (r19.2.2.2.2.1 - r19.2.2.2.2.2.1)) r19.2.2.1 r29).bind fun r30 =>
some r30)
else (
some r29))
else (
some r29))
else (
bif (decide (r19.2.2.2.1 < (IntKind.wrap .i64 (r19.2.2.2.2.1 - r19.2.2.2.2.2.1)))) then (
bif (decide ((IntKind.wrap .i64 (r19.2.2.2.2.1 - r19.2.2.2.2.2.1)) < r19.2.2.1)) then (
(rec r19.2.2.2.1 (IntKind.wrap .i64 (r19.2.2.2.2.1 - r19.2.2.2.2.2.1)) r19.2.2.1 r19.2.2.2.2.2.2).bind fun r31 =>
some r31)
else (
some r19.2.2.2.2.2.2))
else (
some r19.2.2.2.2.2.2)))
else (
bif (decide (r19.2.2.2.1 < (IntKind.wrap .i64 (r19.2.2.2.2.1 - r19.2.2.2.2.2.1)))) then (
bif (decide ((IntKind.wrap .i64 (r19.2.2.2.2.1 - r19.2.2.2.2.2.1)) < r19.2.2.1)) then (
(rec r19.2.2.2.1 (IntKind.wrap .i64 (r19.2.2.2.2.1 - r19.2.2.2.2.2.1)) r19.2.2.1 r19.2.2.2.2.2.2).bind fun r32 =>
some r32)
else (
some r19.2.2.2.2.2.2))
else (
some r19.2.2.2.2.2.2))))))
noncomputable def slices_symMergeCmpFunc_Page : Nat → Int → Int → Int → (Val (.slice TPage)) → Option ((Val (.slice TPage))) := fun n => Nat.rec (motive := fun _ => Int → Int → Int → (Val (.slice TPage)) → Option ((Val (.slice TPage)))) (fun _ _ _ _ => none) (fun _ ih => slices_symMergeCmpFunc_Pageb ih) n
abbrev slices_symMergeCmpFunc_PageL5Y : Type := Int × Int × Int × Int × Int × Int × Int × Int × (Val (.slice TPage))
abbrev slices_symMergeCmpFunc_PageL5Z : Type := Int × Int × Int × Int × Int × Int × (Val (.slice TPage))
noncomputable def slices_symMergeCmpFunc_PageI : Shape := ⟨220, 1, [(0, .own TPage 0), (1, .dat false (.int .i64)), (2, .dat false (.int .i64)), (3, .dat false (.int .i64)), (4, .fn 108 (.nil))], [(0, .slc false TPage)], [0], false⟩
noncomputable def slices_symMergeCmpFunc_PageO : Shape := ⟨221, 1, [(220, .tup (.nil))], [(0, .slc false TPage)], [0], false⟩
noncomputable def slices_symMergeCmpFunc_PageF (n : Nat) : (Int × Int × Int × (Val (.slice TPage))) → Option ((Val (.slice TPage))) := fun y => slices_symMergeCmpFunc_Page n y.1 y.2.1 y.2.2.1 y.2.2.2
noncomputable def slices_symMergeCmpFunc_Pagect (n : Nat) : Ctr := ctrOf slices_symMergeCmpFunc_PageI slices_symMergeCmpFunc_PageO id id (slices_symMergeCmpFunc_PageF n)
noncomputable def slices_symMergeCmpFunc_PageE (n : Nat) : Env := { tf := tfE, mt := mtE, fn := fun f => bif Nat.beq f 173 then some (slices_symMergeCmpFunc_Pagect n) else bif Nat.beq f 108 then some qf41ct else bif Nat.beq f 200 then some qf44ct else none }
theorem slices_symMergeCmpFunc_Page_env {n : Nat} (ih : CtrOk PT 173 (slices_symMergeCmpFunc_Pagect n)) : EnvOk PT (slices_symMergeCmpFunc_PageE n) := ⟨tyE, (fun f ct h => by
  simp only [slices_symMergeCmpFunc_PageE] at h
  refine envCons (c := slices_symMergeCmpFunc_Pagect n) h ih (fun h => ?_)
  refine envCons (c := qf41ct) h qf41_ctr (fun h => ?_)
  refine envCons (c := qf44ct) h qf44_ctr (fun h => ?_)
  cases h), mapE⟩
noncomputable def slices_symMergeCmpFunc_PageC : Code := bodyOf Tryz.f173
noncomputable def slices_symMergeCmpFunc_PageL1C : Code := (loopsOf slices_symMergeCmpFunc_PageC).getD 0 .skip
noncomputable def slices_symMergeCmpFunc_PageL2C : Code := (loopsOf slices_symMergeCmpFunc_PageC).getD 1 .skip
noncomputable def slices_symMergeCmpFunc_PageL3C : Code := (loopsOf slices_symMergeCmpFunc_PageC).getD 2 .skip
noncomputable def slices_symMergeCmpFunc_PageL4C : Code := (loopsOf slices_symMergeCmpFunc_PageC).getD 3 .skip
noncomputable def slices_symMergeCmpFunc_PageL5C : Code := (loopsOf slices_symMergeCmpFunc_PageC).getD 4 .skip
noncomputable def slices_symMergeCmpFunc_PageL1S : Shape := ⟨220, 1, [(0, .own TPage 0), (1, .dat false (.int .i64)), (4, .fn 108 (.nil)), (10, .dat false (.int .i64)), (11, .dat false (.int .i64))], [(0, .slc false TPage)], [0], false⟩
noncomputable def slices_symMergeCmpFunc_PageL1O : List (Ex × Shape) := [(.exit 0, ⟨220, 1, [(0, .own TPage 0), (1, .dat false (.int .i64)), (10, .dat false (.int .i64))], [(0, .slc false TPage)], [0], false⟩)]
noncomputable def slices_symMergeCmpFunc_PageL1M : Sum := loopSum (Y := Int × Int × Int × (Val (.slice TPage))) (Z := Int × Int × (Val (.slice TPage))) slices_symMergeCmpFunc_PageL1S slices_symMergeCmpFunc_PageL1O id id (iter slices_symMergeCmpFunc_PageL1B)
noncomputable def slices_symMergeCmpFunc_PageL2S : Shape := ⟨220, 1, [(0, .own TPage 0), (10, .dat false (.int .i64)), (13, .dat false (.int .i64))], [(0, .slc false TPage)], [0], false⟩
noncomputable def slices_symMergeCmpFunc_PageL2O : List (Ex × Shape) := [(.exit 2, ⟨220, 1, [], [(0, .slc false TPage)], [0], false⟩)]
noncomputable def slices_symMergeCmpFunc_PageL2M : Sum := loopSum (Y := Int × Int × (Val (.slice TPage))) (Z := (Val (.slice TPage))) slices_symMergeCmpFunc_PageL2S slices_symMergeCmpFunc_PageL2O id id (iter slices_symMergeCmpFunc_PageL2B)
noncomputable def slices_symMergeCmpFunc_PageL3S : Shape := ⟨220, 1, [(0, .own TPage 0), (2, .dat false (.int .i64)), (4, .fn 108 (.nil)), (14, .dat false (.int .i64)), (15, .dat false (.int .i64))], [(0, .slc false TPage)], [0], false⟩
noncomputable def slices_symMergeCmpFunc_PageL3O : List (Ex × Shape) := [(.exit 4, ⟨220, 1, [(0, .own TPage 0), (2, .dat false (.int .i64)), (14, .dat false (.int .i64))], [(0, .slc false TPage)], [0], false⟩)]
noncomputable def slices_symMergeCmpFunc_PageL3M : Sum := loopSum (Y := Int × Int × Int × (Val (.slice TPage))) (Z := Int × Int × (Val (.slice TPage))) slices_symMergeCmpFunc_PageL3S slices_symMergeCmpFunc_PageL3O id id (iter slices_symMergeCmpFunc_PageL3B)
noncomputable def slices_symMergeCmpFunc_PageL4S : Shape := ⟨220, 1, [(0, .own TPage 0), (14, .dat false (.int .i64)), (17, .dat false (.int .i64))], [(0, .slc false TPage)], [0], false⟩
noncomputable def slices_symMergeCmpFunc_PageL4O : List (Ex × Shape) := [(.exit 6, ⟨220, 1, [], [(0, .slc false TPage)], [0], false⟩)]
noncomputable def slices_symMergeCmpFunc_PageL4M : Sum := loopSum (Y := Int × Int × (Val (.slice TPage))) (Z := (Val (.slice TPage))) slices_symMergeCmpFunc_PageL4S slices_symMergeCmpFunc_PageL4O id id (iter slices_symMergeCmpFunc_PageL4B)
noncomputable def slices_symMergeCmpFunc_PageL5S : Shape := ⟨220, 1, [(0, .own TPage 0), (1, .dat false (.int .i64)), (2, .dat false (.int .i64)), (3, .dat false (.int .i64)), (4, .fn 108 (.nil)), (18, .dat true (.int .i64)), (19, .dat true (.int .i64)), (20, .dat true (.int .i64)), (21, .dat true (.int .i64)), (22, .dat true (.int .i64))], [(0, .slc false TPage)], [0], false⟩
noncomputable def slices_symMergeCmpFunc_PageL5O : List (Ex × Shape) := [(.exit 8, ⟨220, 1, [(0, .own TPage 0), (1, .dat false (.int .i64)), (2, .dat false (.int .i64)), (3, .dat false (.int .i64)), (4, .fn 108 (.nil)), (18, .dat true (.int .i64)), (19, .dat true (.int .i64)), (20, .dat true (.int .i64))], [(0, .slc false TPage)], [0], false⟩)]
noncomputable def slices_symMergeCmpFunc_PageL5M : Sum := loopSum (Y := slices_symMergeCmpFunc_PageL5Y) (Z := slices_symMergeCmpFunc_PageL5Z) slices_symMergeCmpFunc_PageL5S slices_symMergeCmpFunc_PageL5O id id (iter slices_symMergeCmpFunc_PageL5B)
noncomputable def slices_symMergeCmpFunc_PageH : Nat → Option Sum := fun n => bif Nat.beq n 3 then some slices_symMergeCmpFunc_PageL1M else bif Nat.beq n 9 then some slices_symMergeCmpFunc_PageL2M else bif Nat.beq n 15 then some slices_symMergeCmpFunc_PageL3M else bif Nat.beq n 21 then some slices_symMergeCmpFunc_PageL4M else bif Nat.beq n 33 then some slices_symMergeCmpFunc_PageL5M else none
theorem slices_symMergeCmpFunc_PageL1_bd (n : Nat) (y : Int × Int × Int × (Val (.slice TPage))) : @Eq (Option ((Int × Int × Int × (Val (.slice TPage))) ⊕ (Int × Int × (Val (.slice TPage))))) (exec (slices_symMergeCmpFunc_PageE n) slices_symMergeCmpFunc_PageH slices_symMergeCmpFunc_PageL1C (slices_symMergeCmpFunc_PageL1S.mk' (show slices_symMergeCmpFunc_PageL1S.D from y)) (kont (Y := Int × Int × Int × (Val (.slice TPage))) (Z := Int × Int × (Val (.slice TPage))) slices_symMergeCmpFunc_PageL1S slices_symMergeCmpFunc_PageL1O id id)) (slices_symMergeCmpFunc_PageL1B y) := by kernel_rfl
theorem slices_symMergeCmpFunc_PageL1_ok {n : Nat} (ih : CtrOk PT 173 (slices_symMergeCmpFunc_Pagect n)) {w0 : World} {Jo : Io} (hfix : ∀ i b, Jo.fix i = some b → i ∈ [0]) (hmay : false = true → Jo.may) : SumOk PT w0 Jo slices_symMergeCmpFunc_PageL1M (.loop slices_symMergeCmpFunc_PageL1C) :=
  @loop_ok w0 Jo PT (slices_symMergeCmpFunc_PageE n) slices_symMergeCmpFunc_PageH (Int × Int × Int × (Val (.slice TPage))) (Int × Int × (Val (.slice TPage))) (slices_symMergeCmpFunc_Page_env ih) mixed slices_symMergeCmpFunc_PageL1C slices_symMergeCmpFunc_PageL1S slices_symMergeCmpFunc_PageL1O id id id id (fun _ => rfl) (fun _ => rfl) hfix hmay (by kernel_rfl) (noLoops (by kernel_rfl)) slices_symMergeCmpFunc_PageL1B (slices_symMergeCmpFunc_PageL1_bd n)
theorem slices_symMergeCmpFunc_PageL2_bd (n : Nat) (y : Int × Int × (Val (.slice TPage))) : @Eq (Option ((Int × Int × (Val (.slice TPage))) ⊕ ((Val (.slice TPage))))) (exec (slices_symMergeCmpFunc_PageE n) slices_symMergeCmpFunc_PageH slices_symMergeCmpFunc_PageL2C (slices_symMergeCmpFunc_PageL2S.mk' (show slices_symMergeCmpFunc_PageL2S.D from y)) (kont (Y := Int × Int × (Val (.slice TPage))) (Z := (Val (.slice TPage))) slices_symMergeCmpFunc_PageL2S slices_symMergeCmpFunc_PageL2O id id)) (slices_symMergeCmpFunc_PageL2B y) := by kernel_rfl
theorem slices_symMergeCmpFunc_PageL2_ok {n : Nat} (ih : CtrOk PT 173 (slices_symMergeCmpFunc_Pagect n)) {w0 : World} {Jo : Io} (hfix : ∀ i b, Jo.fix i = some b → i ∈ [0]) (hmay : false = true → Jo.may) : SumOk PT w0 Jo slices_symMergeCmpFunc_PageL2M (.loop slices_symMergeCmpFunc_PageL2C) :=
  @loop_ok w0 Jo PT (slices_symMergeCmpFunc_PageE n) slices_symMergeCmpFunc_PageH (Int × Int × (Val (.slice TPage))) ((Val (.slice TPage))) (slices_symMergeCmpFunc_Page_env ih) mixed slices_symMergeCmpFunc_PageL2C slices_symMergeCmpFunc_PageL2S slices_symMergeCmpFunc_PageL2O id id id id (fun _ => rfl) (fun _ => rfl) hfix hmay (by kernel_rfl) (noLoops (by kernel_rfl)) slices_symMergeCmpFunc_PageL2B (slices_symMergeCmpFunc_PageL2_bd n)
theorem slices_symMergeCmpFunc_PageL3_bd (n : Nat) (y : Int × Int × Int × (Val (.slice TPage))) : @Eq (Option ((Int × Int × Int × (Val (.slice TPage))) ⊕ (Int × Int × (Val (.slice TPage))))) (exec (slices_symMergeCmpFunc_PageE n) slices_symMergeCmpFunc_PageH slices_symMergeCmpFunc_PageL3C (slices_symMergeCmpFunc_PageL3S.mk' (show slices_symMergeCmpFunc_PageL3S.D from y)) (kont (Y := Int × Int × Int × (Val (.slice TPage))) (Z := Int × Int × (Val (.slice TPage))) slices_symMergeCmpFunc_PageL3S slices_symMergeCmpFunc_PageL3O id id)) (slices_symMergeCmpFunc_PageL3B y) := by kernel_rfl
theorem slices_symMergeCmpFunc_PageL3_ok {n : Nat} (ih : CtrOk PT 173 (slices_symMergeCmpFunc_Pagect n)) {w0 : World} {Jo : Io} (hfix : ∀ i b, Jo.fix i = some b → i ∈ [0]) (hmay : false = true → Jo.may) : SumOk PT w0 Jo slices_symMergeCmpFunc_PageL3M (.loop slices_symMergeCmpFunc_PageL3C) :=
  @loop_ok w0 Jo PT (slices_symMergeCmpFunc_PageE n) slices_symMergeCmpFunc_PageH (Int × Int × Int × (Val (.slice TPage))) (Int × Int × (Val (.slice TPage))) (slices_symMergeCmpFunc_Page_env ih) mixed slices_symMergeCmpFunc_PageL3C slices_symMergeCmpFunc_PageL3S slices_symMergeCmpFunc_PageL3O id id id id (fun _ => rfl) (fun _ => rfl) hfix hmay (by kernel_rfl) (noLoops (by kernel_rfl)) slices_symMergeCmpFunc_PageL3B (slices_symMergeCmpFunc_PageL3_bd n)
theorem slices_symMergeCmpFunc_PageL4_bd (n : Nat) (y : Int × Int × (Val (.slice TPage))) : @Eq (Option ((Int × Int × (Val (.slice TPage))) ⊕ ((Val (.slice TPage))))) (exec (slices_symMergeCmpFunc_PageE n) slices_symMergeCmpFunc_PageH slices_symMergeCmpFunc_PageL4C (slices_symMergeCmpFunc_PageL4S.mk' (show slices_symMergeCmpFunc_PageL4S.D from y)) (kont (Y := Int × Int × (Val (.slice TPage))) (Z := (Val (.slice TPage))) slices_symMergeCmpFunc_PageL4S slices_symMergeCmpFunc_PageL4O id id)) (slices_symMergeCmpFunc_PageL4B y) := by kernel_rfl
theorem slices_symMergeCmpFunc_PageL4_ok {n : Nat} (ih : CtrOk PT 173 (slices_symMergeCmpFunc_Pagect n)) {w0 : World} {Jo : Io} (hfix : ∀ i b, Jo.fix i = some b → i ∈ [0]) (hmay : false = true → Jo.may) : SumOk PT w0 Jo slices_symMergeCmpFunc_PageL4M (.loop slices_symMergeCmpFunc_PageL4C) :=
  @loop_ok w0 Jo PT (slices_symMergeCmpFunc_PageE n) slices_symMergeCmpFunc_PageH (Int × Int × (Val (.slice TPage))) ((Val (.slice TPage))) (slices_symMergeCmpFunc_Page_env ih) mixed slices_symMergeCmpFunc_PageL4C slices_symMergeCmpFunc_PageL4S slices_symMergeCmpFunc_PageL4O id id id id (fun _ => rfl) (fun _ => rfl) hfix hmay (by kernel_rfl) (noLoops (by kernel_rfl)) slices_symMergeCmpFunc_PageL4B (slices_symMergeCmpFunc_PageL4_bd n)
theorem slices_symMergeCmpFunc_PageL5_bd (n : Nat) (y : slices_symMergeCmpFunc_PageL5Y) : @Eq (Option (slices_symMergeCmpFunc_PageL5Y ⊕ slices_symMergeCmpFunc_PageL5Z)) (exec (slices_symMergeCmpFunc_PageE n) slices_symMergeCmpFunc_PageH slices_symMergeCmpFunc_PageL5C (slices_symMergeCmpFunc_PageL5S.mk' (show slices_symMergeCmpFunc_PageL5S.D from y)) (kont (Y := slices_symMergeCmpFunc_PageL5Y) (Z := slices_symMergeCmpFunc_PageL5Z) slices_symMergeCmpFunc_PageL5S slices_symMergeCmpFunc_PageL5O id id)) (slices_symMergeCmpFunc_PageL5B y) := by kernel_rfl
theorem slices_symMergeCmpFunc_PageL5_ok {n : Nat} (ih : CtrOk PT 173 (slices_symMergeCmpFunc_Pagect n)) {w0 : World} {Jo : Io} (hfix : ∀ i b, Jo.fix i = some b → i ∈ [0]) (hmay : false = true → Jo.may) : SumOk PT w0 Jo slices_symMergeCmpFunc_PageL5M (.loop slices_symMergeCmpFunc_PageL5C) :=
  @loop_ok w0 Jo PT (slices_symMergeCmpFunc_PageE n) slices_symMergeCmpFunc_PageH slices_symMergeCmpFunc_PageL5Y slices_symMergeCmpFunc_PageL5Z (slices_symMergeCmpFunc_Page_env ih) mixed slices_symMergeCmpFunc_PageL5C slices_symMergeCmpFunc_PageL5S slices_symMergeCmpFunc_PageL5O id id id id (fun _ => rfl) (fun _ => rfl) hfix hmay (by kernel_rfl) (noLoops (by kernel_rfl)) slices_symMergeCmpFunc_PageL5B (slices_symMergeCmpFunc_PageL5_bd n)
theorem slices_symMergeCmpFunc_Page_bd (n : Nat) (y : Int × Int × Int × (Val (.slice TPage))) : @Eq (Option ((Val (.slice TPage)))) (exec (slices_symMergeCmpFunc_PageE n) slices_symMergeCmpFunc_PageH slices_symMergeCmpFunc_PageC (slices_symMergeCmpFunc_PageI.mk' (show slices_symMergeCmpFunc_PageI.D from y)) (kontF (Z := (Val (.slice TPage))) (slices_symMergeCmpFunc_PageE n) Tryz.f173.results.toList slices_symMergeCmpFunc_PageO id)) ((slices_symMergeCmpFunc_PageF (n + 1)) y) := by kernel_rfl
theorem slices_symMergeCmpFunc_Page_lo {n : Nat} (ih : CtrOk PT 173 (slices_symMergeCmpFunc_Pagect n)) {w0 : World} {Jo : Io} (hfix : ∀ i b, Jo.fix i = some b → i ∈ [0]) (hmay : false = true → Jo.may) : LoopsOk PT w0 Jo slices_symMergeCmpFunc_PageH slices_symMergeCmpFunc_PageC := (loopsMk (by kernel_rfl) (loopsCons (c := slices_symMergeCmpFunc_PageL1C) (n := 3) (f := slices_symMergeCmpFunc_PageL1M) (by kernel_rfl) (by kernel_rfl) (slices_symMergeCmpFunc_PageL1_ok ih hfix hmay) (loopsCons (c := slices_symMergeCmpFunc_PageL2C) (n := 9) (f := slices_symMergeCmpFunc_PageL2M) (by kernel_rfl) (by kernel_rfl) (slices_symMergeCmpFunc_PageL2_ok ih hfix hmay) (loopsCons (c := slices_symMergeCmpFunc_PageL3C) (n := 15) (f := slices_symMergeCmpFunc_PageL3M) (by kernel_rfl) (by kernel_rfl) (slices_symMergeCmpFunc_PageL3_ok ih hfix hmay) (loopsCons (c := slices_symMergeCmpFunc_PageL4C) (n := 21) (f := slices_symMergeCmpFunc_PageL4M) (by kernel_rfl) (by kernel_rfl) (slices_symMergeCmpFunc_PageL4_ok ih hfix hmay) (loopsCons (c := slices_symMergeCmpFunc_PageL5C) (n := 33) (f := slices_symMergeCmpFunc_PageL5M) (by kernel_rfl) (by kernel_rfl) (slices_symMergeCmpFunc_PageL5_ok ih hfix hmay) loopsNil))))))
theorem slices_symMergeCmpFunc_Page_ctr : ∀ n, CtrOk PT 173 (slices_symMergeCmpFunc_Pagect n)
  | 0 => ctr_none (enters_of (by kernel_rfl : PT.funcs[173]? = some Tryz.f173) (by kernel_rfl) (by kernel_rfl))
  | n + 1 => have ih := slices_symMergeCmpFunc_Page_ctr n
    @ctr_ok PT (slices_symMergeCmpFunc_PageE n) slices_symMergeCmpFunc_PageH (slices_symMergeCmpFunc_Page_env ih) mixed 173 Tryz.f173 slices_symMergeCmpFunc_PageC (by kernel_rfl) (by kernel_rfl) (enters_of (by kernel_rfl : PT.funcs[173]? = some Tryz.f173) (by kernel_rfl) (by kernel_rfl)) slices_symMergeCmpFunc_PageI slices_symMergeCmpFunc_PageO (Int × Int × Int × (Val (.slice TPage))) ((Val (.slice TPage))) id id id id (fun _ => rfl) (fun _ => rfl) (by kernel_rfl) (by kernel_rfl) (slices_symMergeCmpFunc_PageF (n + 1)) (slices_symMergeCmpFunc_Page_bd n) (fun w0 Jo hfix hmay => slices_symMergeCmpFunc_Page_lo ih hfix hmay)
noncomputable def qf45L1b (x0 : Int) (x1 : Int) (x2 : Int) (x3 : Int) (x4 : Val (.slice TPage)) : Option ((Int × Int × Int × Int × (Val (.slice TPage))) ⊕ (Int × Int × Int × (Val (.slice TPage)))) :=
bif (decide (x3 ≤ x0)) then (
(qf42 x2 x3 x4).bind fun r1 =>
some (Sum.inl (x0, x1, x3, (IntKind.wrap .i64 (x3 + x1)), r1)))
else (
some (Sum.inr (x0, x1, x2, x4)))
noncomputable def qf45L1B : (Int × Int × Int × Int × (Val (.slice TPage))) → Option ((Int × Int × Int × Int × (Val (.slice TPage))) ⊕ (Int × Int × Int × (Val (.slice TPage)))) := fun y => qf45L1b y.1 y.2.1 y.2.2.1 y.2.2.2.1 y.2.2.2.2
noncomputable def qf45L1 (x0 : Int) (x1 : Int) (x2 : Int) (x3 : Int) (x4 : Val (.slice TPage)) : Option (Int × Int × Int × (Val (.slice TPage))) := iter qf45L1B (x0, x1, x2, x3, x4)
noncomputable def qf45L2b (x0 : Int) (x1 : Int) (x2 : Int) (x3 : Int) (x4 : Val (.slice TPage)) : Option ((Int × Int × Int × Int × (Val (.slice TPage))) ⊕ (Int × Int × Int × (Val (.slice TPage)))) :=
bif (decide (x3 ≤ x0)) then (
(slices_symMergeCmpFunc_Page 40 x2 (IntKind.wrap .i64 (x2 + x1)) x3 x4).bind fun r1 =>
some (Sum.inl (x0, x1, x3, (IntKind.wrap .i64 (x3 + (IntKind.wrap .i64 ((2 : Int) * x1)))), r1)))
else (
some (Sum.inr (x0, x1, x2, x4)))
noncomputable def qf45L2B : (Int × Int × Int × Int × (Val (.slice TPage))) → Option ((Int × Int × Int × Int × (Val (.slice TPage))) ⊕ (Int × Int × Int × (Val (.slice TPage)))) := fun y => qf45L2b y.1 y.2.1 y.2.2.1 y.2.2.2.1 y.2.2.2.2
noncomputable def qf45L2 (x0 : Int) (x1 : Int) (x2 : Int) (x3 : Int) (x4 : Val (.slice TPage)) : Option (Int × Int × Int × (Val (.slice TPage))) := iter qf45L2B (x0, x1, x2, x3, x4)
noncomputable def qf45L3b (x0 : Int) (x1 : Int) (x2 : Val (.slice TPage)) : Option ((Int × Int × (Val (.slice TPage))) ⊕ ((Val (.slice TPage)))) :=
bif (decide (x1 < x0)) then (
(qf45L2 x0 x1 (0 : Int) (IntKind.wrap .i64 ((2 : Int) * x1)) x2).bind fun r1 =>
bif (decide ((IntKind.wrap .i64 (r1.2.2.1 + r1.2.1)) < r1.1)) then (
(slices_symMergeCmpFunc_Page 40 r1.2.2.1 (IntKind.wrap .i64 (r1.2.2.1 + r1.2.1)) r1.1 r1.2.2.2).bind fun r2 =>
some (Sum.inl (r1.1, (IntKind.wrap .i64 (r1.2.1 * (2 : Int))), r2)))
else (
some (Sum.inl (r1.1, (IntKind.wrap .i64 (r1.2.1 * (2 : Int))), r1.2.2.2))))
else (
some (Sum.inr x2))
noncomputable def qf45L3B : (Int × Int × (Val (.slice TPage))) → Option ((Int × Int × (Val (.slice TPage))) ⊕ ((Val (.slice TPage)))) := fun y => qf45L3b y.1 y.2.1 y.2.2
noncomputable def qf45L3 (x0 : Int) (x1 : Int) (x2 : Val (.slice TPage)) : Option ((Val (.slice TPage))) := iter qf45L3B (x0, x1, x2)
noncomputable def qf45 (a0 : Int) (a1 : Val (.slice TPage)) : Option ((Val (.slice TPage))) :=
(qf45L1 a0 (20 : Int) (0 : Int) (20 : Int) a1).bind fun r1 =>
(qf42 r1.2.2.1 r1.1 r1.2.2.2).bind fun r2 =>
(qf45L3 r1.1 r1.2.1 r2).bind fun r3 =>
some r3
abbrev qf45L1Y : Type := Int × Int × Int × Int × (Val (.slice TPage))
abbrev qf45L2Y : Type := Int × Int × Int × Int × (Val (.slice TPage))
noncomputable def qf45I : Shape := ⟨63, 1, [(0, .own TPage 0), (1, .dat false (.int .i64)), (2, .fn 108 (.nil))], [(0, .slc false TPage)], [0], false⟩
noncomputable def qf45O : Shape := ⟨64, 1, [(63, .tup (.nil))], [(0, .slc false TPage)], [0], false⟩
noncomputable def qf45F : (Int × (Val (.slice TPage))) → Option ((Val (.slice TPage))) := fun y => qf45 y.1 y.2
noncomputable def qf45ct : Ctr := ctrOf qf45I qf45O id id qf45F
noncomputable def qf45E : Env := { tf := tfE, mt := mtE, fn := fun f => bif Nat.beq f 154 then some qf42ct else bif Nat.beq f 173 then some (slices_symMergeCmpFunc_Pagect 40) else none }
theorem qf45_env : EnvOk PT qf45E := ⟨tyE, (fun f ct h => by
  simp only [qf45E] at h
  refine envCons (c := qf42ct) h qf42_ctr (fun h => ?_)
  refine envCons (c := (slices_symMergeCmpFunc_Pagect 40)) h (slices_symMergeCmpFunc_Page_ctr 40) (fun h => ?_)
  cases h), mapE⟩
noncomputable def qf45C : Code := bodyOf Tryz.f145
noncomputable def qf45L1C : Code := (loopsOf qf45C).getD 0 .skip
noncomputable def qf45L3C : Code := (loopsOf qf45C).getD 1 .skip
noncomputable def qf45L2C : Code := (loopsOf qf45C).getD 2 .skip
noncomputable def qf45L1S : Shape := ⟨63, 1, [(0, .own TPage 0), (1, .dat false (.int .i64)), (2, .fn 108 (.nil)), (6, .dat true (.int .i64)), (7, .dat true (.int .i64)), (8, .dat true (.int .i64))], [(0, .slc false TPage)], [0], false⟩
noncomputable def qf45L1O : List (Ex × Shape) := [(.exit 0, ⟨63, 1, [(0, .own TPage 0), (1, .dat false (.int .i64)), (2, .fn 108 (.nil)), (6, .dat true (.int .i64)), (7, .dat true (.int .i64))], [(0, .slc false TPage)], [0], false⟩)]
noncomputable def qf45L1M : Sum := loopSum (Y := qf45L1Y) (Z := Int × Int × Int × (Val (.slice TPage))) qf45L1S qf45L1O id id (iter qf45L1B)
noncomputable def qf45L2S : Shape := ⟨63, 1, [(0, .own TPage 0), (1, .dat false (.int .i64)), (2, .fn 108 (.nil)), (6, .dat true (.int .i64)), (7, .dat true (.int .i64)), (8, .dat true (.int .i64))], [(0, .slc false TPage)], [0], false⟩
noncomputable def qf45L2O : List (Ex × Shape) := [(.exit 4, ⟨63, 1, [(0, .own TPage 0), (1, .dat false (.int .i64)), (2, .fn 108 (.nil)), (6, .dat true (.int .i64)), (7, .dat true (.int .i64))], [(0, .slc false TPage)], [0], false⟩)]
noncomputable def qf45L2M : Sum := loopSum (Y := qf45L2Y) (Z := Int × Int × Int × (Val (.slice TPage))) qf45L2S qf45L2O id id (iter qf45L2B)
noncomputable def qf45L3S : Shape := ⟨63, 1, [(0, .own TPage 0), (1, .dat false (.int .i64)), (2, .fn 108 (.nil)), (6, .dat true (.int .i64))], [(0, .slc false TPage)], [0], false⟩
noncomputable def qf45L3O : List (Ex × Shape) := [(.exit 2, ⟨63, 1, [], [(0, .slc false TPage)], [0], false⟩)]
noncomputable def qf45L3M : Sum := loopSum (Y := Int × Int × (Val (.slice TPage))) (Z := (Val (.slice TPage))) qf45L3S qf45L3O id id (iter qf45L3B)
noncomputable def qf45H : Nat → Option Sum := fun n => bif Nat.beq n 2 then some qf45L1M else bif Nat.beq n 9 then some qf45L2M else bif Nat.beq n 7 then some qf45L3M else none
theorem qf45L1_bd (y : qf45L1Y) : @Eq (Option (qf45L1Y ⊕ (Int × Int × Int × (Val (.slice TPage))))) (exec qf45E qf45H qf45L1C (qf45L1S.mk' (show qf45L1S.D from y)) (kont (Y := qf45L1Y) (Z := Int × Int × Int × (Val (.slice TPage))) qf45L1S qf45L1O id id)) (qf45L1B y) := by kernel_rfl
theorem qf45L1_ok {w0 : World} {Jo : Io} (hfix : ∀ i b, Jo.fix i = some b → i ∈ [0]) (hmay : false = true → Jo.may) : SumOk PT w0 Jo qf45L1M (.loop qf45L1C) :=
  @loop_ok w0 Jo PT qf45E qf45H qf45L1Y (Int × Int × Int × (Val (.slice TPage))) qf45_env mixed qf45L1C qf45L1S qf45L1O id id id id (fun _ => rfl) (fun _ => rfl) hfix hmay (by kernel_rfl) (noLoops (by kernel_rfl)) qf45L1B qf45L1_bd
theorem qf45L2_bd (y : qf45L2Y) : @Eq (Option (qf45L2Y ⊕ (Int × Int × Int × (Val (.slice TPage))))) (exec qf45E qf45H qf45L2C (qf45L2S.mk' (show qf45L2S.D from y)) (kont (Y := qf45L2Y) (Z := Int × Int × Int × (Val (.slice TPage))) qf45L2S qf45L2O id id)) (qf45L2B y) := by kernel_rfl
theorem qf45L2_ok {w0 : World} {Jo : Io} (hfix : ∀ i b, Jo.fix i = some b → i ∈ [0]) (hmay : false = true → Jo.may) : SumOk PT w0 Jo qf45L2M (.loop qf45L2C) :=
  @loop_ok w0 Jo PT qf45E qf45H qf45L2Y (Int × Int × Int × (Val (.slice TPage))) qf45_env mixed qf45L2C qf45L2S qf45L2O id id id id (fun _ => rfl) (fun _ => rfl) hfix hmay (by kernel_rfl) (noLoops (by kernel_rfl)) qf45L2B qf45L2_bd
theorem qf45L3_bd (y : Int × Int × (Val (.slice TPage))) : @Eq (Option ((Int × Int × (Val (.slice TPage))) ⊕ ((Val (.slice TPage))))) (exec qf45E qf45H qf45L3C (qf45L3S.mk' (show qf45L3S.D from y)) (kont (Y := Int × Int × (Val (.slice TPage))) (Z := (Val (.slice TPage))) qf45L3S qf45L3O id id)) (qf45L3B y) := by kernel_rfl
theorem qf45L3_ok {w0 : World} {Jo : Io} (hfix : ∀ i b, Jo.fix i = some b → i ∈ [0]) (hmay : false = true → Jo.may) : SumOk PT w0 Jo qf45L3M (.loop qf45L3C) :=
  @loop_ok w0 Jo PT qf45E qf45H (Int × Int × (Val (.slice TPage))) ((Val (.slice TPage))) qf45_env mixed qf45L3C qf45L3S qf45L3O id id id id (fun _ => rfl) (fun _ => rfl) hfix hmay (by kernel_rfl) (loopsMk (by kernel_rfl) (loopsCons (c := qf45L2C) (n := 9) (f := qf45L2M) (by kernel_rfl) (by kernel_rfl) (qf45L2_ok hfix hmay) loopsNil)) qf45L3B qf45L3_bd
theorem qf45_bd (y : Int × (Val (.slice TPage))) : @Eq (Option ((Val (.slice TPage)))) (exec qf45E qf45H qf45C (qf45I.mk' (show qf45I.D from y)) (kontF (Z := (Val (.slice TPage))) qf45E Tryz.f145.results.toList qf45O id)) (qf45F y) := by kernel_rfl
theorem qf45_lo {w0 : World} {Jo : Io} (hfix : ∀ i b, Jo.fix i = some b → i ∈ [0]) (hmay : false = true → Jo.may) : LoopsOk PT w0 Jo qf45H qf45C := (loopsMk (by kernel_rfl) (loopsCons (c := qf45L1C) (n := 2) (f := qf45L1M) (by kernel_rfl) (by kernel_rfl) (qf45L1_ok hfix hmay) (loopsCons (c := qf45L3C) (n := 7) (f := qf45L3M) (by kernel_rfl) (by kernel_rfl) (qf45L3_ok hfix hmay) (loopsCons (c := qf45L2C) (n := 9) (f := qf45L2M) (by kernel_rfl) (by kernel_rfl) (qf45L2_ok hfix hmay) loopsNil))))
theorem qf45_ctr : CtrOk PT 145 qf45ct :=
  @ctr_ok PT qf45E qf45H qf45_env mixed 145 Tryz.f145 qf45C (by kernel_rfl) (by kernel_rfl) (enters_of (by kernel_rfl : PT.funcs[145]? = some Tryz.f145) (by kernel_rfl) (by kernel_rfl)) qf45I qf45O (Int × (Val (.slice TPage))) ((Val (.slice TPage))) id id id id (fun _ => rfl) (fun _ => rfl) (by kernel_rfl) (by kernel_rfl) qf45F qf45_bd (fun w0 Jo hfix hmay => qf45_lo hfix hmay)
noncomputable def qf46 (a0 : Val (.slice TPage)) : Option ((Val (.slice TPage))) :=
(qf45 (((List.length a0) : Nat) : Int) a0).bind fun r1 =>
some r1
noncomputable def qf46I : Shape := ⟨9, 1, [(0, .own TPage 0), (1, .fn 108 (.nil))], [(0, .slc false TPage)], [0], false⟩
noncomputable def qf46O : Shape := ⟨10, 1, [(9, .tup (.nil))], [(0, .slc false TPage)], [0], false⟩
noncomputable def qf46F : ((Val (.slice TPage))) → Option ((Val (.slice TPage))) := fun y => qf46 y
noncomputable def qf46ct : Ctr := ctrOf qf46I qf46O id id qf46F
noncomputable def qf46E : Env := { tf := tfE, mt := mtE, fn := fun f => bif Nat.beq f 145 then some qf45ct else none }
theorem qf46_env : EnvOk PT qf46E := ⟨tyE, (fun f ct h => by
  simp only [qf46E] at h
  refine envCons (c := qf45ct) h qf45_ctr (fun h => ?_)
  cases h), mapE⟩
noncomputable def qf46C : Code := bodyOf Tryz.f107
theorem qf46_bd (y : (Val (.slice TPage))) : @Eq (Option ((Val (.slice TPage)))) (exec qf46E qf0H qf46C (qf46I.mk' (show qf46I.D from y)) (kontF (Z := (Val (.slice TPage))) qf46E Tryz.f107.results.toList qf46O id)) (qf46F y) := by kernel_rfl
theorem qf46_ctr : CtrOk PT 107 qf46ct :=
  @ctr_ok PT qf46E qf0H qf46_env mixed 107 Tryz.f107 qf46C (by kernel_rfl) (by kernel_rfl) (enters_of (by kernel_rfl : PT.funcs[107]? = some Tryz.f107) (by kernel_rfl) (by kernel_rfl)) qf46I qf46O ((Val (.slice TPage))) ((Val (.slice TPage))) id id id id (fun _ => rfl) (fun _ => rfl) (by kernel_rfl) (by kernel_rfl) qf46F qf46_bd (fun _ _ _ _ => noLoops (by kernel_rfl))
noncomputable def qf47 (a0 : Val (.slice TPage)) : Option ((Val (.slice TPage))) :=
(qf46 a0).bind fun r1 =>
some r1
noncomputable def qf47I : Shape := ⟨6, 1, [(0, .own TPage 0)], [(0, .slc false TPage)], [0], false⟩
noncomputable def qf47O : Shape := ⟨7, 1, [(6, .own TPage 0)], [(0, .slc false TPage)], [0], false⟩
noncomputable def qf47F : ((Val (.slice TPage))) → Option ((Val (.slice TPage))) := fun y => qf47 y
noncomputable def qf47ct : Ctr := ctrOf qf47I qf47O id id qf47F
noncomputable def qf47E : Env := { tf := tfE, mt := mtE, fn := fun f => bif Nat.beq f 107 then some qf46ct else none }
theorem qf47_env : EnvOk PT qf47E := ⟨tyE, (fun f ct h => by
  simp only [qf47E] at h
  refine envCons (c := qf46ct) h qf46_ctr (fun h => ?_)
  cases h), mapE⟩
noncomputable def qf47C : Code := bodyOf Tryz.f52
theorem qf47_bd (y : (Val (.slice TPage))) : @Eq (Option ((Val (.slice TPage)))) (exec qf47E qf0H qf47C (qf47I.mk' (show qf47I.D from y)) (kontF (Z := (Val (.slice TPage))) qf47E Tryz.f52.results.toList qf47O id)) (qf47F y) := by kernel_rfl
theorem qf47_ctr : CtrOk PT 52 qf47ct :=
  @ctr_ok PT qf47E qf0H qf47_env mixed 52 Tryz.f52 qf47C (by kernel_rfl) (by kernel_rfl) (enters_of (by kernel_rfl : PT.funcs[52]? = some Tryz.f52) (by kernel_rfl) (by kernel_rfl)) qf47I qf47O ((Val (.slice TPage))) ((Val (.slice TPage))) id id id id (fun _ => rfl) (fun _ => rfl) (by kernel_rfl) (by kernel_rfl) qf47F qf47_bd (fun _ _ _ _ => noLoops (by kernel_rfl))
noncomputable def qf48 (a0 : Val TClaim) (a1 : Val (.slice TPage)) : Option ((Val (.slice (.int .i64))) × (Val (.slice TPage)) × Int × Int × Bool) :=
(qf5 a0.1).bind fun r1 =>
bif (!r1) then (
some ([], [], (0 : Int), (1 : Int), true))
else (
bif (decide (a0.2.1 < (1 : Int))) then (
some ([], [], (0 : Int), (1 : Int), true))
else (
bif (decide ((59 : Int) < a0.2.1)) then (
some ([], [], (0 : Int), (1 : Int), true))
else (
(qf6 a0.2.2.1).bind fun r2 =>
bif (!r2) then (
some ([], [], (0 : Int), (1 : Int), true))
else (
bif (decide (a0.2.2.2.1 < (-1 : Int))) then (
some ([], [], (0 : Int), (1 : Int), true))
else (
bif (decide ((6 : Int) ≤ a0.2.2.2.1)) then (
some ([], [], (0 : Int), (1 : Int), true))
else (
bif (decide (a0.2.2.2.1 = a0.1)) then (
some ([], [], (0 : Int), (1 : Int), true))
else (
bif (!(decide (a0.2.2.2.1 = (-1 : Int)))) then (
(qf16 a1 ([(IntKind.wrap .i64 ((98 : Int) + a0.1))] ++ [(IntKind.wrap .i64 ((98 : Int) + a0.2.2.2.1))])).bind fun r3 =>
bif (decide ((0 : Int) < (((List.length r3) : Nat) : Int))) then (
some (r3, [], (0 : Int), (0 : Int), false))
else (
(qf24 a1 a0.1).bind fun r4 =>
bif (!(decide (r4.2.2.2 = (0 : Int)))) then (
some ([], [], (0 : Int), r4.2.2.2, true))
else (
bif (!(decide (a0.2.2.2.1 = (-1 : Int)))) then (
(qf24 a1 a0.2.2.2.1).bind fun r5 =>
bif (!(decide (r5.2.2.2 = (0 : Int)))) then (
some ([], [], (0 : Int), r5.2.2.2, true))
else (
(qf25 a0.2.2.1).bind fun r6 =>
bif (decide (a0.2.2.2.1 = (-1 : Int))) then (
(qf26 (511 : Int) r6).bind fun r7 =>
(qf28 r7).bind fun r8 =>
(qf16 a1 r8).bind fun r9 =>
bif (decide ((0 : Int) < (((List.length r9) : Nat) : Int))) then (
some (r9, [], (0 : Int), (0 : Int), false))
else (
(qf36 a1 a0.1 r6).bind fun r10 =>
bif (!r10.2) then (
some ([], [], (0 : Int), (12 : Int), true))
else (
(qf35 a1 r10.1).bind fun r11 =>
bif (!r11.2.2.1) then (
(qf27 r10.1).bind fun r12 =>
some ([r12], [], (0 : Int), (0 : Int), false))
else (
bif (!(decide (r11.2.2.2 = (0 : Int)))) then (
some ([], [], (0 : Int), r11.2.2.2, true))
else (
bif (!(decide (r11.2.1.1 = a0.2.2.2.1))) then (
some ([], [], (0 : Int), (11 : Int), true))
else (
bif (decide ((0 : Int) ≤ (IntKind.wrap .u64 r10.1))) then
(qf38 r4.1 (r4.2.1.1, r4.2.1.2.1, (IntKind.wrap .u32 ((BitVec.ofInt (IntKind.bits .u32) r4.2.1.2.2.1 ||| BitVec.ofInt (IntKind.bits .u32) (shiftL .u32 (1 : Int) (IntKind.wrap .u64 r10.1))).toNat : Int)), a0.2.1, r4.2.1.2.2.2.2)).bind fun r13 =>
(qf39 r11.1 (a0.1, r11.2.1.2)).bind fun r14 =>
bif (!(decide (a0.2.2.2.1 = (-1 : Int)))) then (
bif (decide ((0 : Int) ≤ (IntKind.wrap .u64 r10.1))) then
(qf38 r5.1 (r5.2.1.1, r5.2.1.2.1, (IntKind.wrap .u32 ((BitVec.ofInt (IntKind.bits .u32) r5.2.1.2.2.1 &&& ~~~ BitVec.ofInt (IntKind.bits .u32) (shiftL .u32 (1 : Int) (IntKind.wrap .u64 r10.1))).toNat : Int)), r5.2.1.2.2.2)).bind fun r15 =>
(qf47 ([r13.1, r14.1] ++ [r15.1])).bind fun r16 =>
some ([], r16, r10.1, (0 : Int), true)
else none)
else (
(qf47 [r13.1, r14.1]).bind fun r17 =>
some ([], r17, r10.1, (0 : Int), true))
else none))))))
else (
(qf26 r5.2.1.2.2.1 r6).bind fun r18 =>
bif (decide ((((List.length r18) : Nat) : Int) = (0 : Int))) then (
some ([], [], (0 : Int), (16 : Int), true))
else (
bif (inR (0 : Int) (List.length r18)) then
(qf35 a1 (List.getD r18 0 (0 : Int))).bind fun r19 =>
bif (!r19.2.2.1) then (
(qf27 (List.getD r18 0 (0 : Int))).bind fun r20 =>
some ([r20], [], (0 : Int), (0 : Int), false))
else (
bif (!(decide (r19.2.2.2 = (0 : Int)))) then (
some ([], [], (0 : Int), r19.2.2.2, true))
else (
bif (!(decide (r19.2.1.1 = a0.2.2.2.1))) then (
some ([], [], (0 : Int), (11 : Int), true))
else (
bif (decide ((0 : Int) ≤ (IntKind.wrap .u64 (List.getD r18 0 (0 : Int))))) then
(qf38 r4.1 (r4.2.1.1, r4.2.1.2.1, (IntKind.wrap .u32 ((BitVec.ofInt (IntKind.bits .u32) r4.2.1.2.2.1 ||| BitVec.ofInt (IntKind.bits .u32) (shiftL .u32 (1 : Int) (IntKind.wrap .u64 (List.getD r18 0 (0 : Int))))).toNat : Int)), a0.2.1, r4.2.1.2.2.2.2)).bind fun r21 =>
(qf39 r19.1 (a0.1, r19.2.1.2)).bind fun r22 =>
bif (!(decide (a0.2.2.2.1 = (-1 : Int)))) then (
bif (decide ((0 : Int) ≤ (IntKind.wrap .u64 (List.getD r18 0 (0 : Int))))) then
(qf38 r5.1 (r5.2.1.1, r5.2.1.2.1, (IntKind.wrap .u32 ((BitVec.ofInt (IntKind.bits .u32) r5.2.1.2.2.1 &&& ~~~ BitVec.ofInt (IntKind.bits .u32) (shiftL .u32 (1 : Int) (IntKind.wrap .u64 (List.getD r18 0 (0 : Int))))).toNat : Int)), r5.2.1.2.2.2)).bind fun r23 =>
(qf47 ([r21.1, r22.1] ++ [r23.1])).bind fun r24 =>
some ([], r24, (List.getD r18 0 (0 : Int)), (0 : Int), true)
else none)
else (
(qf47 [r21.1, r22.1]).bind fun r25 =>
some ([], r25, (List.getD r18 0 (0 : Int)), (0 : Int), true))
else none)))
else none))))
else (
(qf25 a0.2.2.1).bind fun r26 =>
bif (decide (a0.2.2.2.1 = (-1 : Int))) then (
(qf26 (511 : Int) r26).bind fun r27 =>
(qf28 r27).bind fun r28 =>
(qf16 a1 r28).bind fun r29 =>
bif (decide ((0 : Int) < (((List.length r29) : Nat) : Int))) then (
some (r29, [], (0 : Int), (0 : Int), false))
else (
(qf36 a1 a0.1 r26).bind fun r30 =>
bif (!r30.2) then (
some ([], [], (0 : Int), (12 : Int), true))
else (
(qf35 a1 r30.1).bind fun r31 =>
bif (!r31.2.2.1) then (
(qf27 r30.1).bind fun r32 =>
some ([r32], [], (0 : Int), (0 : Int), false))
else (
bif (!(decide (r31.2.2.2 = (0 : Int)))) then (
some ([], [], (0 : Int), r31.2.2.2, true))
else (
bif (!(decide (r31.2.1.1 = a0.2.2.2.1))) then (
some ([], [], (0 : Int), (11 : Int), true))
else (
bif (decide ((0 : Int) ≤ (IntKind.wrap .u64 r30.1))) then
(qf38 r4.1 (r4.2.1.1, r4.2.1.2.1, (IntKind.wrap .u32 ((BitVec.ofInt (IntKind.bits .u32) r4.2.1.2.2.1 ||| BitVec.ofInt (IntKind.bits .u32) (shiftL .u32 (1 : Int) (IntKind.wrap .u64 r30.1))).toNat : Int)), a0.2.1, r4.2.1.2.2.2.2)).bind fun r33 =>
(qf39 r31.1 (a0.1, r31.2.1.2)).bind fun r34 =>
bif (!(decide (a0.2.2.2.1 = (-1 : Int)))) then (
bif (decide ((0 : Int) ≤ (IntKind.wrap .u64 r30.1))) then
(qf38 ((0 : Int), (0 : Int), (List.replicate 7 (0 : Int)), ()) (false, (0 : Int), (IntKind.wrap .u32 ((BitVec.ofInt (IntKind.bits .u32) (0 : Int) &&& ~~~ BitVec.ofInt (IntKind.bits .u32) (shiftL .u32 (1 : Int) (IntKind.wrap .u64 r30.1))).toNat : Int)), (0 : Int), (List.replicate 4 (((0 : Int), (0 : Int), ()), (0 : Int), ())), ())).bind fun r35 =>
(qf47 ([r33.1, r34.1] ++ [r35.1])).bind fun r36 =>
some ([], r36, r30.1, (0 : Int), true)
else none)
else (
(qf47 [r33.1, r34.1]).bind fun r37 =>
some ([], r37, r30.1, (0 : Int), true))
else none))))))
else (
(qf26 (0 : Int) r26).bind fun r38 =>
bif (decide ((((List.length r38) : Nat) : Int) = (0 : Int))) then (
some ([], [], (0 : Int), (16 : Int), true))
else (
bif (inR (0 : Int) (List.length r38)) then
(qf35 a1 (List.getD r38 0 (0 : Int))).bind fun r39 =>
bif (!r39.2.2.1) then (
(qf27 (List.getD r38 0 (0 : Int))).bind fun r40 =>
some ([r40], [], (0 : Int), (0 : Int), false))
else (
bif (!(decide (r39.2.2.2 = (0 : Int)))) then (
some ([], [], (0 : Int), r39.2.2.2, true))
else (
bif (!(decide (r39.2.1.1 = a0.2.2.2.1))) then (
some ([], [], (0 : Int), (11 : Int), true))
else (
bif (decide ((0 : Int) ≤ (IntKind.wrap .u64 (List.getD r38 0 (0 : Int))))) then
(qf38 r4.1 (r4.2.1.1, r4.2.1.2.1, (IntKind.wrap .u32 ((BitVec.ofInt (IntKind.bits .u32) r4.2.1.2.2.1 ||| BitVec.ofInt (IntKind.bits .u32) (shiftL .u32 (1 : Int) (IntKind.wrap .u64 (List.getD r38 0 (0 : Int))))).toNat : Int)), a0.2.1, r4.2.1.2.2.2.2)).bind fun r41 =>
(qf39 r39.1 (a0.1, r39.2.1.2)).bind fun r42 =>
bif (!(decide (a0.2.2.2.1 = (-1 : Int)))) then (
bif (decide ((0 : Int) ≤ (IntKind.wrap .u64 (List.getD r38 0 (0 : Int))))) then
(qf38 ((0 : Int), (0 : Int), (List.replicate 7 (0 : Int)), ()) (false, (0 : Int), (IntKind.wrap .u32 ((BitVec.ofInt (IntKind.bits .u32) (0 : Int) &&& ~~~ BitVec.ofInt (IntKind.bits .u32) (shiftL .u32 (1 : Int) (IntKind.wrap .u64 (List.getD r38 0 (0 : Int))))).toNat : Int)), (0 : Int), (List.replicate 4 (((0 : Int), (0 : Int), ()), (0 : Int), ())), ())).bind fun r43 =>
(qf47 ([r41.1, r42.1] ++ [r43.1])).bind fun r44 =>
some ([], r44, (List.getD r38 0 (0 : Int)), (0 : Int), true)
else none)
else (
(qf47 [r41.1, r42.1]).bind fun r45 =>
some ([], r45, (List.getD r38 0 (0 : Int)), (0 : Int), true))
else none)))
else none))))))
else (
(qf16 a1 [(IntKind.wrap .i64 ((98 : Int) + a0.1))]).bind fun r46 =>
bif (decide ((0 : Int) < (((List.length r46) : Nat) : Int))) then (
some (r46, [], (0 : Int), (0 : Int), false))
else (
(qf24 a1 a0.1).bind fun r47 =>
bif (!(decide (r47.2.2.2 = (0 : Int)))) then (
some ([], [], (0 : Int), r47.2.2.2, true))
else (
bif (!(decide (a0.2.2.2.1 = (-1 : Int)))) then (
(qf24 a1 a0.2.2.2.1).bind fun r48 =>
bif (!(decide (r48.2.2.2 = (0 : Int)))) then (
some ([], [], (0 : Int), r48.2.2.2, true))
else (
(qf25 a0.2.2.1).bind fun r49 =>
bif (decide (a0.2.2.2.1 = (-1 : Int))) then (
(qf26 (511 : Int) r49).bind fun r50 =>
(qf28 r50).bind fun r51 =>
(qf16 a1 r51).bind fun r52 =>
bif (decide ((0 : Int) < (((List.length r52) : Nat) : Int))) then (
some (r52, [], (0 : Int), (0 : Int), false))
else (
(qf36 a1 a0.1 r49).bind fun r53 =>
bif (!r53.2) then (
some ([], [], (0 : Int), (12 : Int), true))
else (
(qf35 a1 r53.1).bind fun r54 =>
bif (!r54.2.2.1) then (
(qf27 r53.1).bind fun r55 =>
some ([r55], [], (0 : Int), (0 : Int), false))
else (
bif (!(decide (r54.2.2.2 = (0 : Int)))) then (
some ([], [], (0 : Int), r54.2.2.2, true))
else (
bif (!(decide (r54.2.1.1 = a0.2.2.2.1))) then (
some ([], [], (0 : Int), (11 : Int), true))
else (
bif (decide ((0 : Int) ≤ (IntKind.wrap .u64 r53.1))) then
(qf38 r47.1 (r47.2.1.1, r47.2.1.2.1, (IntKind.wrap .u32 ((BitVec.ofInt (IntKind.bits .u32) r47.2.1.2.2.1 ||| BitVec.ofInt (IntKind.bits .u32) (shiftL .u32 (1 : Int) (IntKind.wrap .u64 r53.1))).toNat : Int)), a0.2.1, r47.2.1.2.2.2.2)).bind fun r56 =>
(qf39 r54.1 (a0.1, r54.2.1.2)).bind fun r57 =>
bif (!(decide (a0.2.2.2.1 = (-1 : Int)))) then (
bif (decide ((0 : Int) ≤ (IntKind.wrap .u64 r53.1))) then
(qf38 r48.1 (r48.2.1.1, r48.2.1.2.1, (IntKind.wrap .u32 ((BitVec.ofInt (IntKind.bits .u32) r48.2.1.2.2.1 &&& ~~~ BitVec.ofInt (IntKind.bits .u32) (shiftL .u32 (1 : Int) (IntKind.wrap .u64 r53.1))).toNat : Int)), r48.2.1.2.2.2)).bind fun r58 =>
(qf47 ([r56.1, r57.1] ++ [r58.1])).bind fun r59 =>
some ([], r59, r53.1, (0 : Int), true)
else none)
else (
(qf47 [r56.1, r57.1]).bind fun r60 =>
some ([], r60, r53.1, (0 : Int), true))
else none))))))
else (
(qf26 r48.2.1.2.2.1 r49).bind fun r61 =>
bif (decide ((((List.length r61) : Nat) : Int) = (0 : Int))) then (
some ([], [], (0 : Int), (16 : Int), true))
else (
bif (inR (0 : Int) (List.length r61)) then
(qf35 a1 (List.getD r61 0 (0 : Int))).bind fun r62 =>
bif (!r62.2.2.1) then (
(qf27 (List.getD r61 0 (0 : Int))).bind fun r63 =>
some ([r63], [], (0 : Int), (0 : Int), false))
else (
bif (!(decide (r62.2.2.2 = (0 : Int)))) then (
some ([], [], (0 : Int), r62.2.2.2, true))
else (
bif (!(decide (r62.2.1.1 = a0.2.2.2.1))) then (
some ([], [], (0 : Int), (11 : Int), true))
else (
bif (decide ((0 : Int) ≤ (IntKind.wrap .u64 (List.getD r61 0 (0 : Int))))) then
(qf38 r47.1 (r47.2.1.1, r47.2.1.2.1, (IntKind.wrap .u32 ((BitVec.ofInt (IntKind.bits .u32) r47.2.1.2.2.1 ||| BitVec.ofInt (IntKind.bits .u32) (shiftL .u32 (1 : Int) (IntKind.wrap .u64 (List.getD r61 0 (0 : Int))))).toNat : Int)), a0.2.1, r47.2.1.2.2.2.2)).bind fun r64 =>
(qf39 r62.1 (a0.1, r62.2.1.2)).bind fun r65 =>
bif (!(decide (a0.2.2.2.1 = (-1 : Int)))) then (
bif (decide ((0 : Int) ≤ (IntKind.wrap .u64 (List.getD r61 0 (0 : Int))))) then
(qf38 r48.1 (r48.2.1.1, r48.2.1.2.1, (IntKind.wrap .u32 ((BitVec.ofInt (IntKind.bits .u32) r48.2.1.2.2.1 &&& ~~~ BitVec.ofInt (IntKind.bits .u32) (shiftL .u32 (1 : Int) (IntKind.wrap .u64 (List.getD r61 0 (0 : Int))))).toNat : Int)), r48.2.1.2.2.2)).bind fun r66 =>
(qf47 ([r64.1, r65.1] ++ [r66.1])).bind fun r67 =>
some ([], r67, (List.getD r61 0 (0 : Int)), (0 : Int), true)
else none)
else (
(qf47 [r64.1, r65.1]).bind fun r68 =>
some ([], r68, (List.getD r61 0 (0 : Int)), (0 : Int), true))
else none)))
else none))))
else (
(qf25 a0.2.2.1).bind fun r69 =>
bif (decide (a0.2.2.2.1 = (-1 : Int))) then (
(qf26 (511 : Int) r69).bind fun r70 =>
(qf28 r70).bind fun r71 =>
(qf16 a1 r71).bind fun r72 =>
bif (decide ((0 : Int) < (((List.length r72) : Nat) : Int))) then (
some (r72, [], (0 : Int), (0 : Int), false))
else (
(qf36 a1 a0.1 r69).bind fun r73 =>
bif (!r73.2) then (
some ([], [], (0 : Int), (12 : Int), true))
else (
(qf35 a1 r73.1).bind fun r74 =>
bif (!r74.2.2.1) then (
(qf27 r73.1).bind fun r75 =>
some ([r75], [], (0 : Int), (0 : Int), false))
else (
bif (!(decide (r74.2.2.2 = (0 : Int)))) then (
some ([], [], (0 : Int), r74.2.2.2, true))
else (
bif (!(decide (r74.2.1.1 = a0.2.2.2.1))) then (
some ([], [], (0 : Int), (11 : Int), true))
else (
bif (decide ((0 : Int) ≤ (IntKind.wrap .u64 r73.1))) then
(qf38 r47.1 (r47.2.1.1, r47.2.1.2.1, (IntKind.wrap .u32 ((BitVec.ofInt (IntKind.bits .u32) r47.2.1.2.2.1 ||| BitVec.ofInt (IntKind.bits .u32) (shiftL .u32 (1 : Int) (IntKind.wrap .u64 r73.1))).toNat : Int)), a0.2.1, r47.2.1.2.2.2.2)).bind fun r76 =>
(qf39 r74.1 (a0.1, r74.2.1.2)).bind fun r77 =>
bif (!(decide (a0.2.2.2.1 = (-1 : Int)))) then (
bif (decide ((0 : Int) ≤ (IntKind.wrap .u64 r73.1))) then
(qf38 ((0 : Int), (0 : Int), (List.replicate 7 (0 : Int)), ()) (false, (0 : Int), (IntKind.wrap .u32 ((BitVec.ofInt (IntKind.bits .u32) (0 : Int) &&& ~~~ BitVec.ofInt (IntKind.bits .u32) (shiftL .u32 (1 : Int) (IntKind.wrap .u64 r73.1))).toNat : Int)), (0 : Int), (List.replicate 4 (((0 : Int), (0 : Int), ()), (0 : Int), ())), ())).bind fun r78 =>
(qf47 ([r76.1, r77.1] ++ [r78.1])).bind fun r79 =>
some ([], r79, r73.1, (0 : Int), true)
else none)
else (
(qf47 [r76.1, r77.1]).bind fun r80 =>
some ([], r80, r73.1, (0 : Int), true))
else none))))))
else (
(qf26 (0 : Int) r69).bind fun r81 =>
bif (decide ((((List.length r81) : Nat) : Int) = (0 : Int))) then (
some ([], [], (0 : Int), (16 : Int), true))
else (
bif (inR (0 : Int) (List.length r81)) then
(qf35 a1 (List.getD r81 0 (0 : Int))).bind fun r82 =>
bif (!r82.2.2.1) then (
(qf27 (List.getD r81 0 (0 : Int))).bind fun r83 =>
some ([r83], [], (0 : Int), (0 : Int), false))
else (
bif (!(decide (r82.2.2.2 = (0 : Int)))) then (
some ([], [], (0 : Int), r82.2.2.2, true))
else (
bif (!(decide (r82.2.1.1 = a0.2.2.2.1))) then (
some ([], [], (0 : Int), (11 : Int), true))
else (
bif (decide ((0 : Int) ≤ (IntKind.wrap .u64 (List.getD r81 0 (0 : Int))))) then
(qf38 r47.1 (r47.2.1.1, r47.2.1.2.1, (IntKind.wrap .u32 ((BitVec.ofInt (IntKind.bits .u32) r47.2.1.2.2.1 ||| BitVec.ofInt (IntKind.bits .u32) (shiftL .u32 (1 : Int) (IntKind.wrap .u64 (List.getD r81 0 (0 : Int))))).toNat : Int)), a0.2.1, r47.2.1.2.2.2.2)).bind fun r84 =>
(qf39 r82.1 (a0.1, r82.2.1.2)).bind fun r85 =>
bif (!(decide (a0.2.2.2.1 = (-1 : Int)))) then (
bif (decide ((0 : Int) ≤ (IntKind.wrap .u64 (List.getD r81 0 (0 : Int))))) then
(qf38 ((0 : Int), (0 : Int), (List.replicate 7 (0 : Int)), ()) (false, (0 : Int), (IntKind.wrap .u32 ((BitVec.ofInt (IntKind.bits .u32) (0 : Int) &&& ~~~ BitVec.ofInt (IntKind.bits .u32) (shiftL .u32 (1 : Int) (IntKind.wrap .u64 (List.getD r81 0 (0 : Int))))).toNat : Int)), (0 : Int), (List.replicate 4 (((0 : Int), (0 : Int), ()), (0 : Int), ())), ())).bind fun r86 =>
(qf47 ([r84.1, r85.1] ++ [r86.1])).bind fun r87 =>
some ([], r87, (List.getD r81 0 (0 : Int)), (0 : Int), true)
else none)
else (
(qf47 [r84.1, r85.1]).bind fun r88 =>
some ([], r88, (List.getD r81 0 (0 : Int)), (0 : Int), true))
else none)))
else none)))))))))))))
abbrev qf48Z : Type := (Val (.slice (.int .i64))) × (Val (.slice TPage)) × Int × Int × Bool
noncomputable def qf48I : Shape := ⟨215, 0, [(0, .dat false TClaim), (1, .dat false (.slice TPage))], [], [], true⟩
noncomputable def qf48O : Shape := ⟨216, 0, [(215, .tup (.cons (.dat true (.slice (.int .i64))) (.cons (.dat true (.slice TPage)) (.cons (.dat true (.int .i64)) (.cons (.dat true (.int .i64)) (.cons (.dat true .bool) (.nil)))))))], [], [], true⟩
noncomputable def qf48F : ((Val TClaim) × (Val (.slice TPage))) → Option qf48Z := fun y => qf48 y.1 y.2
noncomputable def qf48ct : Ctr := ctrOf qf48I qf48O id id qf48F
noncomputable def qf48E : Env := { tf := tfE, mt := mtE, fn := fun f => bif Nat.beq f 41 then some qf5ct else bif Nat.beq f 42 then some qf6ct else bif Nat.beq f 43 then some qf16ct else bif Nat.beq f 44 then some qf24ct else bif Nat.beq f 45 then some qf25ct else bif Nat.beq f 47 then some qf26ct else bif Nat.beq f 46 then some qf28ct else bif Nat.beq f 48 then some qf36ct else bif Nat.beq f 49 then some qf35ct else bif Nat.beq f 24 then some qf27ct else bif Nat.beq f 50 then some qf38ct else bif Nat.beq f 51 then some qf39ct else bif Nat.beq f 52 then some qf47ct else none }
theorem qf48_env : EnvOk PT qf48E := ⟨tyE, (fun f ct h => by
  simp only [qf48E] at h
  refine envCons (c := qf5ct) h qf5_ctr (fun h => ?_)
  refine envCons (c := qf6ct) h qf6_ctr (fun h => ?_)
  refine envCons (c := qf16ct) h qf16_ctr (fun h => ?_)
  refine envCons (c := qf24ct) h qf24_ctr (fun h => ?_)
  refine envCons (c := qf25ct) h qf25_ctr (fun h => ?_)
  refine envCons (c := qf26ct) h qf26_ctr (fun h => ?_)
  refine envCons (c := qf28ct) h qf28_ctr (fun h => ?_)
  refine envCons (c := qf36ct) h qf36_ctr (fun h => ?_)
  refine envCons (c := qf35ct) h qf35_ctr (fun h => ?_)
  refine envCons (c := qf27ct) h qf27_ctr (fun h => ?_)
  refine envCons (c := qf38ct) h qf38_ctr (fun h => ?_)
  refine envCons (c := qf39ct) h qf39_ctr (fun h => ?_)
  refine envCons (c := qf47ct) h qf47_ctr (fun h => ?_)
  cases h), mapE⟩
noncomputable def qf48C : Code := bodyOf Tryz.f14
theorem qf48_bd (y : (Val TClaim) × (Val (.slice TPage))) : @Eq (Option qf48Z) (exec qf48E qf0H qf48C (qf48I.mk' (show qf48I.D from y)) (kontF (Z := qf48Z) qf48E Tryz.f14.results.toList qf48O id)) (qf48F y) := by kernel_rfl
theorem qf48_ctr : CtrOk PT 14 qf48ct :=
  @ctr_ok PT qf48E qf0H qf48_env mixed 14 Tryz.f14 qf48C (by kernel_rfl) (by kernel_rfl) (enters_of (by kernel_rfl : PT.funcs[14]? = some Tryz.f14) (by kernel_rfl) (by kernel_rfl)) qf48I qf48O ((Val TClaim) × (Val (.slice TPage))) qf48Z id id id id (fun _ => rfl) (fun _ => rfl) (by kernel_rfl) (by kernel_rfl) qf48F qf48_bd (fun _ _ _ _ => noLoops (by kernel_rfl))
noncomputable def qf49L1b (x0 : Val (.slice TPage)) (x1 : Int) (x2 : Int) (x3 : Int) (x4 : Val (.pair (.int .i64) THead)) (x5 : Val (.slice TPage)) : Option (((Val (.slice TPage)) × Int × Int × Int × (Val (.pair (.int .i64) THead)) × (Val (.slice TPage))) ⊕ (Int × Int × (Val (.pair (.int .i64) THead)) × (Val (.slice TPage)))) :=
bif (decide (x1 < (((List.length x0) : Nat) : Int))) then (
bif (inR x1 (List.length x0)) then
bif (decide ((0 : Int) ≤ (IntKind.wrap .i64 ((List.getD x0 (Int.toNat x1) ((0 : Int), (0 : Int), (List.replicate 7 (0 : Int)), ())).1 - (96 : Int))))) then (
bif (decide ((IntKind.wrap .i64 ((List.getD x0 (Int.toNat x1) ((0 : Int), (0 : Int), (List.replicate 7 (0 : Int)), ())).1 - (96 : Int))) < (((List.length x5) : Nat) : Int))) then (
bif (inR x1 (List.length x0)) then
bif (inR (IntKind.wrap .i64 ((List.getD x0 (Int.toNat x1) ((0 : Int), (0 : Int), (List.replicate 7 (0 : Int)), ())).1 - (96 : Int))) (List.length x5)) then
bif (inR (IntKind.wrap .i64 ((List.getD x0 (Int.toNat x1) ((0 : Int), (0 : Int), (List.replicate 7 (0 : Int)), ())).1 - (96 : Int))) (List.length x5)) then
some (Sum.inl (x0, (IntKind.wrap .i64 (x1 + (1 : Int))), x2, x3, x4, (List.set x5 (Int.toNat (IntKind.wrap .i64 ((List.getD x0 (Int.toNat x1) ((0 : Int), (0 : Int), (List.replicate 7 (0 : Int)), ())).1 - (96 : Int)))) ((List.getD x0 (Int.toNat x1) ((0 : Int), (0 : Int), (List.replicate 7 (0 : Int)), ())).1, (IntKind.wrap .u64 ((IntKind.wrap .u64 ((IntKind.wrap .u64 (Int.tdiv (List.getD x5 (Int.toNat (IntKind.wrap .i64 ((List.getD x0 (Int.toNat x1) ((0 : Int), (0 : Int), (List.replicate 7 (0 : Int)), ())).1 - (96 : Int)))) ((0 : Int), (0 : Int), (List.replicate 7 (0 : Int)), ())).2.1 (256 : Int))) + (1 : Int))) * (256 : Int))), (List.getD x0 (Int.toNat x1) ((0 : Int), (0 : Int), (List.replicate 7 (0 : Int)), ())).2.2))))
else none
else none
else none)
else (
some (Sum.inl (x0, (IntKind.wrap .i64 (x1 + (1 : Int))), x2, x3, x4, x5))))
else (
some (Sum.inl (x0, (IntKind.wrap .i64 (x1 + (1 : Int))), x2, x3, x4, x5)))
else none)
else (
some (Sum.inr (x2, x3, x4, x5)))
noncomputable def qf49L1B : ((Val (.slice TPage)) × Int × Int × Int × (Val (.pair (.int .i64) THead)) × (Val (.slice TPage))) → Option (((Val (.slice TPage)) × Int × Int × Int × (Val (.pair (.int .i64) THead)) × (Val (.slice TPage))) ⊕ (Int × Int × (Val (.pair (.int .i64) THead)) × (Val (.slice TPage)))) := fun y => qf49L1b y.1 y.2.1 y.2.2.1 y.2.2.2.1 y.2.2.2.2.1 y.2.2.2.2.2
noncomputable def qf49L1 (x0 : Val (.slice TPage)) (x1 : Int) (x2 : Int) (x3 : Int) (x4 : Val (.pair (.int .i64) THead)) (x5 : Val (.slice TPage)) : Option (Int × Int × (Val (.pair (.int .i64) THead)) × (Val (.slice TPage))) := iter qf49L1B (x0, x1, x2, x3, x4, x5)
noncomputable def qf49 (a0 : Val (.slice TPage)) (a1 : Int) (a2 : Int) (a3 : Val (.pair (.int .i64) THead)) (a4 : Val (.slice TPage)) : Option (Int × Int × (Val (.pair (.int .i64) THead)) × (Val (.slice TPage))) :=
(qf49L1 a0 (0 : Int) a1 a2 a3 a4).bind fun r1 =>
some r1
abbrev qf49Y : Type := (Val (.slice TPage)) × Int × Int × (Val (.pair (.int .i64) THead)) × (Val (.slice TPage))
abbrev qf49Z : Type := Int × Int × (Val (.pair (.int .i64) THead)) × (Val (.slice TPage))
abbrev qf49L1Y : Type := (Val (.slice TPage)) × Int × Int × Int × (Val (.pair (.int .i64) THead)) × (Val (.slice TPage))
abbrev qf49L1Z : Type := Int × Int × (Val (.pair (.int .i64) THead)) × (Val (.slice TPage))
noncomputable def qf49I : Shape := ⟨53, 2, [(0, .ref 0 []), (1, .dat false (.slice TPage))], [(0, .box TStore (.cons (.own TPage 1) (.cons (.dat false (.int .i64)) (.cons (.dat false (.int .i64)) (.cons (.nils) (.cons (.dat false (.pair (.int .i64) THead)) (.nil))))))), (1, .slc false TPage)], [0, 1], false⟩
noncomputable def qf49O : Shape := ⟨54, 2, [(53, .tup (.nil))], [(0, .box TStore (.cons (.own TPage 1) (.cons (.dat false (.int .i64)) (.cons (.dat false (.int .i64)) (.cons (.nils) (.cons (.dat false (.pair (.int .i64) THead)) (.nil))))))), (1, .slc false TPage)], [0, 1], false⟩
noncomputable def qf49F : qf49Y → Option qf49Z := fun y => qf49 y.1 y.2.1 y.2.2.1 y.2.2.2.1 y.2.2.2.2
noncomputable def qf49ct : Ctr := ctrOf qf49I qf49O id id qf49F
noncomputable def qf49E : Env := { tf := tfE, mt := mtE, fn := fun f => none }
theorem qf49_env : EnvOk PT qf49E := ⟨tyE, (fun f ct h => by
  simp only [qf49E] at h
  cases h), mapE⟩
noncomputable def qf49C : Code := bodyOf Tryz.f26
noncomputable def qf49L1C : Code := (loopsOf qf49C).getD 0 .skip
noncomputable def qf49L1S : Shape := ⟨53, 2, [(0, .ref 0 []), (1, .dat false (.slice TPage)), (4, .dat true (.int .i64))], [(0, .box TStore (.cons (.own TPage 1) (.cons (.dat false (.int .i64)) (.cons (.dat false (.int .i64)) (.cons (.nils) (.cons (.dat false (.pair (.int .i64) THead)) (.nil))))))), (1, .slc false TPage)], [0, 1], false⟩
noncomputable def qf49L1O : List (Ex × Shape) := [(.exit 0, ⟨53, 2, [], [(0, .box TStore (.cons (.own TPage 1) (.cons (.dat false (.int .i64)) (.cons (.dat false (.int .i64)) (.cons (.nils) (.cons (.dat false (.pair (.int .i64) THead)) (.nil))))))), (1, .slc false TPage)], [0, 1], false⟩)]
noncomputable def qf49L1M : Sum := loopSum (Y := qf49L1Y) (Z := qf49L1Z) qf49L1S qf49L1O id id (iter qf49L1B)
noncomputable def qf49H : Nat → Option Sum := fun n => bif Nat.beq n 1 then some qf49L1M else none
theorem qf49L1_bd (y : qf49L1Y) : @Eq (Option (qf49L1Y ⊕ qf49L1Z)) (exec qf49E qf49H qf49L1C (qf49L1S.mk' (show qf49L1S.D from y)) (kont (Y := qf49L1Y) (Z := qf49L1Z) qf49L1S qf49L1O id id)) (qf49L1B y) := by kernel_rfl
theorem qf49L1_ok {w0 : World} {Jo : Io} (hfix : ∀ i b, Jo.fix i = some b → i ∈ [0, 1]) (hmay : false = true → Jo.may) : SumOk PT w0 Jo qf49L1M (.loop qf49L1C) :=
  @loop_ok w0 Jo PT qf49E qf49H qf49L1Y qf49L1Z qf49_env mixed qf49L1C qf49L1S qf49L1O id id id id (fun _ => rfl) (fun _ => rfl) hfix hmay (by kernel_rfl) (noLoops (by kernel_rfl)) qf49L1B qf49L1_bd
theorem qf49_bd (y : qf49Y) : @Eq (Option qf49Z) (exec qf49E qf49H qf49C (qf49I.mk' (show qf49I.D from y)) (kontF (Z := qf49Z) qf49E Tryz.f26.results.toList qf49O id)) (qf49F y) := by kernel_rfl
theorem qf49_lo {w0 : World} {Jo : Io} (hfix : ∀ i b, Jo.fix i = some b → i ∈ [0, 1]) (hmay : false = true → Jo.may) : LoopsOk PT w0 Jo qf49H qf49C := (loopsMk (by kernel_rfl) (loopsCons (c := qf49L1C) (n := 1) (f := qf49L1M) (by kernel_rfl) (by kernel_rfl) (qf49L1_ok hfix hmay) loopsNil))
theorem qf49_ctr : CtrOk PT 26 qf49ct :=
  @ctr_ok PT qf49E qf49H qf49_env mixed 26 Tryz.f26 qf49C (by kernel_rfl) (by kernel_rfl) (enters_of (by kernel_rfl : PT.funcs[26]? = some Tryz.f26) (by kernel_rfl) (by kernel_rfl)) qf49I qf49O qf49Y qf49Z id id id id (fun _ => rfl) (fun _ => rfl) (by kernel_rfl) (by kernel_rfl) qf49F qf49_bd (fun w0 Jo hfix hmay => qf49_lo hfix hmay)
noncomputable def qf50 (a0 : Int) : Option Int :=
bif (inR (shiftR .u32 a0 (24 : Int)) (ByteArray.size str2)) then
bif (inR (IntKind.wrap .u32 ((BitVec.ofInt (IntKind.bits .u32) (shiftR .u32 a0 (16 : Int)) &&& BitVec.ofInt (IntKind.bits .u32) (255 : Int)).toNat : Int)) (ByteArray.size str2)) then
bif (inR (IntKind.wrap .u32 ((BitVec.ofInt (IntKind.bits .u32) (shiftR .u32 a0 (8 : Int)) &&& BitVec.ofInt (IntKind.bits .u32) (255 : Int)).toNat : Int)) (ByteArray.size str2)) then
bif (inR (IntKind.wrap .u32 ((BitVec.ofInt (IntKind.bits .u32) a0 &&& BitVec.ofInt (IntKind.bits .u32) (255 : Int)).toNat : Int)) (ByteArray.size str2)) then
some (IntKind.wrap .i64 (IntKind.wrap .u8 ((IntKind.wrap .u8 ((IntKind.wrap .u8 (((UInt8.toNat (Array.getD (ByteArray.data str2) (Int.toNat (shiftR .u32 a0 (24 : Int))) 0) : Nat) : Int) + ((UInt8.toNat (Array.getD (ByteArray.data str2) (Int.toNat (IntKind.wrap .u32 ((BitVec.ofInt (IntKind.bits .u32) (shiftR .u32 a0 (16 : Int)) &&& BitVec.ofInt (IntKind.bits .u32) (255 : Int)).toNat : Int))) 0) : Nat) : Int))) + ((UInt8.toNat (Array.getD (ByteArray.data str2) (Int.toNat (IntKind.wrap .u32 ((BitVec.ofInt (IntKind.bits .u32) (shiftR .u32 a0 (8 : Int)) &&& BitVec.ofInt (IntKind.bits .u32) (255 : Int)).toNat : Int))) 0) : Nat) : Int))) + ((UInt8.toNat (Array.getD (ByteArray.data str2) (Int.toNat (IntKind.wrap .u32 ((BitVec.ofInt (IntKind.bits .u32) a0 &&& BitVec.ofInt (IntKind.bits .u32) (255 : Int)).toNat : Int))) 0) : Nat) : Int))))
else none
else none
else none
else none
noncomputable def qf50I : Shape := ⟨21, 0, [(0, .dat false (.int .u32))], [], [], true⟩
noncomputable def qf50O : Shape := ⟨22, 0, [(21, .dat true (.int .i64))], [], [], true⟩
noncomputable def qf50F : Int → Option Int := fun y => qf50 y
noncomputable def qf50ct : Ctr := ctrOf qf50I qf50O id id qf50F
noncomputable def qf50E : Env := { tf := tfE, mt := mtE, fn := fun f => none }
theorem qf50_env : EnvOk PT qf50E := ⟨tyE, (fun f ct h => by
  simp only [qf50E] at h
  cases h), mapE⟩
noncomputable def qf50C : Code := bodyOf Tryz.f122
theorem qf50_bd (y : Int) : @Eq (Option Int) (exec qf50E qf0H qf50C (qf50I.mk' (show qf50I.D from y)) (kontF (Z := Int) qf50E Tryz.f122.results.toList qf50O id)) (qf50F y) := by kernel_rfl
theorem qf50_ctr : CtrOk PT 122 qf50ct :=
  @ctr_ok PT qf50E qf0H qf50_env mixed 122 Tryz.f122 qf50C (by kernel_rfl) (by kernel_rfl) (enters_of (by kernel_rfl : PT.funcs[122]? = some Tryz.f122) (by kernel_rfl) (by kernel_rfl)) qf50I qf50O Int Int id id id id (fun _ => rfl) (fun _ => rfl) (by kernel_rfl) (by kernel_rfl) qf50F qf50_bd (fun _ _ _ _ => noLoops (by kernel_rfl))
noncomputable def qf51 (a0 : Val THead) : Option Int :=
(qf50 a0.2.1).bind fun r1 =>
some (IntKind.wrap .i64 ((15 : Int) - r1))
noncomputable def qf51I : Shape := ⟨7, 0, [(0, .dat false THead)], [], [], true⟩
noncomputable def qf51O : Shape := ⟨8, 0, [(7, .dat true (.int .i64))], [], [], true⟩
noncomputable def qf51F : ((Val THead)) → Option Int := fun y => qf51 y
noncomputable def qf51ct : Ctr := ctrOf qf51I qf51O id id qf51F
noncomputable def qf51E : Env := { tf := tfE, mt := mtE, fn := fun f => bif Nat.beq f 122 then some qf50ct else none }
theorem qf51_env : EnvOk PT qf51E := ⟨tyE, (fun f ct h => by
  simp only [qf51E] at h
  refine envCons (c := qf50ct) h qf50_ctr (fun h => ?_)
  cases h), mapE⟩
noncomputable def qf51C : Code := bodyOf Tryz.f69
theorem qf51_bd (y : (Val THead)) : @Eq (Option Int) (exec qf51E qf0H qf51C (qf51I.mk' (show qf51I.D from y)) (kontF (Z := Int) qf51E Tryz.f69.results.toList qf51O id)) (qf51F y) := by kernel_rfl
theorem qf51_ctr : CtrOk PT 69 qf51ct :=
  @ctr_ok PT qf51E qf0H qf51_env mixed 69 Tryz.f69 qf51C (by kernel_rfl) (by kernel_rfl) (enters_of (by kernel_rfl : PT.funcs[69]? = some Tryz.f69) (by kernel_rfl) (by kernel_rfl)) qf51I qf51O ((Val THead)) Int id id id id (fun _ => rfl) (fun _ => rfl) (by kernel_rfl) (by kernel_rfl) qf51F qf51_bd (fun _ _ _ _ => noLoops (by kernel_rfl))
noncomputable def qf52 (a0 : Int) : Option ((Val (.pair (.int .i64) THead))) :=
some ((IntKind.wrap .i64 (IntKind.wrap .u64 ((BitVec.ofInt (IntKind.bits .u64) a0 &&& BitVec.ofInt (IntKind.bits .u64) (255 : Int)).toNat : Int))), (IntKind.wrap .i64 (IntKind.wrap .u64 ((BitVec.ofInt (IntKind.bits .u64) (shiftR .u64 a0 (8 : Int)) &&& BitVec.ofInt (IntKind.bits .u64) (16777215 : Int)).toNat : Int))), (IntKind.wrap .u32 (shiftR .u64 a0 (32 : Int))), ())
noncomputable def qf52I : Shape := ⟨14, 0, [(0, .dat false (.int .u64))], [], [], true⟩
noncomputable def qf52O : Shape := ⟨15, 0, [(14, .dat true (.pair (.int .i64) THead))], [], [], true⟩
noncomputable def qf52F : Int → Option ((Val (.pair (.int .i64) THead))) := fun y => qf52 y
noncomputable def qf52ct : Ctr := ctrOf qf52I qf52O id id qf52F
noncomputable def qf52E : Env := { tf := tfE, mt := mtE, fn := fun f => none }
theorem qf52_env : EnvOk PT qf52E := ⟨tyE, (fun f ct h => by
  simp only [qf52E] at h
  cases h), mapE⟩
noncomputable def qf52C : Code := bodyOf Tryz.f71
theorem qf52_bd (y : Int) : @Eq (Option ((Val (.pair (.int .i64) THead)))) (exec qf52E qf0H qf52C (qf52I.mk' (show qf52I.D from y)) (kontF (Z := (Val (.pair (.int .i64) THead))) qf52E Tryz.f71.results.toList qf52O id)) (qf52F y) := by kernel_rfl
theorem qf52_ctr : CtrOk PT 71 qf52ct :=
  @ctr_ok PT qf52E qf0H qf52_env mixed 71 Tryz.f71 qf52C (by kernel_rfl) (by kernel_rfl) (enters_of (by kernel_rfl : PT.funcs[71]? = some Tryz.f71) (by kernel_rfl) (by kernel_rfl)) qf52I qf52O Int ((Val (.pair (.int .i64) THead))) id id id id (fun _ => rfl) (fun _ => rfl) (by kernel_rfl) (by kernel_rfl) qf52F qf52_bd (fun _ _ _ _ => noLoops (by kernel_rfl))
noncomputable def qf53L1b (x0 : Val (.slice TPage)) (x1 : Val (.slice (.int .i64))) (x2 : Val (.slice (.int .i64))) (x3 : Int) (x4 : Int) (x5 : Val TReq) (x6 : Val (.slice (.int .i64))) (x7 : Val (.slice (.pair (.int .i64) TPage))) (x8 : Val (.slice (.pair (.int .i64) THead))) : Option (((Val (.slice TPage)) × (Val (.slice (.int .i64))) × (Val (.slice (.int .i64))) × Int × Int × (Val TReq) × (Val (.slice (.int .i64))) × (Val (.slice (.pair (.int .i64) TPage))) × (Val (.slice (.pair (.int .i64) THead)))) ⊕ (((Val (.slice TPage)) × (Val (.slice (.int .i64))) × (Val TReq) × (Val (.slice (.int .i64))) × (Val (.slice (.pair (.int .i64) TPage))) × (Val (.slice (.pair (.int .i64) THead)))) ⊕ (Int × Bool))) :=
bif (decide (x4 < x3)) then (
bif (inR x4 (List.length x2)) then
(qf35 x0 (List.getD x2 (Int.toNat x4) (0 : Int))).bind fun r1 =>
bif (!(decide (r1.2.2.2 = (0 : Int)))) then (
some (Sum.inr (Sum.inr (r1.2.2.2, true))))
else (
bif (!(decide (r1.2.1.1 = x5.1))) then (
some (Sum.inr (Sum.inr ((11 : Int), true))))
else (
some (Sum.inl (x0, x1, x2, x3, (IntKind.wrap .i64 (x4 + (1 : Int))), x5, x6, (upsV x7 (List.getD x2 (Int.toNat x4) (0 : Int)) r1.1), (upsV x8 (List.getD x2 (Int.toNat x4) (0 : Int)) r1.2.1)))))
else none)
else (
some (Sum.inr (Sum.inl (x0, x1, x5, x6, x7, x8))))
noncomputable def qf53L1B : ((Val (.slice TPage)) × (Val (.slice (.int .i64))) × (Val (.slice (.int .i64))) × Int × Int × (Val TReq) × (Val (.slice (.int .i64))) × (Val (.slice (.pair (.int .i64) TPage))) × (Val (.slice (.pair (.int .i64) THead)))) → Option (((Val (.slice TPage)) × (Val (.slice (.int .i64))) × (Val (.slice (.int .i64))) × Int × Int × (Val TReq) × (Val (.slice (.int .i64))) × (Val (.slice (.pair (.int .i64) TPage))) × (Val (.slice (.pair (.int .i64) THead)))) ⊕ (((Val (.slice TPage)) × (Val (.slice (.int .i64))) × (Val TReq) × (Val (.slice (.int .i64))) × (Val (.slice (.pair (.int .i64) TPage))) × (Val (.slice (.pair (.int .i64) THead)))) ⊕ (Int × Bool))) := fun y => qf53L1b y.1 y.2.1 y.2.2.1 y.2.2.2.1 y.2.2.2.2.1 y.2.2.2.2.2.1 y.2.2.2.2.2.2.1 y.2.2.2.2.2.2.2.1 y.2.2.2.2.2.2.2.2
noncomputable def qf53L1 (x0 : Val (.slice TPage)) (x1 : Val (.slice (.int .i64))) (x2 : Val (.slice (.int .i64))) (x3 : Int) (x4 : Int) (x5 : Val TReq) (x6 : Val (.slice (.int .i64))) (x7 : Val (.slice (.pair (.int .i64) TPage))) (x8 : Val (.slice (.pair (.int .i64) THead))) : Option (((Val (.slice TPage)) × (Val (.slice (.int .i64))) × (Val TReq) × (Val (.slice (.int .i64))) × (Val (.slice (.pair (.int .i64) TPage))) × (Val (.slice (.pair (.int .i64) THead)))) ⊕ (Int × Bool)) := iter qf53L1B (x0, x1, x2, x3, x4, x5, x6, x7, x8)
noncomputable def qf53L2b (x0 : Val (.slice TPage)) (x1 : Val (.slice (.int .i64))) (x2 : Val (.slice (.int .i64))) (x3 : Int) (x4 : Int) (x5 : Val TReq) (x6 : Val (.slice (.int .i64))) (x7 : Val (.slice (.pair (.int .i64) TPage))) (x8 : Val (.slice (.pair (.int .i64) THead))) : Option (((Val (.slice TPage)) × (Val (.slice (.int .i64))) × (Val (.slice (.int .i64))) × Int × Int × (Val TReq) × (Val (.slice (.int .i64))) × (Val (.slice (.pair (.int .i64) TPage))) × (Val (.slice (.pair (.int .i64) THead)))) ⊕ ((Val (.slice TPage)) × (Val (.slice (.int .i64))) × (Val TReq) × (Val (.slice (.int .i64))) × (Val (.slice (.pair (.int .i64) TPage))) × (Val (.slice (.pair (.int .i64) THead))))) :=
bif (decide (x4 < x3)) then (
bif (inR x4 (List.length x2)) then
(qf51 (Option.getD (lookV x8 (List.getD x2 (Int.toNat x4) (0 : Int))) ((0 : Int), (0 : Int), ()))).bind fun r1 =>
bif (decide (x5.2.2.1 ≤ r1)) then (
some (Sum.inr (x0, [(List.getD x2 (Int.toNat x4) (0 : Int))], x5, x6, x7, x8)))
else (
some (Sum.inl (x0, x1, x2, x3, (IntKind.wrap .i64 (x4 + (1 : Int))), x5, x6, x7, x8)))
else none)
else (
some (Sum.inr (x0, x1, x5, x6, x7, x8)))
noncomputable def qf53L2B : ((Val (.slice TPage)) × (Val (.slice (.int .i64))) × (Val (.slice (.int .i64))) × Int × Int × (Val TReq) × (Val (.slice (.int .i64))) × (Val (.slice (.pair (.int .i64) TPage))) × (Val (.slice (.pair (.int .i64) THead)))) → Option (((Val (.slice TPage)) × (Val (.slice (.int .i64))) × (Val (.slice (.int .i64))) × Int × Int × (Val TReq) × (Val (.slice (.int .i64))) × (Val (.slice (.pair (.int .i64) TPage))) × (Val (.slice (.pair (.int .i64) THead)))) ⊕ ((Val (.slice TPage)) × (Val (.slice (.int .i64))) × (Val TReq) × (Val (.slice (.int .i64))) × (Val (.slice (.pair (.int .i64) TPage))) × (Val (.slice (.pair (.int .i64) THead))))) := fun y => qf53L2b y.1 y.2.1 y.2.2.1 y.2.2.2.1 y.2.2.2.2.1 y.2.2.2.2.2.1 y.2.2.2.2.2.2.1 y.2.2.2.2.2.2.2.1 y.2.2.2.2.2.2.2.2
noncomputable def qf53L2 (x0 : Val (.slice TPage)) (x1 : Val (.slice (.int .i64))) (x2 : Val (.slice (.int .i64))) (x3 : Int) (x4 : Int) (x5 : Val TReq) (x6 : Val (.slice (.int .i64))) (x7 : Val (.slice (.pair (.int .i64) TPage))) (x8 : Val (.slice (.pair (.int .i64) THead))) : Option ((Val (.slice TPage)) × (Val (.slice (.int .i64))) × (Val TReq) × (Val (.slice (.int .i64))) × (Val (.slice (.pair (.int .i64) TPage))) × (Val (.slice (.pair (.int .i64) THead)))) := iter qf53L2B (x0, x1, x2, x3, x4, x5, x6, x7, x8)
noncomputable def qf53L3b (x0 : Val (.slice TPage)) (x1 : Val (.slice (.int .i64))) (x2 : Int) (x3 : Int) (x4 : Int) (x5 : Val (.slice (.int .i64))) (x6 : Int) (x7 : Int) (x8 : Val TReq) (x9 : Val (.slice (.int .i64))) (x10 : Val (.slice TPage)) (x11 : Val (.slice (.pair (.int .i64) TPage))) (x12 : Val (.slice (.pair (.int .i64) THead))) (x13 : Val (.slice (.pair (.int .i64) THead))) (x14 : Val THead) : Option (((Val (.slice TPage)) × (Val (.slice (.int .i64))) × Int × Int × Int × (Val (.slice (.int .i64))) × Int × Int × (Val TReq) × (Val (.slice (.int .i64))) × (Val (.slice TPage)) × (Val (.slice (.pair (.int .i64) TPage))) × (Val (.slice (.pair (.int .i64) THead))) × (Val (.slice (.pair (.int .i64) THead))) × (Val THead)) ⊕ (((Val (.slice TPage)) × (Val (.slice (.int .i64))) × Int × (Val (.slice (.int .i64))) × Int × Int × (Val TReq) × (Val (.slice (.int .i64))) × (Val (.slice TPage)) × (Val (.slice (.pair (.int .i64) TPage))) × (Val (.slice (.pair (.int .i64) THead))) × (Val (.slice (.pair (.int .i64) THead)))) ⊕ (Int × Bool))) :=
bif (decide (x4 < (16 : Int))) then (
bif (decide (x2 < x8.2.2.1)) then (
bif (decide ((0 : Int) ≤ (IntKind.wrap .u64 x4))) then
bif (decide ((IntKind.wrap .u32 ((BitVec.ofInt (IntKind.bits .u32) (shiftR .u32 x14.2.1 (IntKind.wrap .u64 x4)) &&& BitVec.ofInt (IntKind.bits .u32) (1 : Int)).toNat : Int)) = (1 : Int))) then (
some (Sum.inl (x0, x1, x2, x3, (IntKind.wrap .i64 (x4 + (1 : Int))), x5, x6, x7, x8, x9, x10, x11, x12, x13, x14)))
else (
(qf27 x3).bind fun r1 =>
(qf7 x0 (IntKind.wrap .i64 (r1 + x4))).bind fun r2 =>
(qf52 (List.getD r2.1.2.2.1 0 (0 : Int))).bind fun r3 =>
bif (!r2.2) then (
bif (decide (((List.length x9) + 1) ≤ lim)) then
bif (decide ((0 : Int) ≤ (IntKind.wrap .u64 x4))) then
some (Sum.inl (x0, x1, (IntKind.wrap .i64 (x2 + (1 : Int))), x3, (IntKind.wrap .i64 (x4 + (1 : Int))), x5, x6, x7, x8, (x9 ++ [(IntKind.wrap .i64 (r1 + x4))]), x10, x11, x12, (upsV x13 x3 (x14.1, (IntKind.wrap .u32 ((BitVec.ofInt (IntKind.bits .u32) x14.2.1 ||| BitVec.ofInt (IntKind.bits .u32) (shiftL .u32 (1 : Int) (IntKind.wrap .u64 x4))).toNat : Int)), x14.2.2)), x14.1, (IntKind.wrap .u32 ((BitVec.ofInt (IntKind.bits .u32) x14.2.1 ||| BitVec.ofInt (IntKind.bits .u32) (shiftL .u32 (1 : Int) (IntKind.wrap .u64 x4))).toNat : Int)), x14.2.2))
else none
else none)
else (
(qf17 r2.1).bind fun r4 =>
bif r4 then (
some (Sum.inr (Sum.inr ((3 : Int), true))))
else (
bif (!(decide (r3.1 = (0 : Int)))) then (
some (Sum.inr (Sum.inr ((11 : Int), true))))
else (
bif (decide (r3.2.1 = (16777215 : Int))) then (
some (Sum.inl (x0, x1, x2, x3, (IntKind.wrap .i64 (x4 + (1 : Int))), x5, x6, x7, x8, x9, x10, x11, x12, x13, x14)))
else (
bif (decide (((List.length x10) + 1) ≤ lim)) then
bif (decide ((0 : Int) ≤ (IntKind.wrap .u64 x4))) then
some (Sum.inl (x0, x1, (IntKind.wrap .i64 (x2 + (1 : Int))), x3, (IntKind.wrap .i64 (x4 + (1 : Int))), x5, x6, x7, x8, x9, (x10 ++ [r2.1]), x11, x12, (upsV x13 x3 (x14.1, (IntKind.wrap .u32 ((BitVec.ofInt (IntKind.bits .u32) x14.2.1 ||| BitVec.ofInt (IntKind.bits .u32) (shiftL .u32 (1 : Int) (IntKind.wrap .u64 x4))).toNat : Int)), x14.2.2)), x14.1, (IntKind.wrap .u32 ((BitVec.ofInt (IntKind.bits .u32) x14.2.1 ||| BitVec.ofInt (IntKind.bits .u32) (shiftL .u32 (1 : Int) (IntKind.wrap .u64 x4))).toNat : Int)), x14.2.2))
else none
else none)))))
else none)
else (
some (Sum.inr (Sum.inl (x0, x1, x2, x5, x6, x7, x8, x9, x10, x11, x12, x13)))))
else (
some (Sum.inr (Sum.inl (x0, x1, x2, x5, x6, x7, x8, x9, x10, x11, x12, x13))))
noncomputable def qf53L3B : ((Val (.slice TPage)) × (Val (.slice (.int .i64))) × Int × Int × Int × (Val (.slice (.int .i64))) × Int × Int × (Val TReq) × (Val (.slice (.int .i64))) × (Val (.slice TPage)) × (Val (.slice (.pair (.int .i64) TPage))) × (Val (.slice (.pair (.int .i64) THead))) × (Val (.slice (.pair (.int .i64) THead))) × (Val THead)) → Option (((Val (.slice TPage)) × (Val (.slice (.int .i64))) × Int × Int × Int × (Val (.slice (.int .i64))) × Int × Int × (Val TReq) × (Val (.slice (.int .i64))) × (Val (.slice TPage)) × (Val (.slice (.pair (.int .i64) TPage))) × (Val (.slice (.pair (.int .i64) THead))) × (Val (.slice (.pair (.int .i64) THead))) × (Val THead)) ⊕ (((Val (.slice TPage)) × (Val (.slice (.int .i64))) × Int × (Val (.slice (.int .i64))) × Int × Int × (Val TReq) × (Val (.slice (.int .i64))) × (Val (.slice TPage)) × (Val (.slice (.pair (.int .i64) TPage))) × (Val (.slice (.pair (.int .i64) THead))) × (Val (.slice (.pair (.int .i64) THead)))) ⊕ (Int × Bool))) := fun y => qf53L3b y.1 y.2.1 y.2.2.1 y.2.2.2.1 y.2.2.2.2.1 y.2.2.2.2.2.1 y.2.2.2.2.2.2.1 y.2.2.2.2.2.2.2.1 y.2.2.2.2.2.2.2.2.1 y.2.2.2.2.2.2.2.2.2.1 y.2.2.2.2.2.2.2.2.2.2.1 y.2.2.2.2.2.2.2.2.2.2.2.1 y.2.2.2.2.2.2.2.2.2.2.2.2.1 y.2.2.2.2.2.2.2.2.2.2.2.2.2.1 y.2.2.2.2.2.2.2.2.2.2.2.2.2.2
noncomputable def qf53L3 (x0 : Val (.slice TPage)) (x1 : Val (.slice (.int .i64))) (x2 : Int) (x3 : Int) (x4 : Int) (x5 : Val (.slice (.int .i64))) (x6 : Int) (x7 : Int) (x8 : Val TReq) (x9 : Val (.slice (.int .i64))) (x10 : Val (.slice TPage)) (x11 : Val (.slice (.pair (.int .i64) TPage))) (x12 : Val (.slice (.pair (.int .i64) THead))) (x13 : Val (.slice (.pair (.int .i64) THead))) (x14 : Val THead) : Option (((Val (.slice TPage)) × (Val (.slice (.int .i64))) × Int × (Val (.slice (.int .i64))) × Int × Int × (Val TReq) × (Val (.slice (.int .i64))) × (Val (.slice TPage)) × (Val (.slice (.pair (.int .i64) TPage))) × (Val (.slice (.pair (.int .i64) THead))) × (Val (.slice (.pair (.int .i64) THead)))) ⊕ (Int × Bool)) := iter qf53L3B (x0, x1, x2, x3, x4, x5, x6, x7, x8, x9, x10, x11, x12, x13, x14)
noncomputable def qf53L4b (x0 : Val (.slice TPage)) (x1 : Val (.slice (.int .i64))) (x2 : Int) (x3 : Val (.slice (.int .i64))) (x4 : Int) (x5 : Int) (x6 : Val TReq) (x7 : Val (.slice (.int .i64))) (x8 : Val (.slice TPage)) (x9 : Val (.slice (.pair (.int .i64) TPage))) (x10 : Val (.slice (.pair (.int .i64) THead))) (x11 : Val (.slice (.pair (.int .i64) THead))) : Option (((Val (.slice TPage)) × (Val (.slice (.int .i64))) × Int × (Val (.slice (.int .i64))) × Int × Int × (Val TReq) × (Val (.slice (.int .i64))) × (Val (.slice TPage)) × (Val (.slice (.pair (.int .i64) TPage))) × (Val (.slice (.pair (.int .i64) THead))) × (Val (.slice (.pair (.int .i64) THead)))) ⊕ (((Val (.slice (.int .i64))) × Int × (Val TReq) × (Val (.slice (.int .i64))) × (Val (.slice TPage)) × (Val (.slice (.pair (.int .i64) TPage))) × (Val (.slice (.pair (.int .i64) THead)))) ⊕ (Int × Bool))) :=
bif (decide (x5 < x4)) then (
bif (inR x5 (List.length x3)) then
(qf53L3 x0 x1 x2 (List.getD x3 (Int.toNat x5) (0 : Int)) (1 : Int) x3 x4 x5 x6 x7 x8 x9 x10 x11 (Option.getD (lookV x10 (List.getD x3 (Int.toNat x5) (0 : Int))) ((0 : Int), (0 : Int), ()))).bind fun r1 =>
match r1 with
| .inl r2 => (
some (Sum.inl (r2.1, r2.2.1, r2.2.2.1, r2.2.2.2.1, r2.2.2.2.2.1, (IntKind.wrap .i64 (r2.2.2.2.2.2.1 + (1 : Int))), r2.2.2.2.2.2.2)))
| .inr r3 => (
some (Sum.inr (Sum.inr r3)))
else none)
else (
some (Sum.inr (Sum.inl (x1, x2, x6, x7, x8, x9, x11))))
noncomputable def qf53L4B : ((Val (.slice TPage)) × (Val (.slice (.int .i64))) × Int × (Val (.slice (.int .i64))) × Int × Int × (Val TReq) × (Val (.slice (.int .i64))) × (Val (.slice TPage)) × (Val (.slice (.pair (.int .i64) TPage))) × (Val (.slice (.pair (.int .i64) THead))) × (Val (.slice (.pair (.int .i64) THead)))) → Option (((Val (.slice TPage)) × (Val (.slice (.int .i64))) × Int × (Val (.slice (.int .i64))) × Int × Int × (Val TReq) × (Val (.slice (.int .i64))) × (Val (.slice TPage)) × (Val (.slice (.pair (.int .i64) TPage))) × (Val (.slice (.pair (.int .i64) THead))) × (Val (.slice (.pair (.int .i64) THead)))) ⊕ (((Val (.slice (.int .i64))) × Int × (Val TReq) × (Val (.slice (.int .i64))) × (Val (.slice TPage)) × (Val (.slice (.pair (.int .i64) TPage))) × (Val (.slice (.pair (.int .i64) THead)))) ⊕ (Int × Bool))) := fun y => qf53L4b y.1 y.2.1 y.2.2.1 y.2.2.2.1 y.2.2.2.2.1 y.2.2.2.2.2.1 y.2.2.2.2.2.2.1 y.2.2.2.2.2.2.2.1 y.2.2.2.2.2.2.2.2.1 y.2.2.2.2.2.2.2.2.2.1 y.2.2.2.2.2.2.2.2.2.2.1 y.2.2.2.2.2.2.2.2.2.2.2
noncomputable def qf53L4 (x0 : Val (.slice TPage)) (x1 : Val (.slice (.int .i64))) (x2 : Int) (x3 : Val (.slice (.int .i64))) (x4 : Int) (x5 : Int) (x6 : Val TReq) (x7 : Val (.slice (.int .i64))) (x8 : Val (.slice TPage)) (x9 : Val (.slice (.pair (.int .i64) TPage))) (x10 : Val (.slice (.pair (.int .i64) THead))) (x11 : Val (.slice (.pair (.int .i64) THead))) : Option (((Val (.slice (.int .i64))) × Int × (Val TReq) × (Val (.slice (.int .i64))) × (Val (.slice TPage)) × (Val (.slice (.pair (.int .i64) TPage))) × (Val (.slice (.pair (.int .i64) THead)))) ⊕ (Int × Bool)) := iter qf53L4B (x0, x1, x2, x3, x4, x5, x6, x7, x8, x9, x10, x11)
noncomputable def qf53L5b (x0 : Val (.slice (.int .i64))) (x1 : Int) (x2 : Int) (x3 : Val (.slice TPage)) (x4 : Val (.slice TPage)) (x5 : Val (.slice (.pair (.int .i64) TPage))) (x6 : Val (.slice (.pair (.int .i64) THead))) : Option (((Val (.slice (.int .i64))) × Int × Int × (Val (.slice TPage)) × (Val (.slice TPage)) × (Val (.slice (.pair (.int .i64) TPage))) × (Val (.slice (.pair (.int .i64) THead)))) ⊕ ((Val (.slice TPage)) × (Val (.slice TPage)))) :=
bif (decide (x2 < x1)) then (
bif (inR x2 (List.length x0)) then
bif (Option.isSome (lookV x6 (List.getD x0 (Int.toNat x2) (0 : Int)))) then (
(qf39 (Option.getD (lookV x5 (List.getD x0 (Int.toNat x2) (0 : Int))) ((0 : Int), (0 : Int), (List.replicate 7 (0 : Int)), ())) (Option.getD (lookV x6 (List.getD x0 (Int.toNat x2) (0 : Int))) ((0 : Int), (0 : Int), ()))).bind fun r1 =>
bif (decide (((List.length x4) + 1) ≤ lim)) then
some (Sum.inl (x0, x1, (IntKind.wrap .i64 (x2 + (1 : Int))), x3, (x4 ++ [r1.1]), x5, x6))
else none)
else (
some (Sum.inl (x0, x1, (IntKind.wrap .i64 (x2 + (1 : Int))), x3, x4, x5, x6)))
else none)
else (
some (Sum.inr (x3, x4)))
noncomputable def qf53L5B : ((Val (.slice (.int .i64))) × Int × Int × (Val (.slice TPage)) × (Val (.slice TPage)) × (Val (.slice (.pair (.int .i64) TPage))) × (Val (.slice (.pair (.int .i64) THead)))) → Option (((Val (.slice (.int .i64))) × Int × Int × (Val (.slice TPage)) × (Val (.slice TPage)) × (Val (.slice (.pair (.int .i64) TPage))) × (Val (.slice (.pair (.int .i64) THead)))) ⊕ ((Val (.slice TPage)) × (Val (.slice TPage)))) := fun y => qf53L5b y.1 y.2.1 y.2.2.1 y.2.2.2.1 y.2.2.2.2.1 y.2.2.2.2.2.1 y.2.2.2.2.2.2
noncomputable def qf53L5 (x0 : Val (.slice (.int .i64))) (x1 : Int) (x2 : Int) (x3 : Val (.slice TPage)) (x4 : Val (.slice TPage)) (x5 : Val (.slice (.pair (.int .i64) TPage))) (x6 : Val (.slice (.pair (.int .i64) THead))) : Option ((Val (.slice TPage)) × (Val (.slice TPage))) := iter qf53L5B (x0, x1, x2, x3, x4, x5, x6)
noncomputable def qf53 (a0 : Val TReq) (a1 : Val (.slice TPage)) : Option ((Val (.slice (.int .i64))) × (Val (.slice TPage)) × (Val (.slice TPage)) × Int × Bool) :=
(qf5 a0.1).bind fun r1 =>
bif (!r1) then (
some ([], [], [], (1 : Int), true))
else (
(qf6 a0.2.1).bind fun r2 =>
bif (!r2) then (
some ([], [], [], (1 : Int), true))
else (
bif (decide (a0.2.2.1 < (1 : Int))) then (
some ([], [], [], (1 : Int), true))
else (
bif (decide ((12 : Int) < a0.2.2.1)) then (
some ([], [], [], (1 : Int), true))
else (
(qf24 a1 a0.1).bind fun r3 =>
bif (!r3.2.2.1) then (
some ([(IntKind.wrap .i64 ((98 : Int) + a0.1))], [], [], (0 : Int), false))
else (
bif (!(decide (r3.2.2.2 = (0 : Int)))) then (
some ([], [], [], r3.2.2.2, true))
else (
(qf25 a0.2.1).bind fun r4 =>
(qf26 r3.2.1.2.2.1 r4).bind fun r5 =>
(qf28 r5).bind fun r6 =>
(qf16 a1 r6).bind fun r7 =>
bif (decide ((0 : Int) < (((List.length r7) : Nat) : Int))) then (
some (r7, [], [], (0 : Int), false))
else (
(qf53L1 a1 r5 r5 (((List.length r5) : Nat) : Int) (0 : Int) a0 r7 [] []).bind fun r8 =>
match r8 with
| .inl r9 => (
(qf53L2 r9.1 r9.2.1 r9.2.1 (((List.length r9.2.1) : Nat) : Int) (0 : Int) r9.2.2.1 r9.2.2.2.1 r9.2.2.2.2.1 r9.2.2.2.2.2).bind fun r11 =>
(qf53L4 r11.1 r11.2.1 (0 : Int) r11.2.1 (((List.length r11.2.1) : Nat) : Int) (0 : Int) r11.2.2.1 r11.2.2.2.1 [] r11.2.2.2.2.1 r11.2.2.2.2.2 []).bind fun r12 =>
match r12 with
| .inl r13 => (
bif (decide (r13.2.1 < r13.2.2.1.2.2.1)) then (
some ([], [], [], (12 : Int), true))
else (
bif (decide ((0 : Int) < (((List.length r13.2.2.2.1) : Nat) : Int))) then (
some (r13.2.2.2.1, [], [], (0 : Int), false))
else (
(qf53L5 r13.1 (((List.length r13.1) : Nat) : Int) (0 : Int) r13.2.2.2.2.1 [] r13.2.2.2.2.2.1 r13.2.2.2.2.2.2).bind fun r15 =>
some ([], r15.1, r15.2, (0 : Int), true))))
| .inr r14 => (
some ([], [], [], r14)))
| .inr r10 => (
some ([], [], [], r10)))))))))
abbrev qf53Z : Type := (Val (.slice (.int .i64))) × (Val (.slice TPage)) × (Val (.slice TPage)) × Int × Bool
abbrev qf53L1Y : Type := (Val (.slice TPage)) × (Val (.slice (.int .i64))) × (Val (.slice (.int .i64))) × Int × Int × (Val TReq) × (Val (.slice (.int .i64))) × (Val (.slice (.pair (.int .i64) TPage))) × (Val (.slice (.pair (.int .i64) THead)))
abbrev qf53L1Z : Type := ((Val (.slice TPage)) × (Val (.slice (.int .i64))) × (Val TReq) × (Val (.slice (.int .i64))) × (Val (.slice (.pair (.int .i64) TPage))) × (Val (.slice (.pair (.int .i64) THead)))) ⊕ (Int × Bool)
abbrev qf53L2Y : Type := (Val (.slice TPage)) × (Val (.slice (.int .i64))) × (Val (.slice (.int .i64))) × Int × Int × (Val TReq) × (Val (.slice (.int .i64))) × (Val (.slice (.pair (.int .i64) TPage))) × (Val (.slice (.pair (.int .i64) THead)))
abbrev qf53L2Z : Type := (Val (.slice TPage)) × (Val (.slice (.int .i64))) × (Val TReq) × (Val (.slice (.int .i64))) × (Val (.slice (.pair (.int .i64) TPage))) × (Val (.slice (.pair (.int .i64) THead)))
abbrev qf53L3Y : Type := (Val (.slice TPage)) × (Val (.slice (.int .i64))) × Int × Int × Int × (Val (.slice (.int .i64))) × Int × Int × (Val TReq) × (Val (.slice (.int .i64))) × (Val (.slice TPage)) × (Val (.slice (.pair (.int .i64) TPage))) × (Val (.slice (.pair (.int .i64) THead))) × (Val (.slice (.pair (.int .i64) THead))) × (Val THead)
abbrev qf53L3Z : Type := ((Val (.slice TPage)) × (Val (.slice (.int .i64))) × Int × (Val (.slice (.int .i64))) × Int × Int × (Val TReq) × (Val (.slice (.int .i64))) × (Val (.slice TPage)) × (Val (.slice (.pair (.int .i64) TPage))) × (Val (.slice (.pair (.int .i64) THead))) × (Val (.slice (.pair (.int .i64) THead)))) ⊕ (Int × Bool)
abbrev qf53L4Y : Type := (Val (.slice TPage)) × (Val (.slice (.int .i64))) × Int × (Val (.slice (.int .i64))) × Int × Int × (Val TReq) × (Val (.slice (.int .i64))) × (Val (.slice TPage)) × (Val (.slice (.pair (.int .i64) TPage))) × (Val (.slice (.pair (.int .i64) THead))) × (Val (.slice (.pair (.int .i64) THead)))
abbrev qf53L4Z : Type := ((Val (.slice (.int .i64))) × Int × (Val TReq) × (Val (.slice (.int .i64))) × (Val (.slice TPage)) × (Val (.slice (.pair (.int .i64) TPage))) × (Val (.slice (.pair (.int .i64) THead)))) ⊕ (Int × Bool)
abbrev qf53L5Y : Type := (Val (.slice (.int .i64))) × Int × Int × (Val (.slice TPage)) × (Val (.slice TPage)) × (Val (.slice (.pair (.int .i64) TPage))) × (Val (.slice (.pair (.int .i64) THead)))
abbrev qf53L5Z : Type := (Val (.slice TPage)) × (Val (.slice TPage))
noncomputable def qf53I : Shape := ⟨254, 0, [(0, .dat false TReq), (1, .dat false (.slice TPage))], [], [], true⟩
noncomputable def qf53O : Shape := ⟨255, 0, [(254, .tup (.cons (.dat true (.slice (.int .i64))) (.cons (.dat true (.slice TPage)) (.cons (.dat true (.slice TPage)) (.cons (.dat true (.int .i64)) (.cons (.dat true .bool) (.nil)))))))], [], [], true⟩
noncomputable def qf53F : ((Val TReq) × (Val (.slice TPage))) → Option qf53Z := fun y => qf53 y.1 y.2
noncomputable def qf53ct : Ctr := ctrOf qf53I qf53O id id qf53F
noncomputable def qf53E : Env := { tf := tfE, mt := mtE, fn := fun f => bif Nat.beq f 41 then some qf5ct else bif Nat.beq f 42 then some qf6ct else bif Nat.beq f 44 then some qf24ct else bif Nat.beq f 45 then some qf25ct else bif Nat.beq f 47 then some qf26ct else bif Nat.beq f 46 then some qf28ct else bif Nat.beq f 43 then some qf16ct else bif Nat.beq f 49 then some qf35ct else bif Nat.beq f 69 then some qf51ct else bif Nat.beq f 24 then some qf27ct else bif Nat.beq f 70 then some qf7ct else bif Nat.beq f 71 then some qf52ct else bif Nat.beq f 72 then some qf17ct else bif Nat.beq f 51 then some qf39ct else none }
theorem qf53_env : EnvOk PT qf53E := ⟨tyE, (fun f ct h => by
  simp only [qf53E] at h
  refine envCons (c := qf5ct) h qf5_ctr (fun h => ?_)
  refine envCons (c := qf6ct) h qf6_ctr (fun h => ?_)
  refine envCons (c := qf24ct) h qf24_ctr (fun h => ?_)
  refine envCons (c := qf25ct) h qf25_ctr (fun h => ?_)
  refine envCons (c := qf26ct) h qf26_ctr (fun h => ?_)
  refine envCons (c := qf28ct) h qf28_ctr (fun h => ?_)
  refine envCons (c := qf16ct) h qf16_ctr (fun h => ?_)
  refine envCons (c := qf35ct) h qf35_ctr (fun h => ?_)
  refine envCons (c := qf51ct) h qf51_ctr (fun h => ?_)
  refine envCons (c := qf27ct) h qf27_ctr (fun h => ?_)
  refine envCons (c := qf7ct) h qf7_ctr (fun h => ?_)
  refine envCons (c := qf52ct) h qf52_ctr (fun h => ?_)
  refine envCons (c := qf17ct) h qf17_ctr (fun h => ?_)
  refine envCons (c := qf39ct) h qf39_ctr (fun h => ?_)
  cases h), mapE⟩
noncomputable def qf53C : Code := bodyOf Tryz.f27
noncomputable def qf53L1C : Code := (loopsOf qf53C).getD 0 .skip
noncomputable def qf53L2C : Code := (loopsOf qf53C).getD 1 .skip
end Go.Sx
