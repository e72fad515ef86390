/- A part of the proof of a law of this seat: TabAwake; no conditions. -/
import Derived.Test.YtpfhfokfambdaaaGreatDoorDcOrc
import Derived.Test.YtpfhfokfambdaaaGreatDoorDcd
import Derived.Test.YtpfhfokfambdaaaGreatDoorDce
/-! The functions whose data-level code is at hand. -/
namespace Go.Proofs.YtpfhfokfambdaaaGreatDoor
open Ev
def awakeTab : List (FuncId × FD) := [
  (73, ⟨1, [(2, some (some 9))], c_vdrawing_own⟩),
  (79, ⟨1, [(2, some (some 3))], c_vdrawing_copied⟩),
  (21, ⟨2, [(4, none), (5, none)], c_vdrawing_Depends⟩),
  (11, ⟨1, [(2, none), (3, none)], c_vdrawing_Datums⟩),
  (45, ⟨2, [(4, none)], c_vdrawing_needs⟩),
  (41, ⟨1, [(2, none)], c_vdrawing_used⟩),
  (43, ⟨1, [(2, none)], c_dimension_Name⟩),
  (91, ⟨1, [(2, none)], c_dimension_letter⟩),
  (92, ⟨1, [(2, none)], c_dimension_digit⟩),
  (95, ⟨1, [(2, none)], c_dimension_Valid⟩),
  (105, ⟨1, [(2, none)], c_feature_Check⟩),
  (126, ⟨2, [(4, some (some 2)), (5, none)], c_feature_Reach⟩),
  (143, ⟨1, [(2, none)], c_dimension_first⟩),
  (144, ⟨1, [(2, none)], c_dimension_name⟩),
  (145, ⟨1, [(1, none)], c_dimension_Valid_1⟩),
  (146, ⟨1, [(2, none)], c_dimension_limits⟩),
  (156, ⟨1, [(2, none)], c_feature_ranged⟩),
  (157, ⟨1, [(2, none)], c_dimension_Check⟩),
  (184, ⟨2, [(4, none)], c_feature_along⟩),
  (185, ⟨2, [(4, none)], c_feature_bounded⟩),
  (186, ⟨2, [(4, some (some 2))], c_feature_reach⟩),
  (187, ⟨1, [(2, none)], c_feature_in⟩),
  (197, ⟨1, [(1, none)], c_dimension_name_1⟩),
  (198, ⟨1, [(1, none)], c_dimension_limits_1⟩),
  (206, ⟨1, [(2, none)], c_dimension_ranged⟩),
  (220, ⟨0, [(0, some (some 15))], c_feature_bounds⟩),
  (221, ⟨1, [(2, some (some 3))], c_feature_coordinates⟩),
  (93, ⟨1, [(2, none)], c_frame_All⟩),
  (106, ⟨1, [(2, some (some 5)), (3, none)], c_frame_Parse⟩),
  (107, ⟨2, [(4, none)], c_frame_Check⟩),
  (158, ⟨0, [(0, some (some 54))], c_frame_rows⟩),
  (160, ⟨2, [(3, none)], c_frame_Parse_1⟩),
  (161, ⟨3, [], c_frame_Parse_2⟩),
  (163, ⟨1, [(2, none), (3, none)], c_frame_unmarked⟩),
  (164, ⟨3, [], c_frame_Parse_3⟩),
  (165, ⟨1, [(2, none), (3, none)], c_frame_Text⟩),
  (166, ⟨1, [(2, none)], c_frame_Plain⟩),
  (167, ⟨2, [(3, none)], c_frame_Check_1⟩),
  (170, ⟨2, [(3, none)], c_frame_Check_2⟩),
  (210, ⟨2, [(4, none)], c_frame_marked⟩),
  (212, ⟨1, [(2, none)], c_frame_condition⟩),
  (213, ⟨2, [(3, none)], c_frame_Plain_1⟩),
  (10, ⟨0, [(0, none)], c_metrolablaw20_awake⟩),
  (13, ⟨1, [(2, none)], c_drawing_Check⟩),
  (17, ⟨1, [(2, some (some 3)), (3, none), (4, none)], c_drawing_Parse⟩),
  (33, ⟨4, [(8, none), (9, none)], c_drawing_Nominal⟩),
  (38, ⟨2, [(4, some (some 3)), (5, none)], c_drawing_Remove⟩),
  (44, ⟨1, [(2, none)], c_drawing_features⟩),
  (46, ⟨1, [(2, none)], c_drawing_dimensions⟩),
  (53, ⟨2, [(4, none)], c_drawing_reader_title⟩),
  (54, ⟨2, [(4, none)], c_drawing_reader_feature⟩),
  (55, ⟨2, [(4, none)], c_drawing_reader_frame⟩),
  (56, ⟨2, [(4, none)], c_drawing_reader_dimension⟩),
  (58, ⟨1, [(2, none)], c_drawing_Parse_1⟩),
  (59, ⟨2, [(4, none)], c_drawing_reader_line⟩),
  (62, ⟨2, [(4, none)], c_drawing_index⟩),
  (75, ⟨4, [(8, none), (9, none)], c_drawing_distance⟩),
  (80, ⟨2, [(4, some (some 3))], c_drawing_with⟩),
  (82, ⟨2, [(3, none)], c_drawing_Remove_1⟩),
  (87, ⟨1, [(2, none)], c_drawing_named⟩),
  (88, ⟨1, [(2, none)], c_drawing_sorted⟩),
  (94, ⟨4, [], c_drawing_needs_1⟩),
  (96, ⟨2, [(4, none)], c_drawing_order⟩),
  (102, ⟨1, [(2, none)], c_drawing_kinds⟩),
  (103, ⟨1, [(2, none)], c_drawing_axes⟩),
  (104, ⟨1, [(2, none), (3, none)], c_drawing_integers⟩),
  (109, ⟨2, [(3, none)], c_drawing_reader_frame_1⟩),
  (117, ⟨2, [(3, none)], c_drawing_index_1⟩),
  (127, ⟨2, [(4, none)], c_drawing_coordinate⟩),
  (132, ⟨2, [(4, none)], c_drawing_with_1⟩),
  (153, ⟨1, [(2, none), (3, none)], c_drawing_integer⟩),
  (155, ⟨1, [(2, none)], c_drawing_integers_1⟩),
  (15, ⟨2, [(4, none)], c_slices_Equal_string_string⟩),
  (22, ⟨2, [(4, none)], c_slices_Contains_string_string⟩),
  (63, ⟨2, [(4, none)], c_slices_Index_string_string⟩),
  (81, ⟨2, [(4, none)], c_slices_ContainsFunc_api_Dimension_api_Dimension⟩),
  (108, ⟨2, [(4, none)], c_slices_ContainsFunc_api_Frame_api_Frame⟩),
  (110, ⟨3, [(6, none), (7, none)], c_slices_BinarySearchFunc_api_Dimension_api_Dimension_api_Dimension⟩),
  (116, ⟨2, [(4, none)], c_slices_IndexFunc_api_Feature_api_Feature⟩),
  (118, ⟨1, [(2, none)], c_cmp_isNaN_string⟩),
  (131, ⟨3, [(6, none), (7, none)], c_slices_BinarySearchFunc_api_Feature_api_Feature_string⟩),
  (136, ⟨2, [(4, none)], c_slices_IndexFunc_api_Dimension_api_Dimension⟩),
  (147, ⟨1, [(2, none)], c_cmp_Or_int⟩),
  (148, ⟨2, [(4, none)], c_cmp_Compare_string⟩),
  (149, ⟨2, [(4, none)], c_cmp_Compare_int⟩),
  (154, ⟨2, [(4, none)], c_slices_ContainsFunc_int_int⟩),
  (159, ⟨2, [(4, none)], c_slices_IndexFunc_frame_row_frame_row⟩),
  (169, ⟨2, [(4, none)], c_slices_ContainsFunc_api_Datum_api_Datum⟩),
  (171, ⟨2, [(4, none)], c_slices_IndexFunc_api_Frame_api_Frame⟩),
  (199, ⟨1, [(2, none)], c_cmp_isNaN_int⟩),
  (203, ⟨2, [(4, none), (5, none)], c_strings_CutPrefix⟩),
  (204, ⟨2, [(4, none)], c_strings_Trim⟩),
  (205, ⟨2, [(4, none)], c_slices_IndexFunc_int_int⟩),
  (209, ⟨2, [(4, none), (5, none)], c_strings_CutSuffix⟩),
  (214, ⟨2, [(4, none)], c_slices_IndexFunc_api_Datum_api_Datum⟩),
  (242, ⟨2, [(4, none)], c_strings_trimLeftByte⟩),
  (243, ⟨2, [(4, none)], c_strings_trimRightByte⟩),
  (244, ⟨1, [(2, some (some 256)), (3, none)], c_strings_makeASCIISet⟩),
  (245, ⟨2, [(4, none)], c_strings_trimLeftASCII⟩),
  (246, ⟨2, [(4, none)], c_strings_trimRightASCII⟩),
  (247, ⟨2, [(4, none)], c_strings_trimLeftUnicode⟩),
  (248, ⟨2, [(4, none)], c_strings_trimRightUnicode⟩),
  (268, ⟨2, [(4, none)], c_strings_ContainsRune⟩),
  (86, ⟨1, [(2, none), (3, none)], c_unicode_utf8_DecodeRuneInString⟩),
  (120, ⟨2, [(4, none)], c_internal_stringslite_HasSuffix⟩),
  (241, ⟨2, [(4, none), (5, none)], c_internal_stringslite_CutPrefix⟩),
  (254, ⟨2, [(4, none), (5, none)], c_internal_stringslite_CutSuffix⟩),
  (266, ⟨2, [(4, none)], c_internal_stringslite_HasPrefix⟩),
  (267, ⟨2, [(4, none)], c_strings_asciiSet_contains⟩),
  (269, ⟨1, [(2, none), (3, none)], c_unicode_utf8_DecodeLastRuneInString⟩),
  (278, ⟨1, [(2, none)], c_unicode_utf8_RuneStart⟩)]
theorem all_nil {P : Program} : ∀ p ∈ ([] : List (FuncId × FD)), p.2.Ok P p.1 := fun _ h => by cases h
theorem all_cons {P : Program} {f : FuncId} {d : FD} {l : List (FuncId × FD)} (h : d.Ok P f) (hl : ∀ p ∈ l, p.2.Ok P p.1) : ∀ p ∈ (f, d) :: l, p.2.Ok P p.1 := fun p hp => by
  rcases List.mem_cons.1 hp with rfl | hp
  · exact h
  · exact hl p hp
theorem awakeTab_ok : ∀ p ∈ awakeTab, p.2.Ok Tryz.prog p.1 :=
  all_cons ⟨_, Tryz.func73, k_vdrawing_own⟩ <|
  all_cons ⟨_, Tryz.func79, k_vdrawing_copied⟩ <|
  all_cons ⟨_, Tryz.func21, k_vdrawing_Depends⟩ <|
  all_cons ⟨_, Tryz.func11, k_vdrawing_Datums⟩ <|
  all_cons ⟨_, Tryz.func45, k_vdrawing_needs⟩ <|
  all_cons ⟨_, Tryz.func41, k_vdrawing_used⟩ <|
  all_cons ⟨_, Tryz.func43, k_dimension_Name⟩ <|
  all_cons ⟨_, Tryz.func91, k_dimension_letter⟩ <|
  all_cons ⟨_, Tryz.func92, k_dimension_digit⟩ <|
  all_cons ⟨_, Tryz.func95, k_dimension_Valid⟩ <|
  all_cons ⟨_, Tryz.func105, k_feature_Check⟩ <|
  all_cons ⟨_, Tryz.func126, k_feature_Reach⟩ <|
  all_cons ⟨_, Tryz.func143, k_dimension_first⟩ <|
  all_cons ⟨_, Tryz.func144, k_dimension_name⟩ <|
  all_cons ⟨_, Tryz.func145, k_dimension_Valid_1⟩ <|
  all_cons ⟨_, Tryz.func146, k_dimension_limits⟩ <|
  all_cons ⟨_, Tryz.func156, k_feature_ranged⟩ <|
  all_cons ⟨_, Tryz.func157, k_dimension_Check⟩ <|
  all_cons ⟨_, Tryz.func184, k_feature_along⟩ <|
  all_cons ⟨_, Tryz.func185, k_feature_bounded⟩ <|
  all_cons ⟨_, Tryz.func186, k_feature_reach⟩ <|
  all_cons ⟨_, Tryz.func187, k_feature_in⟩ <|
  all_cons ⟨_, Tryz.func197, k_dimension_name_1⟩ <|
  all_cons ⟨_, Tryz.func198, k_dimension_limits_1⟩ <|
  all_cons ⟨_, Tryz.func206, k_dimension_ranged⟩ <|
  all_cons ⟨_, Tryz.func220, k_feature_bounds⟩ <|
  all_cons ⟨_, Tryz.func221, k_feature_coordinates⟩ <|
  all_cons ⟨_, Tryz.func93, k_frame_All⟩ <|
  all_cons ⟨_, Tryz.func106, k_frame_Parse⟩ <|
  all_cons ⟨_, Tryz.func107, k_frame_Check⟩ <|
  all_cons ⟨_, Tryz.func158, k_frame_rows⟩ <|
  all_cons ⟨_, Tryz.func160, k_frame_Parse_1⟩ <|
  all_cons ⟨_, Tryz.func161, k_frame_Parse_2⟩ <|
  all_cons ⟨_, Tryz.func163, k_frame_unmarked⟩ <|
  all_cons ⟨_, Tryz.func164, k_frame_Parse_3⟩ <|
  all_cons ⟨_, Tryz.func165, k_frame_Text⟩ <|
  all_cons ⟨_, Tryz.func166, k_frame_Plain⟩ <|
  all_cons ⟨_, Tryz.func167, k_frame_Check_1⟩ <|
  all_cons ⟨_, Tryz.func170, k_frame_Check_2⟩ <|
  all_cons ⟨_, Tryz.func210, k_frame_marked⟩ <|
  all_cons ⟨_, Tryz.func212, k_frame_condition⟩ <|
  all_cons ⟨_, Tryz.func213, k_frame_Plain_1⟩ <|
  all_cons ⟨_, Tryz.func10, k_metrolablaw20_awake⟩ <|
  all_cons ⟨_, Tryz.func13, k_drawing_Check⟩ <|
  all_cons ⟨_, Tryz.func17, k_drawing_Parse⟩ <|
  all_cons ⟨_, Tryz.func33, k_drawing_Nominal⟩ <|
  all_cons ⟨_, Tryz.func38, k_drawing_Remove⟩ <|
  all_cons ⟨_, Tryz.func44, k_drawing_features⟩ <|
  all_cons ⟨_, Tryz.func46, k_drawing_dimensions⟩ <|
  all_cons ⟨_, Tryz.func53, k_drawing_reader_title⟩ <|
  all_cons ⟨_, Tryz.func54, k_drawing_reader_feature⟩ <|
  all_cons ⟨_, Tryz.func55, k_drawing_reader_frame⟩ <|
  all_cons ⟨_, Tryz.func56, k_drawing_reader_dimension⟩ <|
  all_cons ⟨_, Tryz.func58, k_drawing_Parse_1⟩ <|
  all_cons ⟨_, Tryz.func59, k_drawing_reader_line⟩ <|
  all_cons ⟨_, Tryz.func62, k_drawing_index⟩ <|
  all_cons ⟨_, Tryz.func75, k_drawing_distance⟩ <|
  all_cons ⟨_, Tryz.func80, k_drawing_with⟩ <|
  all_cons ⟨_, Tryz.func82, k_drawing_Remove_1⟩ <|
  all_cons ⟨_, Tryz.func87, k_drawing_named⟩ <|
  all_cons ⟨_, Tryz.func88, k_drawing_sorted⟩ <|
  all_cons ⟨_, Tryz.func94, k_drawing_needs_1⟩ <|
  all_cons ⟨_, Tryz.func96, k_drawing_order⟩ <|
  all_cons ⟨_, Tryz.func102, k_drawing_kinds⟩ <|
  all_cons ⟨_, Tryz.func103, k_drawing_axes⟩ <|
  all_cons ⟨_, Tryz.func104, k_drawing_integers⟩ <|
  all_cons ⟨_, Tryz.func109, k_drawing_reader_frame_1⟩ <|
  all_cons ⟨_, Tryz.func117, k_drawing_index_1⟩ <|
  all_cons ⟨_, Tryz.func127, k_drawing_coordinate⟩ <|
  all_cons ⟨_, Tryz.func132, k_drawing_with_1⟩ <|
  all_cons ⟨_, Tryz.func153, k_drawing_integer⟩ <|
  all_cons ⟨_, Tryz.func155, k_drawing_integers_1⟩ <|
  all_cons ⟨_, Tryz.func15, k_slices_Equal_string_string⟩ <|
  all_cons ⟨_, Tryz.func22, k_slices_Contains_string_string⟩ <|
  all_cons ⟨_, Tryz.func63, k_slices_Index_string_string⟩ <|
  all_cons ⟨_, Tryz.func81, k_slices_ContainsFunc_api_Dimension_api_Dimension⟩ <|
  all_cons ⟨_, Tryz.func108, k_slices_ContainsFunc_api_Frame_api_Frame⟩ <|
  all_cons ⟨_, Tryz.func110, k_slices_BinarySearchFunc_api_Dimension_api_Dimension_api_Dimension⟩ <|
  all_cons ⟨_, Tryz.func116, k_slices_IndexFunc_api_Feature_api_Feature⟩ <|
  all_cons ⟨_, Tryz.func118, k_cmp_isNaN_string⟩ <|
  all_cons ⟨_, Tryz.func131, k_slices_BinarySearchFunc_api_Feature_api_Feature_string⟩ <|
  all_cons ⟨_, Tryz.func136, k_slices_IndexFunc_api_Dimension_api_Dimension⟩ <|
  all_cons ⟨_, Tryz.func147, k_cmp_Or_int⟩ <|
  all_cons ⟨_, Tryz.func148, k_cmp_Compare_string⟩ <|
  all_cons ⟨_, Tryz.func149, k_cmp_Compare_int⟩ <|
  all_cons ⟨_, Tryz.func154, k_slices_ContainsFunc_int_int⟩ <|
  all_cons ⟨_, Tryz.func159, k_slices_IndexFunc_frame_row_frame_row⟩ <|
  all_cons ⟨_, Tryz.func169, k_slices_ContainsFunc_api_Datum_api_Datum⟩ <|
  all_cons ⟨_, Tryz.func171, k_slices_IndexFunc_api_Frame_api_Frame⟩ <|
  all_cons ⟨_, Tryz.func199, k_cmp_isNaN_int⟩ <|
  all_cons ⟨_, Tryz.func203, k_strings_CutPrefix⟩ <|
  all_cons ⟨_, Tryz.func204, k_strings_Trim⟩ <|
  all_cons ⟨_, Tryz.func205, k_slices_IndexFunc_int_int⟩ <|
  all_cons ⟨_, Tryz.func209, k_strings_CutSuffix⟩ <|
  all_cons ⟨_, Tryz.func214, k_slices_IndexFunc_api_Datum_api_Datum⟩ <|
  all_cons ⟨_, Tryz.func242, k_strings_trimLeftByte⟩ <|
  all_cons ⟨_, Tryz.func243, k_strings_trimRightByte⟩ <|
  all_cons ⟨_, Tryz.func244, k_strings_makeASCIISet⟩ <|
  all_cons ⟨_, Tryz.func245, k_strings_trimLeftASCII⟩ <|
  all_cons ⟨_, Tryz.func246, k_strings_trimRightASCII⟩ <|
  all_cons ⟨_, Tryz.func247, k_strings_trimLeftUnicode⟩ <|
  all_cons ⟨_, Tryz.func248, k_strings_trimRightUnicode⟩ <|
  all_cons ⟨_, Tryz.func268, k_strings_ContainsRune⟩ <|
  all_cons ⟨_, Tryz.func86, k_unicode_utf8_DecodeRuneInString⟩ <|
  all_cons ⟨_, Tryz.func120, k_internal_stringslite_HasSuffix⟩ <|
  all_cons ⟨_, Tryz.func241, k_internal_stringslite_CutPrefix⟩ <|
  all_cons ⟨_, Tryz.func254, k_internal_stringslite_CutSuffix⟩ <|
  all_cons ⟨_, Tryz.func266, k_internal_stringslite_HasPrefix⟩ <|
  all_cons ⟨_, Tryz.func267, k_strings_asciiSet_contains⟩ <|
  all_cons ⟨_, Tryz.func269, k_unicode_utf8_DecodeLastRuneInString⟩ <|
  all_cons ⟨_, Tryz.func278, k_unicode_utf8_RuneStart⟩ <|
  all_nil
end Go.Proofs.YtpfhfokfambdaaaGreatDoor
