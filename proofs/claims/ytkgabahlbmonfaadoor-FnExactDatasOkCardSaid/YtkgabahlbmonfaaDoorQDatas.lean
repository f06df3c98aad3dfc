/- The equations of the functions that a law reaches, printed out of the translation by a program of this session; Lean checks each. -/
import Derived.Test.YtkgabahlbmonfaaDoorEvDat
import Derived.Test.YtkgabahlbmonfaaDoorKn
import Derived.KernelRfl
import Derived.Test.YtkgabahlbmonfaaDoorProg
open Go Go.Ev Go.Proofs
set_option maxRecDepth 100000
set_option linter.unusedVariables false
namespace Go.Ev.Q
noncomputable def tyL : List (Nat × TI) := [(4, ⟨1, 1, false, .bool, [.d (.bool false)], [.bool]⟩),
  (3, ⟨1, 8, false, (.int .i64), [.d (.int .i64 0)], [.int .i64]⟩),
  (22, ⟨1, 24, false, (.sl 76), [.d (.sl true 3 0 [])], [.sl 3]⟩),
  (76, ⟨3, 56, true, (.st [(0, 29), (1, 3), (2, 74)]), [.d (.sl true 1 0 []), .d (.int .i64 0), .d (.sl true 2 0 [])], [.sl 1, .int .i64, .sl 2]⟩),
  (29, ⟨1, 24, false, (.sl 5), [.d (.sl true 1 0 [])], [.sl 1]⟩),
  (5, ⟨1, 1, false, (.int .u8), [.d (.int .u8 0)], [.int .u8]⟩),
  (74, ⟨1, 24, false, (.sl 165), [.d (.sl true 2 0 [])], [.sl 2]⟩),
  (165, ⟨2, 48, true, (.st [(0, 29), (1, 59)]), [.d (.sl true 1 0 []), .d (.sl true 3 0 [])], [.sl 1, .sl 3]⟩),
  (59, ⟨1, 24, false, (.sl 61), [.d (.sl true 3 0 [])], [.sl 3]⟩),
  (61, ⟨3, 40, true, (.st [(0, 3), (1, 3), (2, 59)]), [.d (.int .i64 0), .d (.int .i64 0), .d (.sl true 3 0 [])], [.int .i64, .int .i64, .sl 3]⟩),
  (25, ⟨1, 24, false, (.sl 79), [.d (.sl true 3 0 [])], [.sl 3]⟩),
  (79, ⟨3, 56, true, (.st [(0, 29), (1, 3), (2, 77)]), [.d (.sl true 1 0 []), .d (.int .i64 0), .d (.sl true 2 0 [])], [.sl 1, .int .i64, .sl 2]⟩),
  (77, ⟨1, 24, false, (.sl 82), [.d (.sl true 2 0 [])], [.sl 2]⟩),
  (82, ⟨2, 48, true, (.st [(0, 29), (1, 43)]), [.d (.sl true 1 0 []), .d (.sl true 3 0 [])], [.sl 1, .sl 3]⟩),
  (43, ⟨1, 24, false, (.sl 45), [.d (.sl true 3 0 [])], [.sl 3]⟩),
  (45, ⟨3, 40, true, (.st [(0, 3), (1, 3), (2, 43)]), [.d (.int .i64 0), .d (.int .i64 0), .d (.sl true 3 0 [])], [.int .i64, .int .i64, .sl 3]⟩),
  (33, ⟨7, 136, true, (.st [(0, 3), (1, 3), (2, 29), (3, 29), (4, 29), (5, 30), (6, 31)]), [.d (.int .i64 0), .d (.int .i64 0), .d (.sl true 1 0 []), .d (.sl true 1 0 []), .d (.sl true 1 0 []), .d (.sl true 7 0 []), .d (.sl true 9 0 [])], [.int .i64, .int .i64, .sl 1, .sl 1, .sl 1, .sl 7, .sl 9]⟩),
  (30, ⟨1, 24, false, (.sl 33), [.d (.sl true 7 0 [])], [.sl 7]⟩),
  (31, ⟨1, 24, false, (.sl 137), [.d (.sl true 9 0 [])], [.sl 9]⟩),
  (137, ⟨9, 184, true, (.st [(0, 29), (1, 135), (2, 33)]), [.d (.sl true 1 0 []), .d (.sl true 1 0 []), .d (.int .i64 0), .d (.int .i64 0), .d (.sl true 1 0 []), .d (.sl true 1 0 []), .d (.sl true 1 0 []), .d (.sl true 7 0 []), .d (.sl true 9 0 [])], [.sl 1, .sl 1, .int .i64, .int .i64, .sl 1, .sl 1, .sl 1, .sl 7, .sl 9]⟩),
  (135, ⟨1, 24, false, (.sl 29), [.d (.sl true 1 0 [])], [.sl 1]⟩),
  (39, ⟨7, 136, true, (.st [(0, 3), (1, 3), (2, 29), (3, 29), (4, 29), (5, 36), (6, 37)]), [.d (.int .i64 0), .d (.int .i64 0), .d (.sl true 1 0 []), .d (.sl true 1 0 []), .d (.sl true 1 0 []), .d (.sl true 7 0 []), .d (.sl true 9 0 [])], [.int .i64, .int .i64, .sl 1, .sl 1, .sl 1, .sl 7, .sl 9]⟩),
  (36, ⟨1, 24, false, (.sl 39), [.d (.sl true 7 0 [])], [.sl 7]⟩),
  (37, ⟨1, 24, false, (.sl 143), [.d (.sl true 9 0 [])], [.sl 9]⟩),
  (143, ⟨9, 184, true, (.st [(0, 29), (1, 135), (2, 39)]), [.d (.sl true 1 0 []), .d (.sl true 1 0 []), .d (.int .i64 0), .d (.int .i64 0), .d (.sl true 1 0 []), .d (.sl true 1 0 []), .d (.sl true 1 0 []), .d (.sl true 7 0 []), .d (.sl true 9 0 [])], [.sl 1, .sl 1, .int .i64, .int .i64, .sl 1, .sl 1, .sl 1, .sl 7, .sl 9]⟩),
  (67, ⟨1, 24, false, (.sl 120), [.d (.sl true 4 0 [])], [.sl 4]⟩),
  (120, ⟨4, 48, true, (.st [(0, 3), (1, 3), (2, 3), (3, 29)]), [.d (.int .i64 0), .d (.int .i64 0), .d (.int .i64 0), .d (.sl true 1 0 [])], [.int .i64, .int .i64, .int .i64, .sl 1]⟩),
  (9, ⟨1, 16, false, .str, [.d (.str ⟨#[]⟩)], [.str]⟩),
  (99, ⟨1, 8, false, .other, [.undef], [.undef]⟩),
  (103, ⟨1, 8, false, .other, [.undef], [.undef]⟩),
  (151, ⟨3, 40, true, (.st [(0, 29), (1, 3), (2, 3)]), [.d (.sl true 1 0 []), .d (.int .i64 0), .d (.int .i64 0)], [.sl 1, .int .i64, .int .i64]⟩),
  (111, ⟨1, 24, false, (.sl 3), [.d (.sl true 1 0 [])], [.sl 1]⟩),
  (114, ⟨1, 8, false, .other, [.undef], [.undef]⟩),
  (127, ⟨1, 8, false, .other, [.undef], [.undef]⟩),
  (48, ⟨1, 8, false, .other, [.undef], [.undef]⟩),
  (156, ⟨1, 24, false, (.sl 9), [.d (.sl true 1 0 [])], [.sl 1]⟩),
  (51, ⟨1, 8, false, .other, [.undef], [.undef]⟩),
  (171, ⟨1, 8, false, .other, [.undef], [.undef]⟩),
  (58, ⟨1, 8, false, .other, [.undef], [.undef]⟩),
  (182, ⟨1, 8, false, (.int .u64), [.d (.int .u64 0)], [.int .u64]⟩),
  (2, ⟨1, 8, false, (.int .i64), [.d (.int .i64 0)], [.int .i64]⟩),
  (185, ⟨1, 8, false, (.int .u64), [.d (.int .u64 0)], [.int .u64]⟩),
  (188, ⟨1, 16, false, .other, [.undef], [.undef]⟩),
  (192, ⟨256, 256, true, .other, [.undef, .undef, .undef, .undef, .undef, .undef, .undef, .undef, .undef, .undef, .undef, .undef, .undef, .undef, .undef, .undef, .undef, .undef, .undef, .undef, .undef, .undef, .undef, .undef, .undef, .undef, .undef, .undef, .undef, .undef, .undef, .undef, .undef, .undef, .undef, .undef, .undef, .undef, .undef, .undef, .undef, .undef, .undef, .undef, .undef, .undef, .undef, .undef, .undef, .undef, .undef, .undef, .undef, .undef, .undef, .undef, .undef, .undef, .undef, .undef, .undef, .undef, .undef, .undef, .undef, .undef, .undef, .undef, .undef, .undef, .undef, .undef, .undef, .undef, .undef, .undef, .undef, .undef, .undef, .undef, .undef, .undef, .undef, .undef, .undef, .undef, .undef, .undef, .undef, .undef, .undef, .undef, .undef, .undef, .undef, .undef, .undef, .undef, .undef, .undef, .undef, .undef, .undef, .undef, .undef, .undef, .undef, .undef, .undef, .undef, .undef, .undef, .undef, .undef, .undef, .undef, .undef, .undef, .undef, .undef, .undef, .undef, .undef, .undef, .undef, .undef, .undef, .undef, .undef, .undef, .undef, .undef, .undef, .undef, .undef, .undef, .undef, .undef, .undef, .undef, .undef, .undef, .undef, .undef, .undef, .undef, .undef, .undef, .undef, .undef, .undef, .undef, .undef, .undef, .undef, .undef, .undef, .undef, .undef, .undef, .undef, .undef, .undef, .undef, .undef, .undef, .undef, .undef, .undef, .undef, .undef, .undef, .undef, .undef, .undef, .undef, .undef, .undef, .undef, .undef, .undef, .undef, .undef, .undef, .undef, .undef, .undef, .undef, .undef, .undef, .undef, .undef, .undef, .undef, .undef, .undef, .undef, .undef, .undef, .undef, .undef, .undef, .undef, .undef, .undef, .undef, .undef, .undef, .undef, .undef, .undef, .undef, .undef, .undef, .undef, .undef, .undef, .undef, .undef, .undef, .undef, .undef, .undef, .undef, .undef, .undef, .undef, .undef, .undef, .undef, .undef, .undef, .undef, .undef, .undef, .undef, .undef, .undef, .undef, .undef, .undef, .undef, .undef, .undef, .undef, .undef, .undef, .undef, .undef, .undef, .undef, .undef, .undef, .undef, .undef, .undef], [.undef, .undef, .undef, .undef, .undef, .undef, .undef, .undef, .undef, .undef, .undef, .undef, .undef, .undef, .undef, .undef, .undef, .undef, .undef, .undef, .undef, .undef, .undef, .undef, .undef, .undef, .undef, .undef, .undef, .undef, .undef, .undef, .undef, .undef, .undef, .undef, .undef, .undef, .undef, .undef, .undef, .undef, .undef, .undef, .undef, .undef, .undef, .undef, .undef, .undef, .undef, .undef, .undef, .undef, .undef, .undef, .undef, .undef, .undef, .undef, .undef, .undef, .undef, .undef, .undef, .undef, .undef, .undef, .undef, .undef, .undef, .undef, .undef, .undef, .undef, .undef, .undef, .undef, .undef, .undef, .undef, .undef, .undef, .undef, .undef, .undef, .undef, .undef, .undef, .undef, .undef, .undef, .undef, .undef, .undef, .undef, .undef, .undef, .undef, .undef, .undef, .undef, .undef, .undef, .undef, .undef, .undef, .undef, .undef, .undef, .undef, .undef, .undef, .undef, .undef, .undef, .undef, .undef, .undef, .undef, .undef, .undef, .undef, .undef, .undef, .undef, .undef, .undef, .undef, .undef, .undef, .undef, .undef, .undef, .undef, .undef, .undef, .undef, .undef, .undef, .undef, .undef, .undef, .undef, .undef, .undef, .undef, .undef, .undef, .undef, .undef, .undef, .undef, .undef, .undef, .undef, .undef, .undef, .undef, .undef, .undef, .undef, .undef, .undef, .undef, .undef, .undef, .undef, .undef, .undef, .undef, .undef, .undef, .undef, .undef, .undef, .undef, .undef, .undef, .undef, .undef, .undef, .undef, .undef, .undef, .undef, .undef, .undef, .undef, .undef, .undef, .undef, .undef, .undef, .undef, .undef, .undef, .undef, .undef, .undef, .undef, .undef, .undef, .undef, .undef, .undef, .undef, .undef, .undef, .undef, .undef, .undef, .undef, .undef, .undef, .undef, .undef, .undef, .undef, .undef, .undef, .undef, .undef, .undef, .undef, .undef, .undef, .undef, .undef, .undef, .undef, .undef, .undef, .undef, .undef, .undef, .undef, .undef, .undef, .undef, .undef, .undef, .undef, .undef, .undef, .undef, .undef, .undef, .undef, .undef, .undef, .undef, .undef, .undef, .undef, .undef]⟩),
  (194, ⟨1, 8, false, .other, [.undef], [.undef]⟩),
  (197, ⟨24, 24, true, .other, [.undef, .undef, .undef, .undef, .undef, .undef, .undef, .undef, .undef, .undef, .undef, .undef, .undef, .undef, .undef, .undef, .undef, .undef, .undef, .undef, .undef, .undef, .undef, .undef], [.undef, .undef, .undef, .undef, .undef, .undef, .undef, .undef, .undef, .undef, .undef, .undef, .undef, .undef, .undef, .undef, .undef, .undef, .undef, .undef, .undef, .undef, .undef, .undef]⟩),
  (204, ⟨1, 24, false, (.sl 206), [.d (.sl true 2 0 [])], [.sl 2]⟩),
  (206, ⟨2, 16, true, (.st [(0, 3), (1, 3)]), [.d (.int .i64 0), .d (.int .i64 0)], [.int .i64, .int .i64]⟩),
  (21, ⟨1, 4, false, (.int .i32), [.d (.int .i32 0)], [.int .i32]⟩),
  (207, ⟨1, 4, false, (.int .u32), [.d (.int .u32 0)], [.int .u32]⟩),
  (209, ⟨1, 8, false, .other, [.undef], [.undef]⟩),
  (224, ⟨3, 56, true, (.st [(0, 221), (1, 222), (2, 3)]), [.d (.sl true 3 0 []), .d (.sl true 3 0 []), .d (.int .i64 0)], [.sl 3, .sl 3, .int .i64]⟩),
  (221, ⟨1, 24, false, (.sl 227), [.d (.sl true 3 0 [])], [.sl 3]⟩),
  (227, ⟨3, 6, true, (.st [(0, 225), (1, 225), (2, 225)]), [.d (.int .u16 0), .d (.int .u16 0), .d (.int .u16 0)], [.int .u16, .int .u16, .int .u16]⟩),
  (225, ⟨1, 2, false, (.int .u16), [.d (.int .u16 0)], [.int .u16]⟩),
  (222, ⟨1, 24, false, (.sl 230), [.d (.sl true 3 0 [])], [.sl 3]⟩),
  (230, ⟨3, 12, true, (.st [(0, 207), (1, 207), (2, 207)]), [.d (.int .u32 0), .d (.int .u32 0), .d (.int .u32 0)], [.int .u32, .int .u32, .int .u32]⟩),
  (212, ⟨20, 160, true, .other, [.undef, .undef, .undef, .undef, .undef, .undef, .undef, .undef, .undef, .undef, .undef, .undef, .undef, .undef, .undef, .undef, .undef, .undef, .undef, .undef], [.undef, .undef, .undef, .undef, .undef, .undef, .undef, .undef, .undef, .undef, .undef, .undef, .undef, .undef, .undef, .undef, .undef, .undef, .undef, .undef]⟩),
  (20, ⟨1, 16, false, .other, [.undef], [.undef]⟩),
  (213, ⟨65, 65, true, .other, [.undef, .undef, .undef, .undef, .undef, .undef, .undef, .undef, .undef, .undef, .undef, .undef, .undef, .undef, .undef, .undef, .undef, .undef, .undef, .undef, .undef, .undef, .undef, .undef, .undef, .undef, .undef, .undef, .undef, .undef, .undef, .undef, .undef, .undef, .undef, .undef, .undef, .undef, .undef, .undef, .undef, .undef, .undef, .undef, .undef, .undef, .undef, .undef, .undef, .undef, .undef, .undef, .undef, .undef, .undef, .undef, .undef, .undef, .undef, .undef, .undef, .undef, .undef, .undef, .undef], [.undef, .undef, .undef, .undef, .undef, .undef, .undef, .undef, .undef, .undef, .undef, .undef, .undef, .undef, .undef, .undef, .undef, .undef, .undef, .undef, .undef, .undef, .undef, .undef, .undef, .undef, .undef, .undef, .undef, .undef, .undef, .undef, .undef, .undef, .undef, .undef, .undef, .undef, .undef, .undef, .undef, .undef, .undef, .undef, .undef, .undef, .undef, .undef, .undef, .undef, .undef, .undef, .undef, .undef, .undef, .undef, .undef, .undef, .undef, .undef, .undef, .undef, .undef, .undef, .undef]⟩),
  (215, ⟨1, 8, false, (.int .i64), [.d (.int .i64 0)], [.int .i64]⟩),
  (218, ⟨1, 8, false, .other, [.undef], [.undef]⟩),
  (237, ⟨3, 48, true, (.st [(0, 9), (1, 9), (2, 188)]), [.d (.str ⟨#[]⟩), .d (.str ⟨#[]⟩), .undef], [.str, .str, .undef]⟩),
  (239, ⟨1, 8, false, .other, [.undef], [.undef]⟩),
  (240, ⟨1, 8, false, .other, [.undef], [.undef]⟩),
  (241, ⟨32, 32, true, .other, [.undef, .undef, .undef, .undef, .undef, .undef, .undef, .undef, .undef, .undef, .undef, .undef, .undef, .undef, .undef, .undef, .undef, .undef, .undef, .undef, .undef, .undef, .undef, .undef, .undef, .undef, .undef, .undef, .undef, .undef, .undef, .undef], [.undef, .undef, .undef, .undef, .undef, .undef, .undef, .undef, .undef, .undef, .undef, .undef, .undef, .undef, .undef, .undef, .undef, .undef, .undef, .undef, .undef, .undef, .undef, .undef, .undef, .undef, .undef, .undef, .undef, .undef, .undef, .undef]⟩),
  (242, ⟨64, 64, true, .other, [.undef, .undef, .undef, .undef, .undef, .undef, .undef, .undef, .undef, .undef, .undef, .undef, .undef, .undef, .undef, .undef, .undef, .undef, .undef, .undef, .undef, .undef, .undef, .undef, .undef, .undef, .undef, .undef, .undef, .undef, .undef, .undef, .undef, .undef, .undef, .undef, .undef, .undef, .undef, .undef, .undef, .undef, .undef, .undef, .undef, .undef, .undef, .undef, .undef, .undef, .undef, .undef, .undef, .undef, .undef, .undef, .undef, .undef, .undef, .undef, .undef, .undef, .undef, .undef], [.undef, .undef, .undef, .undef, .undef, .undef, .undef, .undef, .undef, .undef, .undef, .undef, .undef, .undef, .undef, .undef, .undef, .undef, .undef, .undef, .undef, .undef, .undef, .undef, .undef, .undef, .undef, .undef, .undef, .undef, .undef, .undef, .undef, .undef, .undef, .undef, .undef, .undef, .undef, .undef, .undef, .undef, .undef, .undef, .undef, .undef, .undef, .undef, .undef, .undef, .undef, .undef, .undef, .undef, .undef, .undef, .undef, .undef, .undef, .undef, .undef, .undef, .undef, .undef]⟩),
  (244, ⟨1, 8, false, .other, [.undef], [.undef]⟩),
  (247, ⟨1, 16, true, (.st [(0, 9)]), [.d (.str ⟨#[]⟩)], [.str]⟩),
  (245, ⟨1, 8, false, .other, [.undef], [.undef]⟩),
  (8, ⟨4, 24, true, (.st [(0, 2), (1, 3), (2, 4), (3, 6)]), [.d (.int .i64 0), .d (.int .i64 0), .d (.bool false), .d (.int .u8 0)], [.int .i64, .int .i64, .bool, .int .u8]⟩),
  (6, ⟨1, 1, false, (.int .u8), [.d (.int .u8 0)], [.int .u8]⟩),
  (10, ⟨1, 16, false, .str, [.d (.str ⟨#[]⟩)], [.str]⟩),
  (11, ⟨1, 16, false, .str, [.d (.str ⟨#[]⟩)], [.str]⟩),
  (14, ⟨2, 24, true, (.st [(0, 9), (1, 12)]), [.d (.str ⟨#[]⟩), .d (.int .u64 0)], [.str, .int .u64]⟩),
  (12, ⟨1, 8, false, (.int .u64), [.d (.int .u64 0)], [.int .u64]⟩),
  (15, ⟨1, 8, false, .other, [.undef], [.undef]⟩),
  (250, ⟨4, 40, true, (.st [(0, 17), (1, 17), (2, 17), (3, 9)]), [.undef, .undef, .undef, .d (.str ⟨#[]⟩)], [.undef, .undef, .undef, .str]⟩),
  (17, ⟨1, 8, false, .other, [.undef], [.undef]⟩),
  (261, ⟨11, 48, true, (.st [(0, 12), (1, 12), (2, 207), (3, 255), (4, 5), (5, 5), (6, 256), (7, 257), (8, 244), (9, 258), (10, 259)]), [.d (.int .u64 0), .d (.int .u64 0), .d (.int .u32 0), .d (.int .u8 0), .d (.int .u8 0), .d (.int .u8 0), .d (.int .u8 0), .undef, .undef, .d (.int .i32 0), .d (.int .i32 0)], [.int .u64, .int .u64, .int .u32, .int .u8, .int .u8, .int .u8, .int .u8, .undef, .undef, .int .i32, .int .i32]⟩),
  (255, ⟨1, 1, false, (.int .u8), [.d (.int .u8 0)], [.int .u8]⟩),
  (256, ⟨1, 1, false, (.int .u8), [.d (.int .u8 0)], [.int .u8]⟩),
  (257, ⟨1, 8, false, .other, [.undef], [.undef]⟩),
  (258, ⟨1, 4, false, (.int .i32), [.d (.int .i32 0)], [.int .i32]⟩),
  (259, ⟨1, 4, false, (.int .i32), [.d (.int .i32 0)], [.int .i32]⟩),
  (16, ⟨1, 8, false, .other, [.undef], [.undef]⟩),
  (19, ⟨1, 8, true, (.st [(0, 17)]), [.undef], [.undef]⟩)]
def ann3 : Ann := (.s .o (.s .o (.s .o (.s (.s .o (.s (.s .o .o) .o)) (.s .o (.s .o (.s .o (.s (.s .o (.s (.s .o .o) .o)) (.s (.s .o (.s (.s .o .o) .o)) (.s .o .o))))))))))
def ann8 : Ann := (.s .o (.s .o (.s (.s .o (.s (.s .o .o) .o)) (.s (.s .o (.b (.l ⟨1, [], [], [5, 1, 0], [], []⟩ (.s (.s .o (.s .o .o)) (.s (.b (.s .o (.s .o (.s (.s .o .o) .o)))) .o))))) (.s .o .o)))))
def ann9 : Ann := (.s .o (.s (.s .o (.s (.s .o .o) .o)) (.s (.s .o (.b (.l ⟨1, [], [], [3, 0], [], []⟩ (.s (.s .o (.s .o .o)) (.s (.b (.s .o (.j ⟨2, [], [], [3, 0, 4], [], []⟩ (.j ⟨3, [], [], [3, 0, 4, 57], [], []⟩ (.r [0, 1, 2, 3, 4, 5, 6, 7, 8, 9, 10, 11, 12, 13, 14, 15, 16, 17, 18, 19, 20, 21, 22, 23, 24, 25, 26, 27, 28, 29, 30, 31, 32, 33, 34] 0 35 []) (.s (.s .o .o) .o)) (.s .o (.b (.l ⟨4, [], [], [3, 0, 4, 5], [], []⟩ (.s (.s .o (.s .o .o)) (.s (.b (.s .o (.j ⟨5, [], [], [3, 0, 4, 6, 5], [], []⟩ (.j ⟨6, [], [], [3, 0, 4, 6, 5, 79], [], []⟩ .o (.s (.s .o .o) .o)) (.s .o (.j ⟨7, [], [], [3, 0, 4, 6, 5], [], []⟩ (.j ⟨8, [], [], [3, 0, 4, 6, 5, 94], [], []⟩ .o (.s (.s .o .o) .o)) (.s .o (.b (.l ⟨9, [], [], [9, 3, 0, 4, 6, 5], [], []⟩ (.s (.s .o (.s .o .o)) (.s (.b (.j ⟨10, [], [], [3, 0, 4, 6, 5, 9, 123], [], []⟩ (.r [0, 1, 2, 3, 4, 5, 6, 7, 8, 9, 10, 11, 12, 13, 14, 15, 16, 17, 18, 19, 20, 21] 0 22 []) (.s (.s .o .o) .o))) .o)))))))))) .o)))))))) .o))))) (.s .o .o))))
def ann10 : Ann := (.s .o (.s .o (.s (.s .o (.b (.l ⟨1, [], [], [4, 0, 3], [], []⟩ (.s (.s .o (.s .o .o)) (.s (.b .o) .o))))) (.s .o .o))))
def ann11 : Ann := (.s .o (.s (.s .o (.s (.s .o .o) .o)) (.s (.s .o (.b (.l ⟨1, [], [], [0, 12, 10, 11], [], []⟩ (.s .o (.s (.s .o .o) (.s (.b (.s .o (.j ⟨2, [], [], [4, 3, 0, 10, 11, 12], [], []⟩ (.j ⟨3, [], [], [4, 3, 0, 10, 11, 12, 43], [], []⟩ (.r [0, 1, 2, 3, 4, 5, 6, 7, 8, 9, 10, 11, 12, 13, 14, 15, 16, 17, 18, 19, 20, 21, 22, 23, 24, 25, 26] 0 27 []) (.s (.s .o .o) .o)) (.s .o (.b (.l ⟨4, [], [], [47, 4, 3, 0, 10, 11, 12, 46], [], []⟩ (.s .o (.s (.s .o .o) (.s (.b (.s .o (.s (.f [0, 1, 4, 6, 8, 10, 2, 3, 5, 7, 9, 11, 12, 13, 14, 15, 16] 6 [2, 5, 7, 9, 11, 12, 13, 14, 16] [(3, [5, 7, 9, 11, 12, 13, 14])]) (.s .o (.s (.s .o .o) .o))))) .o))))))))) .o)))))) (.s .o .o))))
def ann12 : Ann := (.s .o (.s (.s .o (.s (.s .o .o) .o)) (.s (.s .o (.b (.l ⟨1, [], [], [5, 1, 0], [], []⟩ (.s (.s .o (.s .o .o)) (.s (.b (.s (.f [0, 1, 4, 5, 2, 3, 6, 7, 8, 9] 4 [2, 3, 6, 7, 9] []) (.s (.s .o .o) .o))) .o))))) (.s .o .o))))
def ann20 : Ann := (.s .o (.s .o .o))
def ann24 : Ann := (.s .o (.s .o .o))
def ann30 : Ann := (.s .o (.s .o (.s (.s .o (.s (.s .o .o) .o)) (.s .o .o))))
def ann32 : Ann := (.s .o (.s .o (.s .o (.s .o (.s .o (.s .o .o))))))
def ann33 : Ann := (.s .o (.s (.s .o (.s (.s .o .o) .o)) (.s (.s .o (.b (.l ⟨1, [], [], [5, 1, 0], [], []⟩ (.s (.s .o (.s .o .o)) (.s (.b (.s (.r [0, 1, 2, 3, 4, 5, 6, 7, 8] 0 9 []) (.s (.s .o .o) .o))) .o))))) (.s .o .o))))
def ann34 : Ann := (.s .o (.s (.s .o (.s (.s .o .o) .o)) (.s (.s .o (.s (.s .o .o) .o)) (.s (.s .o (.s (.s .o .o) .o)) (.s .o .o)))))
def ann39 : Ann := (.s .o (.s .o (.s (.s .o (.b (.l ⟨1, [], [], [4, 0, 3], [], []⟩ (.s (.s .o (.s .o .o)) (.s (.b .o) .o))))) (.s .o .o))))
def ann44 : Ann := (.s .o (.s .o (.s (.s .o (.s (.s .o .o) .o)) (.s .o (.s (.s .o (.s (.s .o .o) .o)) (.s .o .o))))))
def ann45 : Ann := (.s .o (.s .o .o))
def ann46 : Ann := (.s .o (.s (.s .o (.b (.l ⟨1, [], [], [5, 1, 0], [], []⟩ (.s (.s .o (.s .o .o)) (.s (.b (.s (.r [0, 1, 2, 3, 4, 5, 6, 7, 8] 0 9 []) (.s (.s .o .o) .o))) .o))))) (.s .o .o)))
def ann47 : Ann := (.s .o (.j ⟨1, [], [], [0, 1], [], []⟩ (.j ⟨2, [], [], [0, 1, 13], [], []⟩ .o (.s (.s .o .o) .o)) (.s (.s .o (.b (.l ⟨3, [], [], [5, 0, 1], [], []⟩ (.s (.s .o (.s .o .o)) (.s (.b (.j ⟨4, [], [], [0, 1, 5], [], []⟩ (.j ⟨5, [], [], [0, 1, 5, 24], [], []⟩ .o (.s (.s (.s .o (.s (.s .o .o) .o)) .o) .o)) (.j ⟨6, [], [], [0, 1, 5, 48], [], []⟩ .o (.s (.s .o .o) .o)))) .o))))) (.s .o .o))))
def ann48 : Ann := (.s .o (.s (.s .o (.b (.l ⟨1, [], [], [6, 1, 0], [], []⟩ (.s (.s .o (.s .o .o)) (.s (.b (.s .o (.b (.l ⟨2, [], [], [7, 6, 1, 0], [], []⟩ (.s (.s .o (.s .o .o)) (.s (.b (.s (.r [0, 1, 2, 3, 4, 5, 6, 7, 8, 9, 10, 11, 12] 0 13 []) (.s (.s .o .o) .o))) .o)))))) .o))))) (.s .o .o)))
def ann49 : Ann := (.s .o (.j ⟨1, [], [], [2, 1, 3], [], []⟩ (.j ⟨2, [], [], [2, 1, 3, 16], [], []⟩ .o (.s (.s .o .o) .o)) (.j ⟨3, [], [], [2, 1, 3], [], []⟩ (.j ⟨4, [], [], [2, 1, 3, 38], [], []⟩ (.r [0, 1, 2, 3, 4, 5, 6, 7, 8, 9, 10, 11, 12, 13, 14, 15, 16, 17, 18, 19, 20, 21] 0 22 []) (.s (.s .o .o) .o)) (.s (.s .o (.b (.l ⟨5, [], [], [7, 2, 1, 3], [], []⟩ (.s (.s .o (.s .o .o)) (.s (.b (.s .o (.s (.s .o .o) .o))) .o))))) (.s .o .o)))))
def ann50 : Ann := (.s .o (.s .o (.s .o (.s .o (.s .o (.s .o .o))))))
def ann51 : Ann := (.s .o (.s .o .o))
def ann52 : Ann := (.s .o (.s .o .o))
def ann53 : Ann := (.s .o (.s .o .o))
def ann54 : Ann := (.s .o (.s (.s .o (.s (.s .o .o) .o)) (.s .o .o)))
def ann55 : Ann := (.s .o (.s .o (.s .o (.s (.f [6, 8, 0, 1, 2, 3, 4, 5, 7, 9, 10, 11, 12, 13, 14, 15, 16] 2 [0, 1, 2, 3, 4, 7, 9, 10, 11, 12, 13, 14, 16] [(5, [7, 9, 10, 11, 12, 13, 14])]) (.j ⟨1, [], [], [1, 4], [], []⟩ (.j ⟨2, [], [], [1, 4, 53], [], []⟩ .o (.s (.s .o .o) .o)) (.s .o .o))))))
def ann56 : Ann := (.s .o (.s (.s .o (.s (.s .o .o) .o)) (.s (.s .o (.s (.s .o .o) .o)) (.s (.s .o (.s (.s .o .o) .o)) (.s .o .o)))))
def ann57 : Ann := (.s .o (.s .o (.s (.s .o (.s (.s .o .o) .o)) (.s .o .o))))
def ann69 : Ann := (.s .o (.s (.s .o (.s (.s .o .o) .o)) (.s .o (.j ⟨1, [], [], [1, 2, 6, 5], [], []⟩ (.s .o (.b (.j ⟨2, [], [], [1, 2, 6, 5, 13, 14], [], []⟩ (.s .o (.s .o (.s .o (.s .o .o)))) (.s .o (.j ⟨3, [], [], [1, 2, 6, 5, 13, 18], [], []⟩ (.s .o (.s .o .o)) (.s .o (.s .o (.s .o (.s .o (.s (.s .o (.s .o (.s .o (.s (.s .o .o) .o)))) (.s .o (.s .o (.s .o .o))))))))))))) (.j ⟨4, [], [], [1, 2], [], []⟩ (.j ⟨5, [], [], [1, 2, 47], [], []⟩ .o (.s (.s .o .o) .o)) (.s .o (.s (.s .o (.b (.l ⟨6, [], [], [8, 7, 1, 2], [], []⟩ (.s (.s .o (.s .o .o)) (.s (.b (.s .o (.s (.s .o (.s (.s .o .o) .o)) (.s .o (.s .o (.s (.s .o .o) .o)))))) .o))))) (.s .o .o))))))))
def ann71 : Ann := (.s .o (.j ⟨1, [], [], [1, 2], [], []⟩ (.j ⟨2, [], [], [1, 2, 14], [], []⟩ .o (.s (.s .o .o) .o)) (.s .o (.s (.s .o (.b (.l ⟨3, [], [], [18, 1, 5, 16, 17], [], []⟩ (.s .o (.s (.s .o .o) (.s (.b (.s .o (.s .o (.s .o (.s (.s .o .o) .o))))) .o)))))) (.s .o .o)))))
def ann83 : Ann := (.s .o (.s .o (.s (.s .o (.s (.s .o .o) .o)) (.s (.s .o (.b (.l ⟨1, [], [], [5, 1, 0], [], []⟩ (.s (.s .o (.s .o .o)) (.s (.b (.s .o (.s .o (.s (.s .o .o) .o)))) .o))))) (.s .o .o)))))
def ann85 : Ann := (.s .o (.s .o (.s (.s .o (.b (.l ⟨1, [], [], [4, 0, 3], [], []⟩ (.s (.s .o (.s .o .o)) (.s (.b .o) .o))))) (.s .o .o))))
def ann86 : Ann := (.s .o (.s (.s .o (.s (.s .o .o) .o)) (.s (.s .o (.b (.l ⟨1, [], [], [5, 1, 0], [], []⟩ (.s (.s .o (.s .o .o)) (.s (.b (.s (.f [0, 1, 4, 5, 2, 3, 6, 7, 8, 9] 4 [2, 3, 6, 7, 9] []) (.s (.s .o .o) .o))) .o))))) (.s .o .o))))
def ann90 : Ann := (.s .o (.s .o .o))
def ann94 : Ann := (.s .o (.s .o (.s (.s .o (.s (.s .o .o) .o)) (.s (.s .o (.b (.l ⟨1, [], [], [5, 1, 0], [], []⟩ (.s (.s .o (.s .o .o)) (.s (.b (.s .o (.s .o (.s (.s .o .o) .o)))) .o))))) (.s .o .o)))))
def ann95 : Ann := (.s .o (.s .o (.s (.s .o (.b (.l ⟨1, [], [], [4, 3, 0], [], []⟩ (.s (.s .o (.s .o .o)) (.s (.b (.s .o (.s (.s .o .o) .o))) .o))))) (.s .o .o))))
def ann96 : Ann := (.s .o (.s .o .o))
def ann97 : Ann := (.s .o (.s .o .o))
def ann98 : Ann := (.s .o (.s .o .o))
def ann99 : Ann := (.s .o (.s .o (.s (.s .o (.b (.l ⟨1, [], [], [4, 0, 3], [], []⟩ (.s (.s .o (.s .o .o)) (.s (.b .o) .o))))) (.s .o .o))))
def ann100 : Ann := (.s .o (.s (.s .o (.b (.l ⟨1, [], [], [8, 0, 1, 7], [], []⟩ (.s .o (.s (.s .o .o) (.s (.b (.s .o (.j ⟨2, [], [], [0, 1, 7, 8, 38], [], []⟩ .o (.s (.s .o .o) .o)))) .o)))))) (.s .o .o)))
def ann101 : Ann := (.s .o (.s .o .o))
def ann102 : Ann := (.s .o (.s .o .o))
def ann103 : Ann := (.s .o (.s .o .o))
def ann104 : Ann := (.s .o (.s .o .o))
def ann105 : Ann := (.s .o (.s .o (.s .o .o)))
def ann106 : Ann := (.s .o (.s .o .o))
def ann107 : Ann := (.s .o (.s .o .o))
def ann108 : Ann := (.s .o (.j ⟨1, [], [], [3, 2], [], []⟩ (.s .o (.b (.s .o (.s (.s (.r [0, 1, 2, 3, 4, 5, 6, 7, 8, 9, 10] 0 11 []) .o) (.s .o (.s (.j ⟨2, [], [], [3, 2, 37], [], []⟩ (.r [0, 1, 2, 3, 4, 5, 6, 7, 8, 9, 10, 11, 12, 13, 14, 15, 16] 0 17 []) (.s (.s .o .o) .o)) .o)))))) (.s .o .o)))
def ann109 : Ann := (.s .o (.s (.s .o (.s (.s .o .o) .o)) (.s (.s .o (.b (.l ⟨1, [], [], [5, 1, 0], [], []⟩ (.s (.s .o (.s .o .o)) (.s (.b (.s (.f [0, 1, 4, 5, 2, 3, 6, 7, 8, 9] 4 [2, 3, 6, 7, 9] []) (.s (.s .o .o) .o))) .o))))) (.s .o .o))))
def ann121 : Ann := (.s .o (.s (.s .o (.b (.j ⟨1, [], [], [3, 4], [], []⟩ (.s .o (.s .o (.s .o (.s .o (.s .o (.s .o .o)))))) (.s (.s .o .o) (.j ⟨2, [], [], [3, 9], [], []⟩ (.s .o (.s .o .o)) (.s (.s .o .o) (.s .o (.s (.s .o .o) (.s .o (.s (.s .o .o) .o)))))))))) (.s .o .o)))
def ann123 : Ann := (.s .o (.s .o (.j ⟨1, [], [], [1], [], []⟩ (.j ⟨2, [], [], [1, 25], [], []⟩ .o (.s (.s .o .o) .o)) (.s (.s .o (.b (.s .o (.s (.s .o .o) (.s .o (.s (.s .o .o) .o)))))) (.s .o .o)))))
def ann134 : Ann := (.s .o (.s .o (.s (.s .o (.s (.s .o .o) .o)) (.s .o (.s (.s .o (.s (.s .o .o) .o)) (.s .o .o))))))
def ann135 : Ann := (.s .o (.s .o .o))
def ann136 : Ann := (.s .o (.s .o (.s .o (.s .o (.s .o .o)))))
def ann137 : Ann := (.s .o (.s .o .o))
def ann138 : Ann := (.s .o (.s .o .o))
def ann139 : Ann := (.s .o (.s .o (.s .o (.s .o (.s (.s .o (.b (.l ⟨1, [], [], [], [], []⟩ (.s (.s .o (.s .o .o)) (.s (.b (.s .o (.s .o (.s .o (.s .o .o))))) .o))))) (.s (.s .o (.s (.s .o .o) .o)) (.s .o (.s .o (.s .o (.s .o (.s (.b (.l ⟨2, [], [], [], [], []⟩ (.j ⟨3, [], [], [], [], []⟩ (.j ⟨4, [], [], [], [], []⟩ .o (.s .o .o)) (.b .o)))) (.s .o (.s (.b (.l ⟨5, [], [], [], [], []⟩ (.s (.s .o (.s .o .o)) (.b (.s (.s .o (.s (.s .o .o) .o)) (.s .o (.s .o (.s .o (.s (.b (.l ⟨6, [], [], [], [], []⟩ (.j ⟨7, [], [], [], [], []⟩ (.j ⟨8, [], [], [], [], []⟩ .o (.s .o .o)) (.b .o)))) .o))))))))) (.s (.s .o (.s .o .o)) (.s .o .o)))))))))))))))
def ann140 : Ann := (.s .o (.s (.s .o (.b (.l ⟨1, [], [], [8, 0, 1, 7], [], []⟩ (.s .o (.s (.s .o .o) (.s (.b (.s .o (.s .o (.s (.s .o .o) .o)))) .o)))))) (.s .o .o)))
def ann141 : Ann := (.s .o (.s .o .o))
def ann142 : Ann := (.s .o (.s .o .o))
def ann143 : Ann := (.s .o (.s (.s .o (.b (.l ⟨1, [], [], [1, 13, 11, 12], [], []⟩ (.s .o (.s (.s .o .o) (.s (.b (.s .o (.s .o (.b (.l ⟨2, [], [], [7, 21, 1, 19, 11, 12, 13, 20], [], []⟩ (.s .o (.s (.s .o .o) (.s (.b (.s .o (.s .o (.s (.s .o .o) .o)))) .o)))))))) .o)))))) (.s .o .o)))
def ann144 : Ann := (.s .o (.s (.s .o (.b (.l ⟨1, [], [], [8, 0, 1, 7], [], []⟩ (.s .o (.s (.s .o .o) (.s (.b (.s .o (.s .o (.s (.s .o .o) .o)))) .o)))))) (.s .o .o)))
def ann145 : Ann := (.s .o (.s .o .o))
def ann146 : Ann := (.s .o (.s (.s .o (.s (.s .o .o) .o)) (.s (.s .o (.s (.s .o .o) .o)) (.s .o .o))))
def ann164 : Ann := (.s .o (.s (.s .o (.b (.l ⟨1, [], [], [8, 0, 1, 7], [], []⟩ (.s .o (.s (.s .o .o) (.s (.b (.s .o (.s .o (.s (.s .o .o) .o)))) .o)))))) (.s .o .o)))
noncomputable def I3 : FnI := ⟨Tryd.f3, Tryd.f3.body.getD .skip, [false], [], false, [], .m (.one (.bool)), [], [], [], false, false, none, ann3⟩
noncomputable def I8 : FnI := ⟨Tryd.f8, Tryd.f8.body.getD .skip, [false, false], [], false, [], .m (.one (.int .i64)), [], [], [], false, false, none, ann8⟩
noncomputable def I9 : FnI := ⟨Tryd.f9, Tryd.f9.body.getD .skip, [false], [], false, [], .m (.one (.bool)), [], [], [], false, false, none, ann9⟩
noncomputable def I10 : FnI := ⟨Tryd.f10, Tryd.f10.body.getD .skip, [false], [], false, [], .m (.one (.sl 3)), [], [], [], false, false, none, ann10⟩
noncomputable def I11 : FnI := ⟨Tryd.f11, Tryd.f11.body.getD .skip, [false], [], false, [], .m (.one (.bool)), [], [], [], false, false, none, ann11⟩
noncomputable def I12 : FnI := ⟨Tryd.f12, Tryd.f12.body.getD .skip, [false, false], [], false, [], .m (.one (.bool)), [], [], [], false, false, none, ann12⟩
noncomputable def I20 : FnI := ⟨Tryd.f20, Tryd.f20.body.getD .skip, [false], [], false, [], .m (.one (.bool)), [], [], [], false, false, none, ann20⟩
noncomputable def I24 : FnI := ⟨Tryd.f24, Tryd.f24.body.getD .skip, [false], [], false, [], .m (.one (.bool)), [], [], [], false, false, none, ann24⟩
noncomputable def I30 : FnI := ⟨Tryd.f30, Tryd.f30.body.getD .skip, [false, false], [], false, [], .m (.one (.int .i64)), [], [], [], false, false, none, ann30⟩
noncomputable def I32 : FnI := ⟨Tryd.f32, Tryd.f32.body.getD .skip, [false], [], false, [], .m (.agg [.int .i64, .int .i64, .sl 3]), [], [], [], false, false, none, ann32⟩
noncomputable def I33 : FnI := ⟨Tryd.f33, Tryd.f33.body.getD .skip, [false, false], [], false, [], .m (.one (.bool)), [], [], [], false, false, none, ann33⟩
noncomputable def I34 : FnI := ⟨Tryd.f34, Tryd.f34.body.getD .skip, [false, false], [], false, [], .m (.one (.bool)), [], [], [], false, false, none, ann34⟩
noncomputable def I39 : FnI := ⟨Tryd.f39, Tryd.f39.body.getD .skip, [false], [], false, [], .m (.one (.sl 1)), [], [], [], false, false, none, ann39⟩
noncomputable def I44 : FnI := ⟨Tryd.f44, Tryd.f44.body.getD .skip, [false, false], [], false, [], .m (.one (.int .i64)), [], [], [], false, false, none, ann44⟩
noncomputable def I45 : FnI := ⟨Tryd.f45, Tryd.f45.body.getD .skip, [false], [], false, [], .m (.one (.bool)), [], [], [], false, false, none, ann45⟩
noncomputable def I46 : FnI := ⟨Tryd.f46, Tryd.f46.body.getD .skip, [false, false], [], false, [], .m (.one (.int .i64)), [], [], [], false, false, none, ann46⟩
noncomputable def I47 : FnI := ⟨Tryd.f47, Tryd.f47.body.getD .skip, [false, false], [], false, [], .m (.one (.bool)), [], [], [], false, false, none, ann47⟩
noncomputable def I48 : FnI := ⟨Tryd.f48, Tryd.f48.body.getD .skip, [false, false], [], false, [], .tup [.one (.int .i64), .one (.int .i64)], [], [], [], false, false, none, ann48⟩
noncomputable def I49 : FnI := ⟨Tryd.f49, Tryd.f49.body.getD .skip, [false, false, false], [], false, [], .m (.one (.bool)), [], [], [], false, false, none, ann49⟩
noncomputable def I50 : FnI := ⟨Tryd.f50, Tryd.f50.body.getD .skip, [false], [], false, [], .m (.agg [.sl 1, .int .i64, .sl 2]), [], [], [], false, false, none, ann50⟩
noncomputable def I51 : FnI := ⟨Tryd.f51, Tryd.f51.body.getD .skip, [false], [], false, [], .m (.one (.bool)), [], [], [], false, false, none, ann51⟩
noncomputable def I52 : FnI := ⟨Tryd.f52, Tryd.f52.body.getD .skip, [false, false], [], false, [], .m (.one (.bool)), [], [], [], false, false, none, ann52⟩
noncomputable def I53 : FnI := ⟨Tryd.f53, Tryd.f53.body.getD .skip, [false, false, false], [], false, [], .m (.one (.bool)), [], [], [], false, false, none, ann53⟩
noncomputable def I54 : FnI := ⟨Tryd.f54, Tryd.f54.body.getD .skip, [false], [], true, [(0, 0, 3)], .m (.one (.own 1000)), [], [.row 3 false true], [], false, false, none, ann54⟩
noncomputable def I55 : FnI := ⟨Tryd.f55, Tryd.f55.body.getD .skip, [false], [], false, [], .m (.one (.bool)), [], [], [], false, false, none, ann55⟩
noncomputable def I56 : FnI := ⟨Tryd.f56, Tryd.f56.body.getD .skip, [false, false], [], false, [], .m (.one (.bool)), [], [], [], false, false, none, ann56⟩
noncomputable def I57 : FnI := ⟨Tryd.f57, Tryd.f57.body.getD .skip, [false, false], [], false, [], .m (.one (.int .i64)), [], [], [], false, false, none, ann57⟩
noncomputable def I69 : FnI := ⟨Tryd.f69, Tryd.f69.body.getD .skip, [false, false], [], false, [], .m (.one (.int .i64)), [], [], [], false, false, none, ann69⟩
noncomputable def I71 : FnI := ⟨Tryd.f71, Tryd.f71.body.getD .skip, [false, false], [], false, [], .m (.one (.int .i64)), [], [], [], false, false, none, ann71⟩
noncomputable def I83 : FnI := ⟨Tryd.f83, Tryd.f83.body.getD .skip, [false, false], [], false, [], .m (.one (.int .i64)), [], [], [], false, false, none, ann83⟩
noncomputable def I85 : FnI := ⟨Tryd.f85, Tryd.f85.body.getD .skip, [false], [], false, [], .m (.one (.sl 3)), [], [], [], false, false, none, ann85⟩
noncomputable def I86 : FnI := ⟨Tryd.f86, Tryd.f86.body.getD .skip, [false, false], [], false, [], .m (.one (.bool)), [], [], [], false, false, none, ann86⟩
noncomputable def I90 : FnI := ⟨Tryd.f90, Tryd.f90.body.getD .skip, [false, false], [], false, [], .m (.one (.bool)), [], [], [], false, false, none, ann90⟩
noncomputable def I94 : FnI := ⟨Tryd.f94, Tryd.f94.body.getD .skip, [false, false], [], false, [], .m (.one (.int .i64)), [], [], [], false, false, none, ann94⟩
noncomputable def I95 : FnI := ⟨Tryd.f95, Tryd.f95.body.getD .skip, [false], [], false, [], .m (.one (.bool)), [], [], [], false, false, none, ann95⟩
noncomputable def I96 : FnI := ⟨Tryd.f96, Tryd.f96.body.getD .skip, [false], [], false, [], .m (.one (.bool)), [], [], [], false, false, none, ann96⟩
noncomputable def I97 : FnI := ⟨Tryd.f97, Tryd.f97.body.getD .skip, [false], [], false, [], .m (.one (.bool)), [], [], [], false, false, none, ann97⟩
noncomputable def I98 : FnI := ⟨Tryd.f98, Tryd.f98.body.getD .skip, [false], [], false, [], .m (.one (.bool)), [], [], [], false, false, none, ann98⟩
noncomputable def I99 : FnI := ⟨Tryd.f99, Tryd.f99.body.getD .skip, [false], [], false, [], .m (.one (.sl 2)), [], [], [], false, false, none, ann99⟩
noncomputable def I100 : FnI := ⟨Tryd.f100, Tryd.f100.body.getD .skip, [false, false], [], false, [], .m (.one (.bool)), [], [], [], false, false, none, ann100⟩
noncomputable def I101 : FnI := ⟨Tryd.f101, Tryd.f101.body.getD .skip, [false], [], false, [], .m (.one (.bool)), [], [], [], false, false, none, ann101⟩
noncomputable def I102 : FnI := ⟨Tryd.f102, Tryd.f102.body.getD .skip, [false], [], false, [], .m (.one (.bool)), [], [], [], false, false, none, ann102⟩
noncomputable def I103 : FnI := ⟨Tryd.f103, Tryd.f103.body.getD .skip, [false, false], [], false, [], .m (.one (.int .i64)), [], [], [], false, false, none, ann103⟩
noncomputable def I104 : FnI := ⟨Tryd.f104, Tryd.f104.body.getD .skip, [false], [], false, [], .m (.one (.bool)), [], [], [], false, false, none, ann104⟩
noncomputable def I105 : FnI := ⟨Tryd.f105, Tryd.f105.body.getD .skip, [false, false], [], false, [], .m (.one (.bool)), [], [], [], false, false, none, ann105⟩
noncomputable def I106 : FnI := ⟨Tryd.f106, Tryd.f106.body.getD .skip, [false, false], [], false, [], .m (.one (.bool)), [], [], [], false, false, none, ann106⟩
noncomputable def I107 : FnI := ⟨Tryd.f107, Tryd.f107.body.getD .skip, [false, true], [], false, [], .m (.one (.bool)), [], [], [], false, false, none, ann107⟩
noncomputable def I108 : FnI := ⟨Tryd.f108, Tryd.f108.body.getD .skip, [false, false], [], false, [], .m (.one (.bool)), [], [], [], false, false, none, ann108⟩
noncomputable def I109 : FnI := ⟨Tryd.f109, Tryd.f109.body.getD .skip, [false, false], [], false, [], .m (.one (.bool)), [], [], [], false, false, none, ann109⟩
noncomputable def I121 : FnI := ⟨Tryd.f121, Tryd.f121.body.getD .skip, [false], [], false, [], .m (.one (.int .i64)), [], [], [], false, false, none, ann121⟩
noncomputable def I123 : FnI := ⟨Tryd.f123, Tryd.f123.body.getD .skip, [false], [], false, [], .m (.one (.bool)), [], [], [], false, false, none, ann123⟩
noncomputable def I134 : FnI := ⟨Tryd.f134, Tryd.f134.body.getD .skip, [false, false], [], false, [], .m (.one (.int .i64)), [], [], [], false, false, none, ann134⟩
noncomputable def I135 : FnI := ⟨Tryd.f135, Tryd.f135.body.getD .skip, [], [], false, [], .m (.one (.sl 1)), [], [], [], false, false, none, ann135⟩
noncomputable def I136 : FnI := ⟨Tryd.f136, Tryd.f136.body.getD .skip, [false], [], false, [], .m (.agg [.sl 1, .sl 3]), [], [], [], false, false, none, ann136⟩
noncomputable def I137 : FnI := ⟨Tryd.f137, Tryd.f137.body.getD .skip, [false], [], false, [], .m (.one (.bool)), [], [], [], false, false, none, ann137⟩
noncomputable def I138 : FnI := ⟨Tryd.f138, Tryd.f138.body.getD .skip, [false, false], [], false, [], .m (.one (.bool)), [], [], [], false, false, none, ann138⟩
noncomputable def I139 : FnI := ⟨Tryd.f139, Tryd.f139.body.getD .skip, [false], [], false, [], .m (.one (.sl 1)), [], [], [], false, false, some .fieldsC, ann139⟩
noncomputable def I140 : FnI := ⟨Tryd.f140, Tryd.f140.body.getD .skip, [false, false], [], false, [], .m (.one (.int .i64)), [], [], [], false, false, none, ann140⟩
noncomputable def I141 : FnI := ⟨Tryd.f141, Tryd.f141.body.getD .skip, [false, true], [], false, [], .m (.one (.bool)), [], [], [], false, false, none, ann141⟩
noncomputable def I142 : FnI := ⟨Tryd.f142, Tryd.f142.body.getD .skip, [false], [], false, [], .m (.one (.bool)), [], [], [], false, false, none, ann142⟩
noncomputable def I143 : FnI := ⟨Tryd.f143, Tryd.f143.body.getD .skip, [false, false], [], false, [], .tup [.one (.int .i64), .one (.int .i64), .one (.bool)], [], [], [], false, false, none, ann143⟩
noncomputable def I144 : FnI := ⟨Tryd.f144, Tryd.f144.body.getD .skip, [false, false], [], false, [], .m (.one (.int .i64)), [], [], [], false, false, none, ann144⟩
noncomputable def I145 : FnI := ⟨Tryd.f145, Tryd.f145.body.getD .skip, [false, true], [], false, [], .m (.one (.bool)), [], [], [], false, false, none, ann145⟩
noncomputable def I146 : FnI := ⟨Tryd.f146, Tryd.f146.body.getD .skip, [false, false], [], false, [], .m (.one (.bool)), [], [], [], false, false, none, ann146⟩
noncomputable def I164 : FnI := ⟨Tryd.f164, Tryd.f164.body.getD .skip, [false, false], [], false, [], .m (.one (.int .i64)), [], [], [], false, false, none, ann164⟩
noncomputable def fnsL : List (Nat × FnI) := [(3, I3), (8, I8), (9, I9), (10, I10), (11, I11), (12, I12), (20, I20), (24, I24), (30, I30), (32, I32), (33, I33), (34, I34), (39, I39), (44, I44), (45, I45), (46, I46), (47, I47), (48, I48), (49, I49), (50, I50), (51, I51), (52, I52), (53, I53), (54, I54), (55, I55), (56, I56), (57, I57), (69, I69), (71, I71), (83, I83), (85, I85), (86, I86), (90, I90), (94, I94), (95, I95), (96, I96), (97, I97), (98, I98), (99, I99), (100, I100), (101, I101), (102, I102), (103, I103), (104, I104), (105, I105), (106, I106), (107, I107), (108, I108), (109, I109), (121, I121), (123, I123), (134, I134), (135, I135), (136, I136), (137, I137), (138, I138), (139, I139), (140, I140), (141, I141), (142, I142), (143, I143), (144, I144), (145, I145), (146, I146), (164, I164)]
noncomputable def cx : Cx := ⟨tyL, fnsL, false⟩
noncomputable def laws_FnExactDatasOk (x0 : Sl) : Res := evF cx 3 [(.d (.sl false 3 x0.1 x0.2))] []
noncomputable def laws_szDataS (x0 : Sl) (x1 : Int) : Res := evF cx 8 [(.d (.sl false 3 x0.1 x0.2)), (.d (.int .i64 x1))] []
noncomputable def laws_toDataS (x0 : Sl) : Res := evF cx 10 [(.d (.sl false 3 x0.1 x0.2))] []
noncomputable def spec_DatasOk (x0 : Sl) : Res := evF cx 9 [(.d (.sl false 3 x0.1 x0.2))] []
noncomputable def impl_DatasOk (x0 : Sl) : Res := evF cx 11 [(.d (.sl false 3 x0.1 x0.2))] []
noncomputable def laws_eqDataS (x0 : Sl) (x1 : Sl) : Res := evF cx 12 [(.d (.sl false 3 x0.1 x0.2)), (.d (.sl false 3 x1.1 x1.2))] []
noncomputable def laws_szData (x0 : T_Data) (x1 : Int) : Res := evF cx 44 [(.agg (LS.encs sh_Data x0)), (.d (.int .i64 x1))] []
noncomputable def laws_toData (x0 : T_Data) : Res := evF cx 50 [(.agg (LS.encs sh_Data x0))] []
noncomputable def spec_l5name (x0 : Sl) : Res := evF cx 45 [(.d (.sl false 1 x0.1 x0.2))] []
noncomputable def spec_l5data (x0 : Sl) (x1 : Sl) : Res := evF cx 46 [(.d (.sl false 3 x0.1 x0.2)), (.d (.sl false 1 x1.1 x1.2))] []
noncomputable def spec_l5word (x0 : Sl) (x1 : Bool) : Res := evF cx 47 [(.d (.sl false 1 x0.1 x0.2)), (.d (.bool x1))] []
noncomputable def spec_l5con (x0 : Sl) (x1 : Sl) : Res := evF cx 48 [(.d (.sl false 3 x0.1 x0.2)), (.d (.sl false 1 x1.1 x1.2))] []
noncomputable def spec_TyOk (x0 : T_Ty) : Res := evF cx 20 [(.agg (LS.encs sh_Ty x0))] []
noncomputable def spec_l5ty (x0 : T_Ty) (x1 : Int) (x2 : Sl) : Res := evF cx 49 [(.agg (LS.encs sh_Ty x0)), (.d (.int .i64 x1)), (.d (.sl false 3 x2.1 x2.2))] []
noncomputable def impl_isName (x0 : ByteArray) : Res := evF cx 51 [(.d (.str x0))] []
noncomputable def impl_hasData (x0 : Sl) (x1 : ByteArray) : Res := evF cx 52 [(.d (.sl false 3 x0.1 x0.2)), (.d (.str x1))] []
noncomputable def impl_within (x0 : Int) (x1 : Int) (x2 : Int) : Res := evF cx 53 [(.d (.int .i64 x0)), (.d (.int .i64 x1)), (.d (.int .i64 x2))] []
noncomputable def slices_Clone_impl_Data_impl_Data (x0 : Sl) : Res := evF cx 54 [(.d (.sl false 3 x0.1 x0.2))] []
noncomputable def impl_conOk (x0 : Sl) : Res := evF cx 55 [(.d (.sl false 3 x0.1 x0.2))] []
noncomputable def laws_eqData (x0 : T_Data) (x1 : T_Data) : Res := evF cx 56 [(.agg (LS.encs sh_Data x0)), (.agg (LS.encs sh_Data x1))] []
noncomputable def laws_szByteS (x0 : Sl) (x1 : Int) : Res := evF cx 57 [(.d (.sl false 1 x0.1 x0.2)), (.d (.int .i64 x1))] []
noncomputable def laws_szConS (x0 : Sl) (x1 : Int) : Res := evF cx 94 [(.d (.sl false 2 x0.1 x0.2)), (.d (.int .i64 x1))] []
noncomputable def laws_toByteS (x0 : Sl) : Res := evF cx 39 [(.d (.sl false 1 x0.1 x0.2))] []
noncomputable def laws_toConS (x0 : Sl) : Res := evF cx 99 [(.d (.sl false 2 x0.1 x0.2))] []
noncomputable def spec_l5key (x0 : Sl) : Res := evF cx 95 [(.d (.sl false 1 x0.1 x0.2))] []
noncomputable def spec_l5upper (x0 : Int) : Res := evF cx 96 [(.d (.int .u8 x0))] []
noncomputable def spec_l5lower (x0 : Int) : Res := evF cx 97 [(.d (.int .u8 x0))] []
noncomputable def spec_l5digit (x0 : Int) : Res := evF cx 98 [(.d (.int .u8 x0))] []
noncomputable def spec_l3ok (x0 : T_Ty) (x1 : Int) : Res := evF cx 69 [(.agg (LS.encs sh_Ty x0)), (.d (.int .i64 x1))] []
noncomputable def impl_wordLike_Fimpl_isSmall (x0 : ByteArray) : Res := evF cx 100 [(.d (.str x0)), (.fn 101 [])] []
noncomputable def impl_isKey (x0 : ByteArray) : Res := evF cx 102 [(.d (.str x0))] []
noncomputable def impl_dataAt (x0 : Sl) (x1 : ByteArray) : Res := evF cx 103 [(.d (.sl false 3 x0.1 x0.2)), (.d (.str x1))] []
noncomputable def impl_isCon (x0 : ByteArray) : Res := evF cx 104 [(.d (.str x0))] []
noncomputable def impl_hasCon (x0 : Sl) (x1 : ByteArray) : Res := evF cx 105 [(.d (.sl false 3 x0.1 x0.2)), (.d (.str x1))] []
noncomputable def slices_ContainsFunc_impl_Ty_impl_Ty_Fimpl_conOk_1c (x0 : Sl) (x1 : Sl) : Res := evF cx 106 [(.d (.sl false 3 x0.1 x0.2)), (.fn 107 [(.ptr 0 0)])] [(.box [(.d (.sl false 3 x1.1 x1.2))])]
noncomputable def laws_eqByteS (x0 : Sl) (x1 : Sl) : Res := evF cx 33 [(.d (.sl false 1 x0.1 x0.2)), (.d (.sl false 1 x1.1 x1.2))] []
noncomputable def laws_eqConS (x0 : Sl) (x1 : Sl) : Res := evF cx 109 [(.d (.sl false 2 x0.1 x0.2)), (.d (.sl false 2 x1.1 x1.2))] []
noncomputable def laws_szCon (x0 : T_Con) (x1 : Int) : Res := evF cx 134 [(.agg (LS.encs sh_Con x0)), (.d (.int .i64 x1))] []
noncomputable def laws_toCon (x0 : T_Con) : Res := evF cx 136 [(.agg (LS.encs sh_Con x0))] []
noncomputable def spec_l5keys : Res := evF cx 135 [] []
noncomputable def spec_l5is (x0 : Sl) (x1 : ByteArray) : Res := evF cx 90 [(.d (.sl false 1 x0.1 x0.2)), (.d (.str x1))] []
noncomputable def impl_isSmall (x0 : Int) : Res := evF cx 101 [(.d (.int .u8 x0))] []
noncomputable def impl_isDigit (x0 : Int) : Res := evF cx 137 [(.d (.int .u8 x0))] []
noncomputable def strings_Fields (x0 : ByteArray) : Res := evF cx 139 [(.d (.str x0))] []
noncomputable def slices_Contains_string_string (x0 : Sl) (x1 : ByteArray) : Res := evF cx 138 [(.d (.sl false 1 x0.1 x0.2)), (.d (.str x1))] []
noncomputable def slices_IndexFunc_impl_Data_impl_Data_Fimpl_dataAt_1c (x0 : Sl) (x1 : ByteArray) : Res := evF cx 140 [(.d (.sl false 3 x0.1 x0.2)), (.fn 141 [(.ptr 0 0)])] [(.box [(.d (.str x1))])]
noncomputable def impl_wordLike_Fimpl_isGreat (x0 : ByteArray) : Res := evF cx 100 [(.d (.str x0)), (.fn 142 [])] []
noncomputable def impl_findCon (x0 : Sl) (x1 : ByteArray) : Res := evF cx 143 [(.d (.sl false 3 x0.1 x0.2)), (.d (.str x1))] []
noncomputable def slices_IndexFunc_impl_Ty_impl_Ty_Fimpl_conOk_1c (x0 : Sl) (x1 : Sl) : Res := evF cx 144 [(.d (.sl false 3 x0.1 x0.2)), (.fn 107 [(.ptr 0 0)])] [(.box [(.d (.sl false 3 x1.1 x1.2))])]
noncomputable def laws_eqCon (x0 : T_Con) (x1 : T_Con) : Res := evF cx 146 [(.agg (LS.encs sh_Con x0)), (.agg (LS.encs sh_Con x1))] []
noncomputable def laws_szTyS (x0 : Sl) (x1 : Int) : Res := evF cx 83 [(.d (.sl false 3 x0.1 x0.2)), (.d (.int .i64 x1))] []
noncomputable def laws_toTyS (x0 : Sl) : Res := evF cx 85 [(.d (.sl false 3 x0.1 x0.2))] []
noncomputable def slices_Index_string_string (x0 : Sl) (x1 : ByteArray) : Res := evF cx 164 [(.d (.sl false 1 x0.1 x0.2)), (.d (.str x1))] []
noncomputable def impl_dataAt_1 (x0 : T_Data) (x1 : ByteArray) : Res := evF cx 141 [(.agg (LS.encs sh_Data x0)), (.ptr 0 0)] [(.box [(.d (.str x1))])]
noncomputable def impl_isGreat (x0 : Int) : Res := evF cx 142 [(.d (.int .u8 x0))] []
noncomputable def impl_conOk_1 (x0 : T_Ty) (x1 : Sl) : Res := evF cx 107 [(.agg (LS.encs sh_Ty x0)), (.ptr 0 0)] [(.box [(.d (.sl false 3 x1.1 x1.2))])]
noncomputable def laws_eqTyS (x0 : Sl) (x1 : Sl) : Res := evF cx 86 [(.d (.sl false 3 x0.1 x0.2)), (.d (.sl false 3 x1.1 x1.2))] []
noncomputable def laws_szTy (x0 : T_Ty) (x1 : Int) : Res := evF cx 30 [(.agg (LS.encs sh_Ty x0)), (.d (.int .i64 x1))] []
noncomputable def laws_toTy (x0 : T_Ty) : Res := evF cx 32 [(.agg (LS.encs sh_Ty x0))] []
noncomputable def impl_TyOk (x0 : T_Ty) : Res := evF cx 24 [(.agg (LS.encs sh_Ty x0))] []
noncomputable def impl_fieldOk (x0 : T_Ty) (x1 : Sl) : Res := evF cx 108 [(.agg (LS.encs sh_Ty x0)), (.d (.sl false 3 x1.1 x1.2))] []
noncomputable def laws_eqTy (x0 : T_Ty) (x1 : T_Ty) : Res := evF cx 34 [(.agg (LS.encs sh_Ty x0)), (.agg (LS.encs sh_Ty x1))] []
noncomputable def impl_measure (x0 : T_Ty) (x1 : Int) : Res := evF cx 71 [(.agg (LS.encs sh_Ty x0)), (.d (.int .i64 x1))] []
noncomputable def slices_ContainsFunc_impl_Ty_impl_Ty_Fimpl_fieldOk_1c (x0 : Sl) (x1 : Sl) : Res := evF cx 106 [(.d (.sl false 3 x0.1 x0.2)), (.fn 145 [(.ptr 0 0)])] [(.box [(.d (.sl false 3 x1.1 x1.2))])]
noncomputable def impl_headOk (x0 : T_Ty) : Res := evF cx 123 [(.agg (LS.encs sh_Ty x0))] []
noncomputable def slices_IndexFunc_impl_Ty_impl_Ty_Fimpl_fieldOk_1c (x0 : Sl) (x1 : Sl) : Res := evF cx 144 [(.d (.sl false 3 x0.1 x0.2)), (.fn 145 [(.ptr 0 0)])] [(.box [(.d (.sl false 3 x1.1 x1.2))])]
noncomputable def impl_argsOf (x0 : Int) : Res := evF cx 121 [(.d (.int .i64 x0))] []
noncomputable def impl_fieldOk_1 (x0 : T_Ty) (x1 : Sl) : Res := evF cx 145 [(.agg (LS.encs sh_Ty x0)), (.ptr 0 0)] [(.box [(.d (.sl false 3 x1.1 x1.2))])]
theorem laws_FnExactDatasOk_eq (x0 : Sl) : laws_FnExactDatasOk x0 =
  ocall (.m (.one (.int .i64))) [] (laws_szDataS x0 (1048576 : Int)) fun (r0 : Int) (m1 : Unit) =>
  oite (decide (r0 < (0 : Int)))
    (some ((.d (.bool true)), []))
    (ocall (.m (.one (.sl 3))) [] (laws_toDataS x0) fun (r2 : Sl) (m3 : Unit) =>
    ocall (.m (.one .bool)) [] (spec_DatasOk r2) fun (r4 : Bool) (m5 : Unit) =>
    ocall (.m (.one (.sl 3))) [] (laws_toDataS x0) fun (r6 : Sl) (m7 : Unit) =>
    ocall (.m (.one .bool)) [] (impl_DatasOk r6) fun (r8 : Bool) (m9 : Unit) =>
    oite (!(r8 == r4))
      (some ((.d (.bool false)), []))
      (ocall (.m (.one (.sl 3))) [] (laws_toDataS x0) fun (r10 : Sl) (m11 : Unit) =>
      ocall (.m (.one .bool)) [] (laws_eqDataS r6 r10) fun (r12 : Bool) (m13 : Unit) =>
      oite (!r12)
        (some ((.d (.bool false)), []))
        (some ((.d (.bool true)), [])))) := (evF_eq ..).trans (by kernel_rfl)
noncomputable def laws_szDataS_j1 (x0 : Int) (x1 : Int) (x2 : Sl) : Res := (fun (p : Env × Mem) => evI cx 8 0 1 p.1 p.2) ([(5, (.d (.int .i64 x0))), (1, (.d (.int .i64 x1))), (0, (.d (.sl false 3 x2.1 x2.2)))], [])
theorem laws_szDataS_eq (x0 : Sl) (x1 : Int) : laws_szDataS x0 x1 =
  oite (decide ((w64 (x1 - ((x0.1 : Nat) : Int))) < (0 : Int)))
    (some ((.d (.int .i64 (-1 : Int))), []))
    (laws_szDataS_j1 (0 : Int) (w64 (x1 - ((x0.1 : Nat) : Int))) x0) := (evF_eq ..).trans (by kernel_rfl)
-- a loop's head
theorem laws_szDataS_j1_eq (x0 : Int) (x1 : Int) (x2 : Sl) : laws_szDataS_j1 x0 x1 x2 =
  oite (decide (x0 < ((x2.1 : Nat) : Int)))
    (oat sh_Data x2.1 x2.2 x0 fun (t0 : T_Data) =>
    ocall (.m (.one (.int .i64))) [] (laws_szData t0 x1) fun (r1 : Int) (m2 : Unit) =>
    oite (decide (r1 < (0 : Int)))
      (some ((.d (.int .i64 (-1 : Int))), []))
      (laws_szDataS_j1 (w64 (x0 + (1 : Int))) r1 x2))
    (some ((.d (.int .i64 x1)), [])) := (evI_eq ..).trans (by kernel_rfl)
noncomputable def laws_toDataS_j1 (x0 : Int) (x1 : Sl) (x2 : Sl) : Res := (fun (p : Env × Mem) => evI cx 10 0 1 p.1 p.2) ([(4, (.d (.int .i64 x0))), (0, (.d (.sl false 3 x1.1 x1.2))), (3, (.own 0))], [(.row 3 x2.1 false false x2.2)])
theorem laws_toDataS_eq (x0 : Sl) : laws_toDataS x0 =
  oguard (decide (((0 : Int) ≤ ((x0.1 : Nat) : Int)) ∧ ((((x0.1 : Nat) : Int) = ((x0.1 : Nat) : Int)) ∧ ((((x0.1 : Nat) : Int) * (56 : Int)) ≤ (140737488351232 : Int))))) (
  olet (List.replicate (Int.toNat ((x0.1 : Nat) : Int)) (vDs (LS.encs sh_Data ((0, []), (0 : Int), (0, []), ())))) fun (e0 : (List (List D))) =>
  laws_toDataS_j1 (0 : Int) x0 ((Int.toNat ((x0.1 : Nat) : Int)), e0)) := (evF_eq ..).trans (by kernel_rfl)
-- a loop's head
theorem laws_toDataS_j1_eq (x0 : Int) (x1 : Sl) (x2 : Sl) : laws_toDataS_j1 x0 x1 x2 =
  oite (decide (x0 < ((x1.1 : Nat) : Int)))
    (oat sh_Data x1.1 x1.2 x0 fun (t1 : T_Data) =>
    ocall (.m (.agg sh_Data)) [] (laws_toData t1) fun (r2 : T_Data) (m3 : Unit) =>
    oguard (decide (((0 : Int) ≤ x0) ∧ (x0 < ((x2.1 : Nat) : Int)))) (
    olet (List.set x2.2 (Int.toNat x0) (putD (List.getD x2.2 (Int.toNat x0) []) 0 (vDs (LS.encs sh_Data r2)))) fun (e4 : (List (List D))) =>
    laws_toDataS_j1 (w64 (x0 + (1 : Int))) x1 (x2.1, e4)))
    (some ((.d (.sl false 3 x2.1 x2.2)), [])) := (evI_eq ..).trans (by kernel_rfl)
noncomputable def spec_DatasOk_j1 (x0 : Int) (x1 : Sl) : Res := (fun (p : Env × Mem) => evI cx 9 0 1 p.1 p.2) ([(3, (.d (.int .i64 x0))), (0, (.d (.sl false 3 x1.1 x1.2)))], [])
noncomputable def spec_DatasOk_j3 (x0 : Int) (x1 : Sl) (x2 : Bool) (x3 : T_Data) : Res := (fun (p : Env × Mem) => evI cx 9 0 3 p.1 p.2) ([(3, (.d (.int .i64 x0))), (0, (.d (.sl false 3 x1.1 x1.2))), (4, (.ptr 0 0)), (57, (.d (.bool x2)))], [(.box (LS.encs sh_Data x3))])
noncomputable def spec_DatasOk_j2 (x0 : Int) (x1 : Sl) (x2 : T_Data) : Res := (fun (p : Env × Mem) => evI cx 9 0 2 p.1 p.2) ([(3, (.d (.int .i64 x0))), (0, (.d (.sl false 3 x1.1 x1.2))), (4, (.ptr 0 0))], [(.box (LS.encs sh_Data x2))])
noncomputable def spec_DatasOk_j4 (x0 : Int) (x1 : Sl) (x2 : Int) (x3 : T_Data) : Res := (fun (p : Env × Mem) => evI cx 9 0 4 p.1 p.2) ([(3, (.d (.int .i64 x0))), (0, (.d (.sl false 3 x1.1 x1.2))), (4, (.ptr 0 0)), (5, (.d (.int .i64 x2)))], [(.box (LS.encs sh_Data x3))])
noncomputable def spec_DatasOk_j6 (x0 : Int) (x1 : Sl) (x2 : Int) (x3 : Bool) (x4 : T_Data) (x5 : T_Con) : Res := (fun (p : Env × Mem) => evI cx 9 0 6 p.1 p.2) ([(3, (.d (.int .i64 x0))), (0, (.d (.sl false 3 x1.1 x1.2))), (4, (.ptr 0 0)), (6, (.ptr 1 0)), (5, (.d (.int .i64 x2))), (79, (.d (.bool x3)))], [(.box (LS.encs sh_Data x4)), (.box (LS.encs sh_Con x5))])
noncomputable def spec_DatasOk_j5 (x0 : Int) (x1 : Sl) (x2 : Int) (x3 : T_Data) (x4 : T_Con) : Res := (fun (p : Env × Mem) => evI cx 9 0 5 p.1 p.2) ([(3, (.d (.int .i64 x0))), (0, (.d (.sl false 3 x1.1 x1.2))), (4, (.ptr 0 0)), (6, (.ptr 1 0)), (5, (.d (.int .i64 x2)))], [(.box (LS.encs sh_Data x3)), (.box (LS.encs sh_Con x4))])
noncomputable def spec_DatasOk_j8 (x0 : Int) (x1 : Sl) (x2 : Int) (x3 : Bool) (x4 : T_Data) (x5 : T_Con) : Res := (fun (p : Env × Mem) => evI cx 9 0 8 p.1 p.2) ([(3, (.d (.int .i64 x0))), (0, (.d (.sl false 3 x1.1 x1.2))), (4, (.ptr 0 0)), (6, (.ptr 1 0)), (5, (.d (.int .i64 x2))), (94, (.d (.bool x3)))], [(.box (LS.encs sh_Data x4)), (.box (LS.encs sh_Con x5))])
noncomputable def spec_DatasOk_j7 (x0 : Int) (x1 : Sl) (x2 : Int) (x3 : T_Data) (x4 : T_Con) : Res := (fun (p : Env × Mem) => evI cx 9 0 7 p.1 p.2) ([(3, (.d (.int .i64 x0))), (0, (.d (.sl false 3 x1.1 x1.2))), (4, (.ptr 0 0)), (6, (.ptr 1 0)), (5, (.d (.int .i64 x2)))], [(.box (LS.encs sh_Data x3)), (.box (LS.encs sh_Con x4))])
noncomputable def spec_DatasOk_j9 (x0 : Int) (x1 : Int) (x2 : Sl) (x3 : Int) (x4 : T_Data) (x5 : T_Con) : Res := (fun (p : Env × Mem) => evI cx 9 0 9 p.1 p.2) ([(9, (.d (.int .i64 x0))), (3, (.d (.int .i64 x1))), (0, (.d (.sl false 3 x2.1 x2.2))), (4, (.ptr 0 0)), (6, (.ptr 1 0)), (5, (.d (.int .i64 x3)))], [(.box (LS.encs sh_Data x4)), (.box (LS.encs sh_Con x5))])
noncomputable def spec_DatasOk_j10 (x0 : Int) (x1 : Sl) (x2 : Int) (x3 : Int) (x4 : Bool) (x5 : T_Data) (x6 : T_Con) : Res := (fun (p : Env × Mem) => evI cx 9 0 10 p.1 p.2) ([(3, (.d (.int .i64 x0))), (0, (.d (.sl false 3 x1.1 x1.2))), (4, (.ptr 0 0)), (6, (.ptr 1 0)), (5, (.d (.int .i64 x2))), (9, (.d (.int .i64 x3))), (123, (.d (.bool x4)))], [(.box (LS.encs sh_Data x5)), (.box (LS.encs sh_Con x6))])
theorem spec_DatasOk_eq (x0 : Sl) : spec_DatasOk x0 =
  oite (decide (((x0.1 : Nat) : Int) > (6 : Int)))
    (some ((.d (.bool false)), []))
    (spec_DatasOk_j1 (0 : Int) x0) := (evF_eq ..).trans (by kernel_rfl)
-- a loop's head
theorem spec_DatasOk_j1_eq (x0 : Int) (x1 : Sl) : spec_DatasOk_j1 x0 x1 =
  oite (decide (x0 < ((x1.1 : Nat) : Int)))
    (oat sh_Data x1.1 x1.2 x0 fun (t0 : T_Data) =>
    ocall (.m (.one .bool)) [] (spec_l5name t0.1) fun (r1 : Bool) (m2 : Unit) =>
    oite (!r1)
      (spec_DatasOk_j3 x0 x1 true t0)
      (oguard (decide (((0 : Int) ≤ x0) ∧ (x0 ≤ ((x1.1 : Nat) : Int)))) (
      olet (List.take (Int.toNat x0) x1.2) fun (e3 : (List (List D))) =>
      ocall (.m (.one (.int .i64))) [] (spec_l5data ((Int.toNat x0), e3) t0.1) fun (r4 : Int) (m5 : Unit) =>
      oite (decide (r4 ≥ (0 : Int)))
        (spec_DatasOk_j3 x0 x1 true t0)
        (oite (decide (t0.2.1 < (0 : Int)))
          (spec_DatasOk_j3 x0 x1 true t0)
          (oite (decide (t0.2.1 > (2 : Int)))
            (spec_DatasOk_j3 x0 x1 true t0)
            (oite (decide (((t0.2.2.1.1 : Nat) : Int) < (1 : Int)))
              (spec_DatasOk_j3 x0 x1 true t0)
              (spec_DatasOk_j3 x0 x1 (decide (((t0.2.2.1.1 : Nat) : Int) > (5 : Int))) t0)))))))
    (some ((.d (.bool true)), [])) := (evI_eq ..).trans (by kernel_rfl)
theorem spec_DatasOk_j3_eq (x0 : Int) (x1 : Sl) (x2 : Bool) (x3 : T_Data) : spec_DatasOk_j3 x0 x1 x2 x3 =
  oite x2
    (some ((.d (.bool false)), []))
    (spec_DatasOk_j2 x0 x1 x3) := (evI_eq ..).trans (by kernel_rfl)
theorem spec_DatasOk_j2_eq (x0 : Int) (x1 : Sl) (x2 : T_Data) : spec_DatasOk_j2 x0 x1 x2 =
  spec_DatasOk_j4 x0 x1 (0 : Int) x2 := (evI_eq ..).trans (by kernel_rfl)
-- a loop's head
theorem spec_DatasOk_j4_eq (x0 : Int) (x1 : Sl) (x2 : Int) (x3 : T_Data) : spec_DatasOk_j4 x0 x1 x2 x3 =
  oite (decide (x2 < ((x3.2.2.1.1 : Nat) : Int)))
    (oat sh_Con x3.2.2.1.1 x3.2.2.1.2 x2 fun (t6 : T_Con) =>
    ocall (.m (.one .bool)) [] (spec_l5word t6.1 true) fun (r7 : Bool) (m8 : Unit) =>
    oite (!r7)
      (spec_DatasOk_j6 x0 x1 x2 true x3 t6)
      (spec_DatasOk_j6 x0 x1 x2 (decide (((t6.2.1.1 : Nat) : Int) > (3 : Int))) x3 t6))
    (spec_DatasOk_j1 (w64 (x0 + (1 : Int))) x1) := (evI_eq ..).trans (by kernel_rfl)
theorem spec_DatasOk_j6_eq (x0 : Int) (x1 : Sl) (x2 : Int) (x3 : Bool) (x4 : T_Data) (x5 : T_Con) : spec_DatasOk_j6 x0 x1 x2 x3 x4 x5 =
  oite x3
    (some ((.d (.bool false)), []))
    (spec_DatasOk_j5 x0 x1 x2 x4 x5) := (evI_eq ..).trans (by kernel_rfl)
theorem spec_DatasOk_j5_eq (x0 : Int) (x1 : Sl) (x2 : Int) (x3 : T_Data) (x4 : T_Con) : spec_DatasOk_j5 x0 x1 x2 x3 x4 =
  ocall (.tup [(.one (.int .i64)), (.one (.int .i64))]) [] (spec_l5con x1 x4.1) fun (r9 : (Int × (Int × Unit))) (m10 : Unit) =>
  oite (!(r9.1 == x0))
    (spec_DatasOk_j8 x0 x1 x2 true x3 x4)
    (spec_DatasOk_j8 x0 x1 x2 (!(r9.2.1 == x2)) x3 x4) := (evI_eq ..).trans (by kernel_rfl)
theorem spec_DatasOk_j8_eq (x0 : Int) (x1 : Sl) (x2 : Int) (x3 : Bool) (x4 : T_Data) (x5 : T_Con) : spec_DatasOk_j8 x0 x1 x2 x3 x4 x5 =
  oite x3
    (some ((.d (.bool false)), []))
    (spec_DatasOk_j7 x0 x1 x2 x4 x5) := (evI_eq ..).trans (by kernel_rfl)
theorem spec_DatasOk_j7_eq (x0 : Int) (x1 : Sl) (x2 : Int) (x3 : T_Data) (x4 : T_Con) : spec_DatasOk_j7 x0 x1 x2 x3 x4 =
  spec_DatasOk_j9 (0 : Int) x0 x1 x2 x3 x4 := (evI_eq ..).trans (by kernel_rfl)
-- a loop's head
theorem spec_DatasOk_j9_eq (x0 : Int) (x1 : Int) (x2 : Sl) (x3 : Int) (x4 : T_Data) (x5 : T_Con) : spec_DatasOk_j9 x0 x1 x2 x3 x4 x5 =
  oite (decide (x0 < ((x5.2.1.1 : Nat) : Int)))
    (oat sh_Ty x5.2.1.1 x5.2.1.2 x0 fun (t11 : T_Ty) =>
    ocall (.m (.one .bool)) [] (spec_TyOk t11) fun (r12 : Bool) (m13 : Unit) =>
    oite (!r12)
      (spec_DatasOk_j10 x1 x2 x3 x0 true x4 x5)
      (oat sh_Ty x5.2.1.1 x5.2.1.2 x0 fun (t14 : T_Ty) =>
      oguard (decide (((0 : Int) ≤ (w64 (x1 + (1 : Int)))) ∧ ((w64 (x1 + (1 : Int))) ≤ ((x2.1 : Nat) : Int)))) (
      olet (List.take (Int.toNat (w64 (x1 + (1 : Int)))) x2.2) fun (e15 : (List (List D))) =>
      ocall (.m (.one .bool)) [] (spec_l5ty t14 x4.2.1 ((Int.toNat (w64 (x1 + (1 : Int)))), e15)) fun (r16 : Bool) (m17 : Unit) =>
      spec_DatasOk_j10 x1 x2 x3 x0 (!r16) x4 x5)))
    (spec_DatasOk_j4 x1 x2 (w64 (x3 + (1 : Int))) x4) := (evI_eq ..).trans (by kernel_rfl)
theorem spec_DatasOk_j10_eq (x0 : Int) (x1 : Sl) (x2 : Int) (x3 : Int) (x4 : Bool) (x5 : T_Data) (x6 : T_Con) : spec_DatasOk_j10 x0 x1 x2 x3 x4 x5 x6 =
  oite x4
    (some ((.d (.bool false)), []))
    (spec_DatasOk_j9 (w64 (x3 + (1 : Int))) x0 x1 x2 x5 x6) := (evI_eq ..).trans (by kernel_rfl)
noncomputable def impl_DatasOk_j1 (x0 : Sl) (x1 : Int) (x2 : Sl) (x3 : Int) : Res := (fun (p : Env × Mem) => evI cx 11 0 1 p.1 p.2) ([(0, (.d (.sl false 3 x0.1 x0.2))), (12, (.d (.int .i64 x1))), (10, (.d (.sl false 3 x2.1 x2.2))), (11, (.d (.int .i64 x3)))], [])
noncomputable def impl_DatasOk_j3 (x0 : Int) (x1 : Sl) (x2 : Sl) (x3 : Int) (x4 : Int) (x5 : Bool) (x6 : T_Data) : Res := (fun (p : Env × Mem) => evI cx 11 0 3 p.1 p.2) ([(4, (.ptr 0 0)), (3, (.d (.int .i64 x0))), (0, (.d (.sl false 3 x1.1 x1.2))), (10, (.d (.sl false 3 x2.1 x2.2))), (11, (.d (.int .i64 x3))), (12, (.d (.int .i64 x4))), (43, (.d (.bool x5)))], [(.box (LS.encs sh_Data x6))])
noncomputable def impl_DatasOk_j2 (x0 : Int) (x1 : Sl) (x2 : Sl) (x3 : Int) (x4 : Int) (x5 : T_Data) : Res := (fun (p : Env × Mem) => evI cx 11 0 2 p.1 p.2) ([(4, (.ptr 0 0)), (3, (.d (.int .i64 x0))), (0, (.d (.sl false 3 x1.1 x1.2))), (10, (.d (.sl false 3 x2.1 x2.2))), (11, (.d (.int .i64 x3))), (12, (.d (.int .i64 x4)))], [(.box (LS.encs sh_Data x5))])
noncomputable def impl_DatasOk_j4 (x0 : Int) (x1 : Int) (x2 : Sl) (x3 : Sl) (x4 : Int) (x5 : Int) (x6 : Int) (x7 : T_Data) : Res := (fun (p : Env × Mem) => evI cx 11 0 4 p.1 p.2) ([(47, (.d (.int .i64 x0))), (4, (.ptr 0 0)), (3, (.d (.int .i64 x1))), (0, (.d (.sl false 3 x2.1 x2.2))), (10, (.d (.sl false 3 x3.1 x3.2))), (11, (.d (.int .i64 x4))), (12, (.d (.int .i64 x5))), (46, (.d (.int .i64 x6)))], [(.box (LS.encs sh_Data x7))])
theorem impl_DatasOk_eq (x0 : Sl) : impl_DatasOk x0 =
  oite (decide (((x0.1 : Nat) : Int) > (6 : Int)))
    (some ((.d (.bool false)), []))
    (impl_DatasOk_j1 x0 (0 : Int) x0 ((x0.1 : Nat) : Int)) := (evF_eq ..).trans (by kernel_rfl)
-- a loop's head
theorem impl_DatasOk_j1_eq (x0 : Sl) (x1 : Int) (x2 : Sl) (x3 : Int) : impl_DatasOk_j1 x0 x1 x2 x3 =
  oite (decide (x1 < x3))
    (oat sh_Data x2.1 x2.2 x1 fun (t0 : T_Data) =>
    ostr t0.1.2 fun (s1 : ByteArray) =>
    ocall (.m (.one .bool)) [] (impl_isName s1) fun (r2 : Bool) (m3 : Unit) =>
    oite (!r2)
      (impl_DatasOk_j3 x1 x0 x2 x3 x1 true t0)
      (oguard (decide (((0 : Int) ≤ x1) ∧ (x1 ≤ ((x0.1 : Nat) : Int)))) (
      olet (List.take (Int.toNat x1) x0.2) fun (e4 : (List (List D))) =>
      ostr t0.1.2 fun (s5 : ByteArray) =>
      ocall (.m (.one .bool)) [] (impl_hasData ((Int.toNat x1), e4) s5) fun (r6 : Bool) (m7 : Unit) =>
      oite r6
        (impl_DatasOk_j3 x1 x0 x2 x3 x1 true t0)
        (ocall (.m (.one .bool)) [] (impl_within t0.2.1 (0 : Int) (2 : Int)) fun (r8 : Bool) (m9 : Unit) =>
        oite (!r8)
          (impl_DatasOk_j3 x1 x0 x2 x3 x1 true t0)
          (ocall (.m (.one .bool)) [] (impl_within ((t0.2.2.1.1 : Nat) : Int) (1 : Int) (5 : Int)) fun (r10 : Bool) (m11 : Unit) =>
          impl_DatasOk_j3 x1 x0 x2 x3 x1 (!r10) t0)))))
    (some ((.d (.bool true)), [])) := (evI_eq ..).trans (by kernel_rfl)
theorem impl_DatasOk_j3_eq (x0 : Int) (x1 : Sl) (x2 : Sl) (x3 : Int) (x4 : Int) (x5 : Bool) (x6 : T_Data) : impl_DatasOk_j3 x0 x1 x2 x3 x4 x5 x6 =
  oite x5
    (some ((.d (.bool false)), []))
    (impl_DatasOk_j2 x0 x1 x2 x3 x4 x6) := (evI_eq ..).trans (by kernel_rfl)
theorem impl_DatasOk_j2_eq (x0 : Int) (x1 : Sl) (x2 : Sl) (x3 : Int) (x4 : Int) (x5 : T_Data) : impl_DatasOk_j2 x0 x1 x2 x3 x4 x5 =
  impl_DatasOk_j4 (0 : Int) x0 x1 x2 x3 x4 ((x5.2.2.1.1 : Nat) : Int) x5 := (evI_eq ..).trans (by kernel_rfl)
-- a loop's head
theorem impl_DatasOk_j4_eq (x0 : Int) (x1 : Int) (x2 : Sl) (x3 : Sl) (x4 : Int) (x5 : Int) (x6 : Int) (x7 : T_Data) : impl_DatasOk_j4 x0 x1 x2 x3 x4 x5 x6 x7 =
  oite (decide (x0 < x6))
    (oguard (decide (((0 : Int) ≤ x1) ∧ (x1 ≤ ((x2.1 : Nat) : Int)))) (
    olet (List.take (Int.toNat x1) x2.2) fun (e12 : (List (List D))) =>
    oguard (decide (((0 : Int) ≤ (w64 (x0 + (1 : Int)))) ∧ ((w64 (x0 + (1 : Int))) ≤ ((x7.2.2.1.1 : Nat) : Int)))) (
    olet (List.take (Int.toNat (w64 (x0 + (1 : Int)))) x7.2.2.1.2) fun (e13 : (List (List D))) =>
    ocall (.m (.one (.own 0))) [(.row 3 false true)] (slices_Clone_impl_Data_impl_Data ((Int.toNat x1), e12)) fun (r14 : Unit) (m15 : (Sl × Unit)) =>
    osame (α := List V) [(.d (.sl false 1 x7.1.1 x7.1.2))] [(.d (.sl false 1 x7.1.1 x7.1.2))] (
    osame (α := List V) [(.d (.int .i64 x7.2.1))] [(.d (.int .i64 x7.2.1))] (
    osame (α := List V) [(.d (.sl false 2 x7.2.2.1.1 x7.2.2.1.2))] [(.d (.sl false 2 x7.2.2.1.1 x7.2.2.1.2))] (
    osame (α := List V) [(.d (.int .i64 (w64 (x0 + (1 : Int)))))] [(.d (.int .i64 (w64 (x0 + (1 : Int)))))] (
    oguard (decide (((0 : Int) ≤ (w64 (x0 + (1 : Int)))) ∧ ((w64 (x0 + (1 : Int))) ≤ ((x7.2.2.1.1 : Nat) : Int)))) (
    olet (List.take (Int.toNat (w64 (x0 + (1 : Int)))) x7.2.2.1.2) fun (e16 : (List (List D))) =>
    osame (α := List V) [(.d (.sl false 2 (Int.toNat (w64 (x0 + (1 : Int)))) e13))] [(.d (.sl false 2 (Int.toNat (w64 (x0 + (1 : Int)))) e16))] (
    osame (α := List V) [(.agg [(.d (.sl false 1 x7.1.1 x7.1.2)), (.d (.int .i64 x7.2.1)), (.d (.sl false 2 (Int.toNat (w64 (x0 + (1 : Int)))) e13))])] [(.agg [(.d (.sl false 1 x7.1.1 x7.1.2)), (.d (.int .i64 x7.2.1)), (.d (.sl false 2 (Int.toNat (w64 (x0 + (1 : Int)))) e13))])] (
    osame (α := List V) [(.d (.sl true 3 1 ((vDs (LS.encs sh_Data (x7.1, x7.2.1, ((Int.toNat (w64 (x0 + (1 : Int)))), e13), ()))) :: [])))] [(.d (.sl true 3 1 ((vDs (LS.encs sh_Data (x7.1, x7.2.1, ((Int.toNat (w64 (x0 + (1 : Int)))), e13), ()))) :: [])))] (
    oguard (decide (((0 : Int) ≤ (w64 (x0 + (1 : Int)))) ∧ ((w64 (x0 + (1 : Int))) ≤ ((x7.2.2.1.1 : Nat) : Int)))) (
    olet (List.take (Int.toNat (w64 (x0 + (1 : Int)))) x7.2.2.1.2) fun (e17 : (List (List D))) =>
    oguard (decide (((m15.1.1 + 1) * 56) ≤ 140737488351232)) (
    olet (m15.1.2 ++ ((vDs (LS.encs sh_Data (x7.1, x7.2.1, ((Int.toNat (w64 (x0 + (1 : Int)))), e17), ()))) :: [])) fun (e18 : (List (List D))) =>
    ocall (.m (.one .bool)) [] (impl_conOk ((m15.1.1 + 1), e18)) fun (r19 : Bool) (m20 : Unit) =>
    oite (!r19)
      (some ((.d (.bool false)), []))
      (impl_DatasOk_j4 (w64 (x0 + (1 : Int))) x1 x2 x3 x4 x5 x6 x7))))))))))))))
    (impl_DatasOk_j1 x2 (w64 (x5 + (1 : Int))) x3 x4) := (evI_eq ..).trans (by kernel_rfl)
noncomputable def laws_eqDataS_j1 (x0 : Int) (x1 : Sl) (x2 : Sl) : Res := (fun (p : Env × Mem) => evI cx 12 0 1 p.1 p.2) ([(5, (.d (.int .i64 x0))), (1, (.d (.sl false 3 x1.1 x1.2))), (0, (.d (.sl false 3 x2.1 x2.2)))], [])
theorem laws_eqDataS_eq (x0 : Sl) (x1 : Sl) : laws_eqDataS x0 x1 =
  oite (!(((x0.1 : Nat) : Int) == ((x1.1 : Nat) : Int)))
    (some ((.d (.bool false)), []))
    (laws_eqDataS_j1 (0 : Int) x1 x0) := (evF_eq ..).trans (by kernel_rfl)
-- a loop's head
theorem laws_eqDataS_j1_eq (x0 : Int) (x1 : Sl) (x2 : Sl) : laws_eqDataS_j1 x0 x1 x2 =
  oite (decide (x0 < ((x2.1 : Nat) : Int)))
    (oat sh_Data x2.1 x2.2 x0 fun (t0 : T_Data) =>
    oat sh_Data x1.1 x1.2 x0 fun (t1 : T_Data) =>
    ocall (.m (.one .bool)) [] (laws_eqData t0 t1) fun (r2 : Bool) (m3 : Unit) =>
    oite (!r2)
      (some ((.d (.bool false)), []))
      (laws_eqDataS_j1 (w64 (x0 + (1 : Int))) x1 x2))
    (some ((.d (.bool true)), [])) := (evI_eq ..).trans (by kernel_rfl)
theorem laws_szData_eq (x0 : T_Data) (x1 : Int) : laws_szData x0 x1 =
  ocall (.m (.one (.int .i64))) [] (laws_szByteS x0.1 x1) fun (r0 : Int) (m1 : Unit) =>
  oite (decide (r0 < (0 : Int)))
    (some ((.d (.int .i64 (-1 : Int))), []))
    (ocall (.m (.one (.int .i64))) [] (laws_szConS x0.2.2.1 r0) fun (r2 : Int) (m3 : Unit) =>
    oite (decide (r2 < (0 : Int)))
      (some ((.d (.int .i64 (-1 : Int))), []))
      (some ((.d (.int .i64 r2)), []))) := (evF_eq ..).trans (by kernel_rfl)
theorem laws_toData_eq (x0 : T_Data) : laws_toData x0 =
  ocall (.m (.one (.sl 1))) [] (laws_toByteS x0.1) fun (r0 : Sl) (m1 : Unit) =>
  ocall (.m (.one (.sl 2))) [] (laws_toConS x0.2.2.1) fun (r2 : Sl) (m3 : Unit) =>
  some ((.agg (LS.encs sh_Data (r0, x0.2.1, r2, ()))), []) := (evF_eq ..).trans (by kernel_rfl)
theorem spec_l5name_eq (x0 : Sl) : spec_l5name x0 =
  ocall (.m (.one .bool)) [] (spec_l5word x0 false) fun (r0 : Bool) (m1 : Unit) =>
  oite r0
    (ocall (.m (.one .bool)) [] (spec_l5key x0) fun (r2 : Bool) (m3 : Unit) =>
    some ((.d (.bool (!r2))), []))
    (some ((.d (.bool false)), [])) := (evF_eq ..).trans (by kernel_rfl)
noncomputable def spec_l5data_j1 (x0 : Int) (x1 : Sl) (x2 : Sl) : Res := (fun (p : Env × Mem) => evI cx 46 0 1 p.1 p.2) ([(5, (.d (.int .i64 x0))), (1, (.d (.sl false 1 x1.1 x1.2))), (0, (.d (.sl false 3 x2.1 x2.2)))], [])
theorem spec_l5data_eq (x0 : Sl) (x1 : Sl) : spec_l5data x0 x1 =
  spec_l5data_j1 (0 : Int) x1 x0 := (evF_eq ..).trans (by kernel_rfl)
-- a loop's head
theorem spec_l5data_j1_eq (x0 : Int) (x1 : Sl) (x2 : Sl) : spec_l5data_j1 x0 x1 x2 =
  oite (decide (x0 < ((x2.1 : Nat) : Int)))
    (oat sh_Data x2.1 x2.2 x0 fun (t0 : T_Data) =>
    ostr t0.1.2 fun (s1 : ByteArray) =>
    ostr x1.2 fun (s2 : ByteArray) =>
    oite ((ByteArray.toList s1) == (ByteArray.toList s2))
      (some ((.d (.int .i64 x0)), []))
      (spec_l5data_j1 (w64 (x0 + (1 : Int))) x1 x2))
    (some ((.d (.int .i64 (-1 : Int))), [])) := (evI_eq ..).trans (by kernel_rfl)
noncomputable def spec_l5word_j2 (x0 : Sl) (x1 : Bool) (x2 : Bool) : Res := (fun (p : Env × Mem) => evI cx 47 0 2 p.1 p.2) ([(0, (.d (.sl false 1 x0.1 x0.2))), (1, (.d (.bool x1))), (13, (.d (.bool x2)))], [])
noncomputable def spec_l5word_j1 (x0 : Sl) (x1 : Bool) : Res := (fun (p : Env × Mem) => evI cx 47 0 1 p.1 p.2) ([(0, (.d (.sl false 1 x0.1 x0.2))), (1, (.d (.bool x1)))], [])
noncomputable def spec_l5word_j3 (x0 : Int) (x1 : Sl) (x2 : Bool) : Res := (fun (p : Env × Mem) => evI cx 47 0 3 p.1 p.2) ([(5, (.d (.int .i64 x0))), (0, (.d (.sl false 1 x1.1 x1.2))), (1, (.d (.bool x2)))], [])
noncomputable def spec_l5word_j5 (x0 : Sl) (x1 : Bool) (x2 : Int) (x3 : Bool) : Res := (fun (p : Env × Mem) => evI cx 47 0 5 p.1 p.2) ([(0, (.d (.sl false 1 x0.1 x0.2))), (1, (.d (.bool x1))), (5, (.d (.int .i64 x2))), (24, (.d (.bool x3)))], [])
noncomputable def spec_l5word_j4 (x0 : Sl) (x1 : Bool) (x2 : Int) : Res := (fun (p : Env × Mem) => evI cx 47 0 4 p.1 p.2) ([(0, (.d (.sl false 1 x0.1 x0.2))), (1, (.d (.bool x1))), (5, (.d (.int .i64 x2)))], [])
noncomputable def spec_l5word_j6 (x0 : Sl) (x1 : Bool) (x2 : Int) (x3 : Bool) : Res := (fun (p : Env × Mem) => evI cx 47 0 6 p.1 p.2) ([(0, (.d (.sl false 1 x0.1 x0.2))), (1, (.d (.bool x1))), (5, (.d (.int .i64 x2))), (48, (.d (.bool x3)))], [])
theorem spec_l5word_eq (x0 : Sl) (x1 : Bool) : spec_l5word x0 x1 =
  oite (decide (((x0.1 : Nat) : Int) < (1 : Int)))
    (spec_l5word_j2 x0 x1 true)
    (spec_l5word_j2 x0 x1 (decide (((x0.1 : Nat) : Int) > (8 : Int)))) := (evF_eq ..).trans (by kernel_rfl)
theorem spec_l5word_j2_eq (x0 : Sl) (x1 : Bool) (x2 : Bool) : spec_l5word_j2 x0 x1 x2 =
  oite x2
    (some ((.d (.bool false)), []))
    (spec_l5word_j1 x0 x1) := (evI_eq ..).trans (by kernel_rfl)
theorem spec_l5word_j1_eq (x0 : Sl) (x1 : Bool) : spec_l5word_j1 x0 x1 =
  spec_l5word_j3 (0 : Int) x0 x1 := (evI_eq ..).trans (by kernel_rfl)
-- a loop's head
theorem spec_l5word_j3_eq (x0 : Int) (x1 : Sl) (x2 : Bool) : spec_l5word_j3 x0 x1 x2 =
  oite (decide (x0 < ((x1.1 : Nat) : Int)))
    (oite (x0 == (0 : Int))
      (spec_l5word_j5 x1 x2 x0 x2)
      (spec_l5word_j5 x1 x2 x0 false))
    (some ((.d (.bool true)), [])) := (evI_eq ..).trans (by kernel_rfl)
theorem spec_l5word_j5_eq (x0 : Sl) (x1 : Bool) (x2 : Int) (x3 : Bool) : spec_l5word_j5 x0 x1 x2 x3 =
  oite x3
    (oat [(.int .u8)] x0.1 x0.2 x2 fun (t0 : (Int × Unit)) =>
    ocall (.m (.one .bool)) [] (spec_l5upper t0.1) fun (r1 : Bool) (m2 : Unit) =>
    oite (!r1)
      (some ((.d (.bool false)), []))
      (spec_l5word_j3 (w64 (x2 + (1 : Int))) x0 x1))
    (spec_l5word_j4 x0 x1 x2) := (evI_eq ..).trans (by kernel_rfl)
theorem spec_l5word_j4_eq (x0 : Sl) (x1 : Bool) (x2 : Int) : spec_l5word_j4 x0 x1 x2 =
  oat [(.int .u8)] x0.1 x0.2 x2 fun (t3 : (Int × Unit)) =>
  ocall (.m (.one .bool)) [] (spec_l5lower t3.1) fun (r4 : Bool) (m5 : Unit) =>
  oite (!r4)
    (oite (decide (x2 > (0 : Int)))
      (oat [(.int .u8)] x0.1 x0.2 x2 fun (t6 : (Int × Unit)) =>
      ocall (.m (.one .bool)) [] (spec_l5digit t6.1) fun (r7 : Bool) (m8 : Unit) =>
      spec_l5word_j6 x0 x1 x2 (!r7))
      (spec_l5word_j6 x0 x1 x2 true))
    (spec_l5word_j6 x0 x1 x2 false) := (evI_eq ..).trans (by kernel_rfl)
theorem spec_l5word_j6_eq (x0 : Sl) (x1 : Bool) (x2 : Int) (x3 : Bool) : spec_l5word_j6 x0 x1 x2 x3 =
  oite x3
    (some ((.d (.bool false)), []))
    (spec_l5word_j3 (w64 (x2 + (1 : Int))) x0 x1) := (evI_eq ..).trans (by kernel_rfl)
noncomputable def spec_l5con_j1 (x0 : Int) (x1 : Sl) (x2 : Sl) : Res := (fun (p : Env × Mem) => evI cx 48 0 1 p.1 p.2) ([(6, (.d (.int .i64 x0))), (1, (.d (.sl false 1 x1.1 x1.2))), (0, (.d (.sl false 3 x2.1 x2.2)))], [])
noncomputable def spec_l5con_j2 (x0 : Int) (x1 : Int) (x2 : Sl) (x3 : Sl) : Res := (fun (p : Env × Mem) => evI cx 48 0 2 p.1 p.2) ([(7, (.d (.int .i64 x0))), (6, (.d (.int .i64 x1))), (1, (.d (.sl false 1 x2.1 x2.2))), (0, (.d (.sl false 3 x3.1 x3.2)))], [])
theorem spec_l5con_eq (x0 : Sl) (x1 : Sl) : spec_l5con x0 x1 =
  spec_l5con_j1 (0 : Int) x1 x0 := (evF_eq ..).trans (by kernel_rfl)
-- a loop's head
theorem spec_l5con_j1_eq (x0 : Int) (x1 : Sl) (x2 : Sl) : spec_l5con_j1 x0 x1 x2 =
  oite (decide (x0 < ((x2.1 : Nat) : Int)))
    (spec_l5con_j2 (0 : Int) x0 x1 x2)
    (some ((.tup [(.d (.int .i64 (-1 : Int))), (.d (.int .i64 (-1 : Int)))]), [])) := (evI_eq ..).trans (by kernel_rfl)
-- a loop's head
theorem spec_l5con_j2_eq (x0 : Int) (x1 : Int) (x2 : Sl) (x3 : Sl) : spec_l5con_j2 x0 x1 x2 x3 =
  oat sh_Data x3.1 x3.2 x1 fun (t0 : T_Data) =>
  oite (decide (x0 < ((t0.2.2.1.1 : Nat) : Int)))
    (oat sh_Data x3.1 x3.2 x1 fun (t1 : T_Data) =>
    oat sh_Con t1.2.2.1.1 t1.2.2.1.2 x0 fun (t2 : T_Con) =>
    ostr t2.1.2 fun (s3 : ByteArray) =>
    ostr x2.2 fun (s4 : ByteArray) =>
    oite ((ByteArray.toList s3) == (ByteArray.toList s4))
      (some ((.tup [(.d (.int .i64 x1)), (.d (.int .i64 x0))]), []))
      (spec_l5con_j2 (w64 (x0 + (1 : Int))) x1 x2 x3))
    (spec_l5con_j1 (w64 (x1 + (1 : Int))) x2 x3) := (evI_eq ..).trans (by kernel_rfl)
theorem spec_TyOk_eq (x0 : T_Ty) : spec_TyOk x0 =
  ocall (.m (.one (.int .i64))) [] (spec_l3ok x0 (1 : Int)) fun (r0 : Int) (m1 : Unit) =>
  some ((.d (.bool (decide (r0 > (0 : Int))))), []) := (evF_eq ..).trans (by kernel_rfl)
noncomputable def spec_l5ty_j2 (x0 : Sl) (x1 : Int) (x2 : Bool) (x3 : T_Ty) : Res := (fun (p : Env × Mem) => evI cx 49 0 2 p.1 p.2) ([(2, (.d (.sl false 3 x0.1 x0.2))), (1, (.d (.int .i64 x1))), (3, (.ptr 0 0)), (16, (.d (.bool x2)))], [(.box (LS.encs sh_Ty x3))])
noncomputable def spec_l5ty_j1 (x0 : Sl) (x1 : Int) (x2 : T_Ty) : Res := (fun (p : Env × Mem) => evI cx 49 0 1 p.1 p.2) ([(2, (.d (.sl false 3 x0.1 x0.2))), (1, (.d (.int .i64 x1))), (3, (.ptr 0 0))], [(.box (LS.encs sh_Ty x2))])
noncomputable def spec_l5ty_j4 (x0 : Sl) (x1 : Int) (x2 : Bool) (x3 : T_Ty) : Res := (fun (p : Env × Mem) => evI cx 49 0 4 p.1 p.2) ([(2, (.d (.sl false 3 x0.1 x0.2))), (1, (.d (.int .i64 x1))), (3, (.ptr 0 0)), (38, (.d (.bool x2)))], [(.box (LS.encs sh_Ty x3))])
noncomputable def spec_l5ty_j3 (x0 : Sl) (x1 : Int) (x2 : T_Ty) : Res := (fun (p : Env × Mem) => evI cx 49 0 3 p.1 p.2) ([(2, (.d (.sl false 3 x0.1 x0.2))), (1, (.d (.int .i64 x1))), (3, (.ptr 0 0))], [(.box (LS.encs sh_Ty x2))])
noncomputable def spec_l5ty_j5 (x0 : Int) (x1 : Sl) (x2 : Int) (x3 : T_Ty) : Res := (fun (p : Env × Mem) => evI cx 49 0 5 p.1 p.2) ([(7, (.d (.int .i64 x0))), (2, (.d (.sl false 3 x1.1 x1.2))), (1, (.d (.int .i64 x2))), (3, (.ptr 0 0))], [(.box (LS.encs sh_Ty x3))])
theorem spec_l5ty_eq (x0 : T_Ty) (x1 : Int) (x2 : Sl) : spec_l5ty x0 x1 x2 =
  oite (x0.1 == (7 : Int))
    (spec_l5ty_j2 x2 x1 (decide (x0.2.1 ≥ x1)) x0)
    (spec_l5ty_j2 x2 x1 false x0) := (evF_eq ..).trans (by kernel_rfl)
theorem spec_l5ty_j2_eq (x0 : Sl) (x1 : Int) (x2 : Bool) (x3 : T_Ty) : spec_l5ty_j2 x0 x1 x2 x3 =
  oite x2
    (some ((.d (.bool false)), []))
    (spec_l5ty_j1 x0 x1 x3) := (evI_eq ..).trans (by kernel_rfl)
theorem spec_l5ty_j1_eq (x0 : Sl) (x1 : Int) (x2 : T_Ty) : spec_l5ty_j1 x0 x1 x2 =
  oite (x2.1 == (6 : Int))
    (oite (decide (x2.2.1 ≥ ((x0.1 : Nat) : Int)))
      (spec_l5ty_j4 x0 x1 true x2)
      (oat sh_Data x0.1 x0.2 x2.2.1 fun (t0 : T_Data) =>
      spec_l5ty_j4 x0 x1 (!(((x2.2.2.1.1 : Nat) : Int) == t0.2.1)) x2))
    (spec_l5ty_j4 x0 x1 false x2) := (evI_eq ..).trans (by kernel_rfl)
theorem spec_l5ty_j4_eq (x0 : Sl) (x1 : Int) (x2 : Bool) (x3 : T_Ty) : spec_l5ty_j4 x0 x1 x2 x3 =
  oite x2
    (some ((.d (.bool false)), []))
    (spec_l5ty_j3 x0 x1 x3) := (evI_eq ..).trans (by kernel_rfl)
theorem spec_l5ty_j3_eq (x0 : Sl) (x1 : Int) (x2 : T_Ty) : spec_l5ty_j3 x0 x1 x2 =
  spec_l5ty_j5 (0 : Int) x0 x1 x2 := (evI_eq ..).trans (by kernel_rfl)
-- a loop's head
theorem spec_l5ty_j5_eq (x0 : Int) (x1 : Sl) (x2 : Int) (x3 : T_Ty) : spec_l5ty_j5 x0 x1 x2 x3 =
  oite (decide (x0 < ((x3.2.2.1.1 : Nat) : Int)))
    (oat sh_Ty x3.2.2.1.1 x3.2.2.1.2 x0 fun (t1 : T_Ty) =>
    ocall (.m (.one .bool)) [] (spec_l5ty t1 x2 x1) fun (r2 : Bool) (m3 : Unit) =>
    oite (!r2)
      (some ((.d (.bool false)), []))
      (spec_l5ty_j5 (w64 (x0 + (1 : Int))) x1 x2 x3))
    (some ((.d (.bool true)), [])) := (evI_eq ..).trans (by kernel_rfl)
theorem impl_isName_eq (x0 : ByteArray) : impl_isName x0 =
  ocall (.m (.one .bool)) [] (impl_wordLike_Fimpl_isSmall x0) fun (r0 : Bool) (m1 : Unit) =>
  oite r0
    (ocall (.m (.one .bool)) [] (impl_isKey x0) fun (r2 : Bool) (m3 : Unit) =>
    some ((.d (.bool (!r2))), []))
    (some ((.d (.bool false)), [])) := (evF_eq ..).trans (by kernel_rfl)
theorem impl_hasData_eq (x0 : Sl) (x1 : ByteArray) : impl_hasData x0 x1 =
  ocall (.m (.one (.int .i64))) [] (impl_dataAt x0 x1) fun (r0 : Int) (m1 : Unit) =>
  some ((.d (.bool (decide (r0 ≥ (0 : Int))))), []) := (evF_eq ..).trans (by kernel_rfl)
theorem impl_within_eq (x0 : Int) (x1 : Int) (x2 : Int) : impl_within x0 x1 x2 =
  oite (decide (x0 ≥ x1))
    (some ((.d (.bool (decide (x0 ≤ x2)))), []))
    (some ((.d (.bool false)), [])) := (evF_eq ..).trans (by kernel_rfl)
theorem slices_Clone_impl_Data_impl_Data_eq (x0 : Sl) : slices_Clone_impl_Data_impl_Data x0 =
  onil x0.1
    (some ((.own 0), [(.row 3 0 false false [])]))
    (oguard (decide ((x0.1 * 56) ≤ 140737488351232)) (
    some ((.own 0), [(.row 3 x0.1 false false x0.2)]))) := (evF_eq ..).trans (by kernel_rfl)
noncomputable def impl_conOk_j2 (x0 : Bool) (x1 : Sl) (x2 : T_Con) : Res := (fun (p : Env × Mem) => evI cx 55 0 2 p.1 p.2) ([(1, (.ptr 0 0)), (4, (.ptr 1 0)), (53, (.d (.bool x0)))], [(.box [(.d (.sl false 3 x1.1 x1.2))]), (.box (LS.encs sh_Con x2))])
noncomputable def impl_conOk_j1 (x0 : Sl) (x1 : T_Con) : Res := (fun (p : Env × Mem) => evI cx 55 0 1 p.1 p.2) ([(1, (.ptr 0 0)), (4, (.ptr 1 0))], [(.box [(.d (.sl false 3 x0.1 x0.2))]), (.box (LS.encs sh_Con x1))])
theorem impl_conOk_eq (x0 : Sl) : impl_conOk x0 =
  oat sh_Data x0.1 x0.2 (w64 (((x0.1 : Nat) : Int) - (1 : Int))) fun (t0 : T_Data) =>
  oat sh_Con t0.2.2.1.1 t0.2.2.1.2 (w64 (((t0.2.2.1.1 : Nat) : Int) - (1 : Int))) fun (t1 : T_Con) =>
  oguard (decide (((0 : Int) ≤ (w64 (((x0.1 : Nat) : Int) - (1 : Int)))) ∧ ((w64 (((x0.1 : Nat) : Int) - (1 : Int))) ≤ ((x0.1 : Nat) : Int)))) (
  olet (List.take (Int.toNat (w64 (((x0.1 : Nat) : Int) - (1 : Int)))) x0.2) fun (e2 : (List (List D))) =>
  oguard (decide (((0 : Int) ≤ (w64 (((t0.2.2.1.1 : Nat) : Int) - (1 : Int)))) ∧ ((w64 (((t0.2.2.1.1 : Nat) : Int) - (1 : Int))) ≤ ((t0.2.2.1.1 : Nat) : Int)))) (
  olet (List.take (Int.toNat (w64 (((t0.2.2.1.1 : Nat) : Int) - (1 : Int)))) t0.2.2.1.2) fun (e3 : (List (List D))) =>
  ocall (.m (.one (.own 0))) [(.row 3 false true)] (slices_Clone_impl_Data_impl_Data ((Int.toNat (w64 (((x0.1 : Nat) : Int) - (1 : Int)))), e2)) fun (r4 : Unit) (m5 : (Sl × Unit)) =>
  osame (α := List V) [(.d (.sl false 2 t0.2.2.1.1 t0.2.2.1.2))] [(.d (.sl false 2 t0.2.2.1.1 t0.2.2.1.2))] (
  osame (α := List V) [(.d (.sl false 2 t0.2.2.1.1 t0.2.2.1.2))] [(.d (.sl false 2 t0.2.2.1.1 t0.2.2.1.2))] (
  osame (α := List V) [(.d (.int .i64 ((t0.2.2.1.1 : Nat) : Int)))] [(.d (.int .i64 ((t0.2.2.1.1 : Nat) : Int)))] (
  osame (α := List V) [(.d (.int .i64 (w64 (((t0.2.2.1.1 : Nat) : Int) - (1 : Int)))))] [(.d (.int .i64 (w64 (((t0.2.2.1.1 : Nat) : Int) - (1 : Int)))))] (
  oguard (decide (((0 : Int) ≤ (w64 (((t0.2.2.1.1 : Nat) : Int) - (1 : Int)))) ∧ ((w64 (((t0.2.2.1.1 : Nat) : Int) - (1 : Int))) ≤ ((t0.2.2.1.1 : Nat) : Int)))) (
  olet (List.take (Int.toNat (w64 (((t0.2.2.1.1 : Nat) : Int) - (1 : Int)))) t0.2.2.1.2) fun (e6 : (List (List D))) =>
  osame (α := List V) [(.d (.sl false 2 (Int.toNat (w64 (((t0.2.2.1.1 : Nat) : Int) - (1 : Int)))) e3))] [(.d (.sl false 2 (Int.toNat (w64 (((t0.2.2.1.1 : Nat) : Int) - (1 : Int)))) e6))] (
  osame (α := List V) [(.agg [(.d (.sl true 1 0 [])), (.d (.int .i64 (0 : Int))), (.d (.sl false 2 (Int.toNat (w64 (((t0.2.2.1.1 : Nat) : Int) - (1 : Int)))) e3))])] [(.agg [(.d (.sl true 1 0 [])), (.d (.int .i64 (0 : Int))), (.d (.sl false 2 (Int.toNat (w64 (((t0.2.2.1.1 : Nat) : Int) - (1 : Int)))) e3))])] (
  osame (α := List V) [(.d (.sl true 3 1 ((vDs (LS.encs sh_Data ((0, []), (0 : Int), ((Int.toNat (w64 (((t0.2.2.1.1 : Nat) : Int) - (1 : Int)))), e3), ()))) :: [])))] [(.d (.sl true 3 1 ((vDs (LS.encs sh_Data ((0, []), (0 : Int), ((Int.toNat (w64 (((t0.2.2.1.1 : Nat) : Int) - (1 : Int)))), e3), ()))) :: [])))] (
  oguard (decide (((0 : Int) ≤ (w64 (((t0.2.2.1.1 : Nat) : Int) - (1 : Int)))) ∧ ((w64 (((t0.2.2.1.1 : Nat) : Int) - (1 : Int))) ≤ ((t0.2.2.1.1 : Nat) : Int)))) (
  olet (List.take (Int.toNat (w64 (((t0.2.2.1.1 : Nat) : Int) - (1 : Int)))) t0.2.2.1.2) fun (e7 : (List (List D))) =>
  oguard (decide (((m5.1.1 + 1) * 56) ≤ 140737488351232)) (
  olet (m5.1.2 ++ ((vDs (LS.encs sh_Data ((0, []), (0 : Int), ((Int.toNat (w64 (((t0.2.2.1.1 : Nat) : Int) - (1 : Int)))), e7), ()))) :: [])) fun (e8 : (List (List D))) =>
  ostr t1.1.2 fun (s9 : ByteArray) =>
  ocall (.m (.one .bool)) [] (impl_isCon s9) fun (r10 : Bool) (m11 : Unit) =>
  oite (!r10)
    (impl_conOk_j2 true x0 t1)
    (ostr t1.1.2 fun (s12 : ByteArray) =>
    ocall (.m (.one .bool)) [] (impl_hasCon ((m5.1.1 + 1), e8) s12) fun (r13 : Bool) (m14 : Unit) =>
    oite r13
      (impl_conOk_j2 true x0 t1)
      (impl_conOk_j2 (decide (((t1.2.1.1 : Nat) : Int) > (3 : Int))) x0 t1)))))))))))))) := (evF_eq ..).trans (by kernel_rfl)
theorem impl_conOk_j2_eq (x0 : Bool) (x1 : Sl) (x2 : T_Con) : impl_conOk_j2 x0 x1 x2 =
  oite x0
    (some ((.d (.bool false)), []))
    (impl_conOk_j1 x1 x2) := (evI_eq ..).trans (by kernel_rfl)
theorem impl_conOk_j1_eq (x0 : Sl) (x1 : T_Con) : impl_conOk_j1 x0 x1 =
  ocall (.m (.one .bool)) [(.box [(.sl 3)])] (slices_ContainsFunc_impl_Ty_impl_Ty_Fimpl_conOk_1c x1.2.1 x0) fun (r15 : Bool) (m16 : ((Sl × Unit) × Unit)) =>
  some ((.d (.bool (!r15))), []) := (evI_eq ..).trans (by kernel_rfl)
theorem laws_eqData_eq (x0 : T_Data) (x1 : T_Data) : laws_eqData x0 x1 =
  ocall (.m (.one .bool)) [] (laws_eqByteS x0.1 x1.1) fun (r0 : Bool) (m1 : Unit) =>
  oite (!r0)
    (some ((.d (.bool false)), []))
    (oite (!(x0.2.1 == x1.2.1))
      (some ((.d (.bool false)), []))
      (ocall (.m (.one .bool)) [] (laws_eqConS x0.2.2.1 x1.2.2.1) fun (r2 : Bool) (m3 : Unit) =>
      oite (!r2)
        (some ((.d (.bool false)), []))
        (some ((.d (.bool true)), [])))) := (evF_eq ..).trans (by kernel_rfl)
theorem laws_szByteS_eq (x0 : Sl) (x1 : Int) : laws_szByteS x0 x1 =
  oite (decide ((w64 (x1 - ((x0.1 : Nat) : Int))) < (0 : Int)))
    (some ((.d (.int .i64 (-1 : Int))), []))
    (some ((.d (.int .i64 (w64 (x1 - ((x0.1 : Nat) : Int))))), [])) := (evF_eq ..).trans (by kernel_rfl)
noncomputable def laws_szConS_j1 (x0 : Int) (x1 : Int) (x2 : Sl) : Res := (fun (p : Env × Mem) => evI cx 94 0 1 p.1 p.2) ([(5, (.d (.int .i64 x0))), (1, (.d (.int .i64 x1))), (0, (.d (.sl false 2 x2.1 x2.2)))], [])
theorem laws_szConS_eq (x0 : Sl) (x1 : Int) : laws_szConS x0 x1 =
  oite (decide ((w64 (x1 - ((x0.1 : Nat) : Int))) < (0 : Int)))
    (some ((.d (.int .i64 (-1 : Int))), []))
    (laws_szConS_j1 (0 : Int) (w64 (x1 - ((x0.1 : Nat) : Int))) x0) := (evF_eq ..).trans (by kernel_rfl)
-- a loop's head
theorem laws_szConS_j1_eq (x0 : Int) (x1 : Int) (x2 : Sl) : laws_szConS_j1 x0 x1 x2 =
  oite (decide (x0 < ((x2.1 : Nat) : Int)))
    (oat sh_Con x2.1 x2.2 x0 fun (t0 : T_Con) =>
    ocall (.m (.one (.int .i64))) [] (laws_szCon t0 x1) fun (r1 : Int) (m2 : Unit) =>
    oite (decide (r1 < (0 : Int)))
      (some ((.d (.int .i64 (-1 : Int))), []))
      (laws_szConS_j1 (w64 (x0 + (1 : Int))) r1 x2))
    (some ((.d (.int .i64 x1)), [])) := (evI_eq ..).trans (by kernel_rfl)
noncomputable def laws_toByteS_j1 (x0 : Int) (x1 : Sl) (x2 : Sl) : Res := (fun (p : Env × Mem) => evI cx 39 0 1 p.1 p.2) ([(4, (.d (.int .i64 x0))), (0, (.d (.sl false 1 x1.1 x1.2))), (3, (.own 0))], [(.row 1 x2.1 false false x2.2)])
theorem laws_toByteS_eq (x0 : Sl) : laws_toByteS x0 =
  oguard (decide (((0 : Int) ≤ ((x0.1 : Nat) : Int)) ∧ ((((x0.1 : Nat) : Int) = ((x0.1 : Nat) : Int)) ∧ ((((x0.1 : Nat) : Int) * (1 : Int)) ≤ (140737488351232 : Int))))) (
  olet (List.replicate (Int.toNat ((x0.1 : Nat) : Int)) ((D.int .u8 (0 : Int)) :: [])) fun (e0 : (List (List D))) =>
  laws_toByteS_j1 (0 : Int) x0 ((Int.toNat ((x0.1 : Nat) : Int)), e0)) := (evF_eq ..).trans (by kernel_rfl)
-- a loop's head
theorem laws_toByteS_j1_eq (x0 : Int) (x1 : Sl) (x2 : Sl) : laws_toByteS_j1 x0 x1 x2 =
  oite (decide (x0 < ((x1.1 : Nat) : Int)))
    (oat [(.int .u8)] x1.1 x1.2 x0 fun (t1 : (Int × Unit)) =>
    oguard (decide (((0 : Int) ≤ x0) ∧ (x0 < ((x2.1 : Nat) : Int)))) (
    olet (List.set x2.2 (Int.toNat x0) (putD (List.getD x2.2 (Int.toNat x0) []) 0 [(D.int .u8 t1.1)])) fun (e2 : (List (List D))) =>
    laws_toByteS_j1 (w64 (x0 + (1 : Int))) x1 (x2.1, e2)))
    (some ((.d (.sl false 1 x2.1 x2.2)), [])) := (evI_eq ..).trans (by kernel_rfl)
noncomputable def laws_toConS_j1 (x0 : Int) (x1 : Sl) (x2 : Sl) : Res := (fun (p : Env × Mem) => evI cx 99 0 1 p.1 p.2) ([(4, (.d (.int .i64 x0))), (0, (.d (.sl false 2 x1.1 x1.2))), (3, (.own 0))], [(.row 2 x2.1 false false x2.2)])
theorem laws_toConS_eq (x0 : Sl) : laws_toConS x0 =
  oguard (decide (((0 : Int) ≤ ((x0.1 : Nat) : Int)) ∧ ((((x0.1 : Nat) : Int) = ((x0.1 : Nat) : Int)) ∧ ((((x0.1 : Nat) : Int) * (48 : Int)) ≤ (140737488351232 : Int))))) (
  olet (List.replicate (Int.toNat ((x0.1 : Nat) : Int)) (vDs (LS.encs sh_Con ((0, []), (0, []), ())))) fun (e0 : (List (List D))) =>
  laws_toConS_j1 (0 : Int) x0 ((Int.toNat ((x0.1 : Nat) : Int)), e0)) := (evF_eq ..).trans (by kernel_rfl)
-- a loop's head
theorem laws_toConS_j1_eq (x0 : Int) (x1 : Sl) (x2 : Sl) : laws_toConS_j1 x0 x1 x2 =
  oite (decide (x0 < ((x1.1 : Nat) : Int)))
    (oat sh_Con x1.1 x1.2 x0 fun (t1 : T_Con) =>
    ocall (.m (.agg sh_Con)) [] (laws_toCon t1) fun (r2 : T_Con) (m3 : Unit) =>
    oguard (decide (((0 : Int) ≤ x0) ∧ (x0 < ((x2.1 : Nat) : Int)))) (
    olet (List.set x2.2 (Int.toNat x0) (putD (List.getD x2.2 (Int.toNat x0) []) 0 (vDs (LS.encs sh_Con r2)))) fun (e4 : (List (List D))) =>
    laws_toConS_j1 (w64 (x0 + (1 : Int))) x1 (x2.1, e4)))
    (some ((.d (.sl false 2 x2.1 x2.2)), [])) := (evI_eq ..).trans (by kernel_rfl)
noncomputable def spec_l5key_j1 (x0 : Int) (x1 : Sl) (x2 : Sl) : Res := (fun (p : Env × Mem) => evI cx 95 0 1 p.1 p.2) ([(4, (.d (.int .i64 x0))), (3, (.d (.sl false 1 x1.1 x1.2))), (0, (.d (.sl false 1 x2.1 x2.2)))], [])
theorem spec_l5key_eq (x0 : Sl) : spec_l5key x0 =
  ocall (.m (.one (.sl 1))) [] (spec_l5keys) fun (r0 : Sl) (m1 : Unit) =>
  spec_l5key_j1 (0 : Int) r0 x0 := (evF_eq ..).trans (by kernel_rfl)
-- a loop's head
theorem spec_l5key_j1_eq (x0 : Int) (x1 : Sl) (x2 : Sl) : spec_l5key_j1 x0 x1 x2 =
  oite (decide (x0 < ((x1.1 : Nat) : Int)))
    (oat [.str] x1.1 x1.2 x0 fun (t2 : (ByteArray × Unit)) =>
    ocall (.m (.one .bool)) [] (spec_l5is x2 t2.1) fun (r3 : Bool) (m4 : Unit) =>
    oite r3
      (some ((.d (.bool true)), []))
      (spec_l5key_j1 (w64 (x0 + (1 : Int))) x1 x2))
    (some ((.d (.bool false)), [])) := (evI_eq ..).trans (by kernel_rfl)
theorem spec_l5upper_eq (x0 : Int) : spec_l5upper x0 =
  oite (decide (x0 ≥ (65 : Int)))
    (some ((.d (.bool (decide (x0 ≤ (90 : Int))))), []))
    (some ((.d (.bool false)), [])) := (evF_eq ..).trans (by kernel_rfl)
theorem spec_l5lower_eq (x0 : Int) : spec_l5lower x0 =
  oite (decide (x0 ≥ (97 : Int)))
    (some ((.d (.bool (decide (x0 ≤ (122 : Int))))), []))
    (some ((.d (.bool false)), [])) := (evF_eq ..).trans (by kernel_rfl)
theorem spec_l5digit_eq (x0 : Int) : spec_l5digit x0 =
  oite (decide (x0 ≥ (48 : Int)))
    (some ((.d (.bool (decide (x0 ≤ (57 : Int))))), []))
    (some ((.d (.bool false)), [])) := (evF_eq ..).trans (by kernel_rfl)
noncomputable def spec_l3ok_j2 (x0 : Int) (x1 : Int) (x2 : Int) (x3 : Int) (x4 : Bool) (x5 : T_Ty) : Res := (fun (p : Env × Mem) => evI cx 69 0 2 p.1 p.2) ([(1, (.d (.int .i64 x0))), (2, (.ptr 0 0)), (6, (.d (.int .i64 x1))), (5, (.d (.int .i64 x2))), (13, (.d (.int .i64 x3))), (14, (.d (.bool x4)))], [(.box (LS.encs sh_Ty x5))])
noncomputable def spec_l3ok_j1 (x0 : Int) (x1 : Int) (x2 : Int) (x3 : T_Ty) : Res := (fun (p : Env × Mem) => evI cx 69 0 1 p.1 p.2) ([(1, (.d (.int .i64 x0))), (2, (.ptr 0 0)), (6, (.d (.int .i64 x1))), (5, (.d (.int .i64 x2)))], [(.box (LS.encs sh_Ty x3))])
noncomputable def spec_l3ok_j3 (x0 : Int) (x1 : Int) (x2 : Int) (x3 : Int) (x4 : Bool) (x5 : T_Ty) : Res := (fun (p : Env × Mem) => evI cx 69 0 3 p.1 p.2) ([(1, (.d (.int .i64 x0))), (2, (.ptr 0 0)), (6, (.d (.int .i64 x1))), (5, (.d (.int .i64 x2))), (13, (.d (.int .i64 x3))), (18, (.d (.bool x4)))], [(.box (LS.encs sh_Ty x5))])
noncomputable def spec_l3ok_j5 (x0 : Int) (x1 : Bool) (x2 : T_Ty) : Res := (fun (p : Env × Mem) => evI cx 69 0 5 p.1 p.2) ([(1, (.d (.int .i64 x0))), (2, (.ptr 0 0)), (47, (.d (.bool x1)))], [(.box (LS.encs sh_Ty x2))])
noncomputable def spec_l3ok_j4 (x0 : Int) (x1 : T_Ty) : Res := (fun (p : Env × Mem) => evI cx 69 0 4 p.1 p.2) ([(1, (.d (.int .i64 x0))), (2, (.ptr 0 0))], [(.box (LS.encs sh_Ty x1))])
noncomputable def spec_l3ok_j6 (x0 : Int) (x1 : Int) (x2 : Int) (x3 : T_Ty) : Res := (fun (p : Env × Mem) => evI cx 69 0 6 p.1 p.2) ([(8, (.d (.int .i64 x0))), (7, (.d (.int .i64 x1))), (1, (.d (.int .i64 x2))), (2, (.ptr 0 0))], [(.box (LS.encs sh_Ty x3))])
theorem spec_l3ok_eq (x0 : T_Ty) (x1 : Int) : spec_l3ok x0 x1 =
  oite (decide (x1 > (10 : Int)))
    (some ((.d (.int .i64 (-1 : Int))), []))
    (oite (x0.1 == (0 : Int))
      (spec_l3ok_j2 x1 (0 : Int) (0 : Int) x0.1 (x0.1 == (0 : Int)) x0)
      (oite (x0.1 == (1 : Int))
        (spec_l3ok_j2 x1 (0 : Int) (0 : Int) x0.1 (x0.1 == (1 : Int)) x0)
        (spec_l3ok_j2 x1 (0 : Int) (0 : Int) x0.1 (x0.1 == (2 : Int)) x0))) := (evF_eq ..).trans (by kernel_rfl)
theorem spec_l3ok_j2_eq (x0 : Int) (x1 : Int) (x2 : Int) (x3 : Int) (x4 : Bool) (x5 : T_Ty) : spec_l3ok_j2 x0 x1 x2 x3 x4 x5 =
  oite x4
    (spec_l3ok_j1 x0 x1 x2 x5)
    (oite (x3 == (3 : Int))
      (spec_l3ok_j3 x0 x1 x2 x3 (x3 == (3 : Int)) x5)
      (spec_l3ok_j3 x0 x1 x2 x3 (x3 == (4 : Int)) x5)) := (evI_eq ..).trans (by kernel_rfl)
theorem spec_l3ok_j1_eq (x0 : Int) (x1 : Int) (x2 : Int) (x3 : T_Ty) : spec_l3ok_j1 x0 x1 x2 x3 =
  oite (!(((x3.2.2.1.1 : Nat) : Int) == x2))
    (spec_l3ok_j5 x0 true x3)
    (oite (decide (x3.2.1 < (0 : Int)))
      (spec_l3ok_j5 x0 true x3)
      (spec_l3ok_j5 x0 (decide (x3.2.1 > x1)) x3)) := (evI_eq ..).trans (by kernel_rfl)
theorem spec_l3ok_j3_eq (x0 : Int) (x1 : Int) (x2 : Int) (x3 : Int) (x4 : Bool) (x5 : T_Ty) : spec_l3ok_j3 x0 x1 x2 x3 x4 x5 =
  oite x4
    (spec_l3ok_j1 x0 x1 (2 : Int) x5)
    (oite (x3 == (5 : Int))
      (spec_l3ok_j1 x0 x1 (1 : Int) x5)
      (oite (x3 == (6 : Int))
        (oite (decide (((x5.2.2.1.1 : Nat) : Int) > (3 : Int)))
          (some ((.d (.int .i64 (-1 : Int))), []))
          (spec_l3ok_j1 x0 (19 : Int) ((x5.2.2.1.1 : Nat) : Int) x5))
        (oite (x3 == (7 : Int))
          (spec_l3ok_j1 x0 (99999 : Int) x2 x5)
          (some ((.d (.int .i64 (-1 : Int))), []))))) := (evI_eq ..).trans (by kernel_rfl)
theorem spec_l3ok_j5_eq (x0 : Int) (x1 : Bool) (x2 : T_Ty) : spec_l3ok_j5 x0 x1 x2 =
  oite x1
    (some ((.d (.int .i64 (-1 : Int))), []))
    (spec_l3ok_j4 x0 x2) := (evI_eq ..).trans (by kernel_rfl)
theorem spec_l3ok_j4_eq (x0 : Int) (x1 : T_Ty) : spec_l3ok_j4 x0 x1 =
  spec_l3ok_j6 (0 : Int) (1 : Int) x0 x1 := (evI_eq ..).trans (by kernel_rfl)
-- a loop's head
theorem spec_l3ok_j6_eq (x0 : Int) (x1 : Int) (x2 : Int) (x3 : T_Ty) : spec_l3ok_j6 x0 x1 x2 x3 =
  oite (decide (x0 < ((x3.2.2.1.1 : Nat) : Int)))
    (oat sh_Ty x3.2.2.1.1 x3.2.2.1.2 x0 fun (t0 : T_Ty) =>
    ocall (.m (.one (.int .i64))) [] (spec_l3ok t0 (w64 (x2 + (1 : Int)))) fun (r1 : Int) (m2 : Unit) =>
    oite (decide (r1 < (0 : Int)))
      (some ((.d (.int .i64 (-1 : Int))), []))
      (oite (decide ((w64 (x1 + r1)) > (60 : Int)))
        (some ((.d (.int .i64 (-1 : Int))), []))
        (spec_l3ok_j6 (w64 (x0 + (1 : Int))) (w64 (x1 + r1)) x2 x3)))
    (some ((.d (.int .i64 x1)), [])) := (evI_eq ..).trans (by kernel_rfl)
noncomputable def impl_wordLike_Fimpl_isSmall_j1 (x0 : Int) (x1 : ByteArray) (x2 : Int) : Res := (fun (p : Env × Mem) => evI cx 100 0 1 p.1 p.2) ([(8, (.d (.int .i64 x0))), (0, (.d (.str x1))), (1, (.fn 101 [])), (7, (.d (.int .i64 x2)))], [])
noncomputable def impl_wordLike_Fimpl_isSmall_j2 (x0 : ByteArray) (x1 : Int) (x2 : Int) (x3 : Bool) : Res := (fun (p : Env × Mem) => evI cx 100 0 2 p.1 p.2) ([(0, (.d (.str x0))), (1, (.fn 101 [])), (7, (.d (.int .i64 x1))), (8, (.d (.int .i64 x2))), (38, (.d (.bool x3)))], [])
theorem impl_wordLike_Fimpl_isSmall_eq (x0 : ByteArray) : impl_wordLike_Fimpl_isSmall x0 =
  impl_wordLike_Fimpl_isSmall_j1 (0 : Int) x0 (((ByteArray.size x0) : Nat) : Int) := (evF_eq ..).trans (by kernel_rfl)
-- a loop's head
theorem impl_wordLike_Fimpl_isSmall_j1_eq (x0 : Int) (x1 : ByteArray) (x2 : Int) : impl_wordLike_Fimpl_isSmall_j1 x0 x1 x2 =
  oite (decide (x0 < x2))
    (oite (x0 == (0 : Int))
      (oguard (decide (((0 : Int) ≤ x0) ∧ (x0 < (((ByteArray.size x1) : Nat) : Int)))) (
      ocall (.m (.one .bool)) [] (impl_isSmall (byteAt x1 (Int.toNat x0))) fun (r0 : Bool) (m1 : Unit) =>
      oite (!r0)
        (impl_wordLike_Fimpl_isSmall_j2 x1 x2 x0 true)
        (oite (decide (x0 > (0 : Int)))
          (oguard (decide (((0 : Int) ≤ x0) ∧ (x0 < (((ByteArray.size x1) : Nat) : Int)))) (
          ocall (.m (.one .bool)) [] (impl_isSmall (byteAt x1 (Int.toNat x0))) fun (r2 : Bool) (m3 : Unit) =>
          oite (!r2)
            (oguard (decide (((0 : Int) ≤ x0) ∧ (x0 < (((ByteArray.size x1) : Nat) : Int)))) (
            ocall (.m (.one .bool)) [] (impl_isDigit (byteAt x1 (Int.toNat x0))) fun (r4 : Bool) (m5 : Unit) =>
            impl_wordLike_Fimpl_isSmall_j2 x1 x2 x0 (!r4)))
            (impl_wordLike_Fimpl_isSmall_j2 x1 x2 x0 false)))
          (impl_wordLike_Fimpl_isSmall_j2 x1 x2 x0 false))))
      (oite (decide (x0 > (0 : Int)))
        (oguard (decide (((0 : Int) ≤ x0) ∧ (x0 < (((ByteArray.size x1) : Nat) : Int)))) (
        ocall (.m (.one .bool)) [] (impl_isSmall (byteAt x1 (Int.toNat x0))) fun (r6 : Bool) (m7 : Unit) =>
        oite (!r6)
          (oguard (decide (((0 : Int) ≤ x0) ∧ (x0 < (((ByteArray.size x1) : Nat) : Int)))) (
          ocall (.m (.one .bool)) [] (impl_isDigit (byteAt x1 (Int.toNat x0))) fun (r8 : Bool) (m9 : Unit) =>
          impl_wordLike_Fimpl_isSmall_j2 x1 x2 x0 (!r8)))
          (impl_wordLike_Fimpl_isSmall_j2 x1 x2 x0 false)))
        (impl_wordLike_Fimpl_isSmall_j2 x1 x2 x0 false)))
    (ocall (.m (.one .bool)) [] (impl_within (((ByteArray.size x1) : Nat) : Int) (1 : Int) (8 : Int)) fun (r10 : Bool) (m11 : Unit) =>
    some ((.d (.bool r10)), [])) := (evI_eq ..).trans (by kernel_rfl)
theorem impl_wordLike_Fimpl_isSmall_j2_eq (x0 : ByteArray) (x1 : Int) (x2 : Int) (x3 : Bool) : impl_wordLike_Fimpl_isSmall_j2 x0 x1 x2 x3 =
  oite x3
    (some ((.d (.bool false)), []))
    (impl_wordLike_Fimpl_isSmall_j1 (w64 (x2 + (1 : Int))) x0 x1) := (evI_eq ..).trans (by kernel_rfl)
theorem impl_isKey_eq (x0 : ByteArray) : impl_isKey x0 =
  ocall (.m (.one (.sl 1))) [] (strings_Fields (ByteArray.mk (Array.mk (List.append (List.append (102 :: (110 :: (32 :: (108 :: (101 :: (116 :: (32 :: (114 :: (101 :: (99 :: (32 :: (105 :: (102 :: (32 :: (112 :: (97 :: (105 :: (114 :: (32 :: (102 :: (115 :: (116 :: (32 :: (115 :: (110 :: (100 :: (32 :: (114 :: (101 :: (102 :: (32 :: (114 :: (101 :: []))))))))))))))))))))))))))))))))) (97 :: (100 :: (32 :: (119 :: (114 :: (105 :: (116 :: (101 :: (32 :: (109 :: (97 :: (116 :: (99 :: (104 :: (32 :: (114 :: (97 :: (105 :: (115 :: (101 :: (32 :: (116 :: (114 :: (121 :: (32 :: (97 :: (100 :: (100 :: (32 :: (115 :: (117 :: (98 :: (32 :: (109 :: []))))))))))))))))))))))))))))))))))) (List.append (117 :: (108 :: (32 :: (108 :: (101 :: (115 :: (115 :: (32 :: (115 :: (97 :: (109 :: (101 :: (32 :: (99 :: (97 :: (116 :: (32 :: (108 :: (101 :: (110 :: (32 :: (112 :: (114 :: (105 :: (110 :: (116 :: (32 :: (116 :: (105 :: (99 :: (107 :: (32 :: (100 :: []))))))))))))))))))))))))))))))))) (114 :: (97 :: (119 :: (32 :: (103 :: (101 :: (116 :: (32 :: (112 :: (117 :: (116 :: (32 :: (100 :: (97 :: (116 :: (97 :: (32 :: (117 :: (110 :: (105 :: (116 :: (32 :: (105 :: (110 :: (116 :: (32 :: (116 :: (101 :: (120 :: (116 :: (32 :: (102 :: (117 :: (110 :: []))))))))))))))))))))))))))))))))))))))) fun (r0 : Sl) (m1 : Unit) =>
  ocall (.m (.one .bool)) [] (slices_Contains_string_string r0 x0) fun (r2 : Bool) (m3 : Unit) =>
  some ((.d (.bool r2)), []) := (evF_eq ..).trans (by kernel_rfl)
theorem impl_dataAt_eq (x0 : Sl) (x1 : ByteArray) : impl_dataAt x0 x1 =
  ocall (.m (.one (.int .i64))) [(.box [.str])] (slices_IndexFunc_impl_Data_impl_Data_Fimpl_dataAt_1c x0 x1) fun (r0 : Int) (m1 : ((ByteArray × Unit) × Unit)) =>
  some ((.d (.int .i64 r0)), []) := (evF_eq ..).trans (by kernel_rfl)
theorem impl_isCon_eq (x0 : ByteArray) : impl_isCon x0 =
  ocall (.m (.one .bool)) [] (impl_wordLike_Fimpl_isGreat x0) fun (r0 : Bool) (m1 : Unit) =>
  some ((.d (.bool r0)), []) := (evF_eq ..).trans (by kernel_rfl)
theorem impl_hasCon_eq (x0 : Sl) (x1 : ByteArray) : impl_hasCon x0 x1 =
  ocall (.tup [(.one (.int .i64)), (.one (.int .i64)), (.one .bool)]) [] (impl_findCon x0 x1) fun (r0 : (Int × (Int × (Bool × Unit)))) (m1 : Unit) =>
  some ((.d (.bool r0.2.2.1)), []) := (evF_eq ..).trans (by kernel_rfl)
theorem slices_ContainsFunc_impl_Ty_impl_Ty_Fimpl_conOk_1c_eq (x0 : Sl) (x1 : Sl) : slices_ContainsFunc_impl_Ty_impl_Ty_Fimpl_conOk_1c x0 x1 =
  ocall (.m (.one (.int .i64))) [(.box [(.sl 3)])] (slices_IndexFunc_impl_Ty_impl_Ty_Fimpl_conOk_1c x0 x1) fun (r0 : Int) (m1 : ((Sl × Unit) × Unit)) =>
  some ((.d (.bool (decide (r0 ≥ (0 : Int))))), [(.box [(.d (.sl false 3 m1.1.1.1 m1.1.1.2))])]) := (evF_eq ..).trans (by kernel_rfl)
noncomputable def laws_eqByteS_j1 (x0 : Int) (x1 : Sl) (x2 : Sl) : Res := (fun (p : Env × Mem) => evI cx 33 0 1 p.1 p.2) ([(5, (.d (.int .i64 x0))), (1, (.d (.sl false 1 x1.1 x1.2))), (0, (.d (.sl false 1 x2.1 x2.2)))], [])
theorem laws_eqByteS_eq (x0 : Sl) (x1 : Sl) : laws_eqByteS x0 x1 =
  oite (!(((x0.1 : Nat) : Int) == ((x1.1 : Nat) : Int)))
    (some ((.d (.bool false)), []))
    (laws_eqByteS_j1 (0 : Int) x1 x0) := (evF_eq ..).trans (by kernel_rfl)
-- a loop's head
theorem laws_eqByteS_j1_eq (x0 : Int) (x1 : Sl) (x2 : Sl) : laws_eqByteS_j1 x0 x1 x2 =
  oite (decide (x0 < ((x2.1 : Nat) : Int)))
    (oat [(.int .u8)] x2.1 x2.2 x0 fun (t0 : (Int × Unit)) =>
    oat [(.int .u8)] x1.1 x1.2 x0 fun (t1 : (Int × Unit)) =>
    oite (!(t0.1 == t1.1))
      (some ((.d (.bool false)), []))
      (laws_eqByteS_j1 (w64 (x0 + (1 : Int))) x1 x2))
    (some ((.d (.bool true)), [])) := (evI_eq ..).trans (by kernel_rfl)
noncomputable def laws_eqConS_j1 (x0 : Int) (x1 : Sl) (x2 : Sl) : Res := (fun (p : Env × Mem) => evI cx 109 0 1 p.1 p.2) ([(5, (.d (.int .i64 x0))), (1, (.d (.sl false 2 x1.1 x1.2))), (0, (.d (.sl false 2 x2.1 x2.2)))], [])
theorem laws_eqConS_eq (x0 : Sl) (x1 : Sl) : laws_eqConS x0 x1 =
  oite (!(((x0.1 : Nat) : Int) == ((x1.1 : Nat) : Int)))
    (some ((.d (.bool false)), []))
    (laws_eqConS_j1 (0 : Int) x1 x0) := (evF_eq ..).trans (by kernel_rfl)
-- a loop's head
theorem laws_eqConS_j1_eq (x0 : Int) (x1 : Sl) (x2 : Sl) : laws_eqConS_j1 x0 x1 x2 =
  oite (decide (x0 < ((x2.1 : Nat) : Int)))
    (oat sh_Con x2.1 x2.2 x0 fun (t0 : T_Con) =>
    oat sh_Con x1.1 x1.2 x0 fun (t1 : T_Con) =>
    ocall (.m (.one .bool)) [] (laws_eqCon t0 t1) fun (r2 : Bool) (m3 : Unit) =>
    oite (!r2)
      (some ((.d (.bool false)), []))
      (laws_eqConS_j1 (w64 (x0 + (1 : Int))) x1 x2))
    (some ((.d (.bool true)), [])) := (evI_eq ..).trans (by kernel_rfl)
theorem laws_szCon_eq (x0 : T_Con) (x1 : Int) : laws_szCon x0 x1 =
  ocall (.m (.one (.int .i64))) [] (laws_szByteS x0.1 x1) fun (r0 : Int) (m1 : Unit) =>
  oite (decide (r0 < (0 : Int)))
    (some ((.d (.int .i64 (-1 : Int))), []))
    (ocall (.m (.one (.int .i64))) [] (laws_szTyS x0.2.1 r0) fun (r2 : Int) (m3 : Unit) =>
    oite (decide (r2 < (0 : Int)))
      (some ((.d (.int .i64 (-1 : Int))), []))
      (some ((.d (.int .i64 r2)), []))) := (evF_eq ..).trans (by kernel_rfl)
theorem laws_toCon_eq (x0 : T_Con) : laws_toCon x0 =
  ocall (.m (.one (.sl 1))) [] (laws_toByteS x0.1) fun (r0 : Sl) (m1 : Unit) =>
  ocall (.m (.one (.sl 3))) [] (laws_toTyS x0.2.1) fun (r2 : Sl) (m3 : Unit) =>
  some ((.agg (LS.encs sh_Con (r0, r2, ()))), []) := (evF_eq ..).trans (by kernel_rfl)
theorem spec_l5keys_eq : spec_l5keys =
  some ((.d (.sl false 1 30 (((D.str (ByteArray.mk (Array.mk (102 :: (110 :: []))))) :: []) :: (((D.str (ByteArray.mk (Array.mk (108 :: (101 :: (116 :: [])))))) :: []) :: (((D.str (ByteArray.mk (Array.mk (114 :: (101 :: (99 :: [])))))) :: []) :: (((D.str (ByteArray.mk (Array.mk (105 :: (102 :: []))))) :: []) :: (((D.str (ByteArray.mk (Array.mk (112 :: (97 :: (105 :: (114 :: []))))))) :: []) :: (((D.str (ByteArray.mk (Array.mk (102 :: (115 :: (116 :: [])))))) :: []) :: (((D.str (ByteArray.mk (Array.mk (115 :: (110 :: (100 :: [])))))) :: []) :: (((D.str (ByteArray.mk (Array.mk (114 :: (101 :: (102 :: [])))))) :: []) :: (((D.str (ByteArray.mk (Array.mk (114 :: (101 :: (97 :: (100 :: []))))))) :: []) :: (((D.str (ByteArray.mk (Array.mk (119 :: (114 :: (105 :: (116 :: (101 :: [])))))))) :: []) :: (((D.str (ByteArray.mk (Array.mk (109 :: (97 :: (116 :: (99 :: (104 :: [])))))))) :: []) :: (((D.str (ByteArray.mk (Array.mk (114 :: (97 :: (105 :: (115 :: (101 :: [])))))))) :: []) :: (((D.str (ByteArray.mk (Array.mk (116 :: (114 :: (121 :: [])))))) :: []) :: (((D.str (ByteArray.mk (Array.mk (97 :: (100 :: (100 :: [])))))) :: []) :: (((D.str (ByteArray.mk (Array.mk (115 :: (117 :: (98 :: [])))))) :: []) :: (((D.str (ByteArray.mk (Array.mk (109 :: (117 :: (108 :: [])))))) :: []) :: (((D.str (ByteArray.mk (Array.mk (108 :: (101 :: (115 :: (115 :: []))))))) :: []) :: (((D.str (ByteArray.mk (Array.mk (115 :: (97 :: (109 :: (101 :: []))))))) :: []) :: (((D.str (ByteArray.mk (Array.mk (99 :: (97 :: (116 :: [])))))) :: []) :: (((D.str (ByteArray.mk (Array.mk (108 :: (101 :: (110 :: [])))))) :: []) :: (((D.str (ByteArray.mk (Array.mk (112 :: (114 :: (105 :: (110 :: (116 :: [])))))))) :: []) :: (((D.str (ByteArray.mk (Array.mk (116 :: (105 :: (99 :: (107 :: []))))))) :: []) :: (((D.str (ByteArray.mk (Array.mk (100 :: (114 :: (97 :: (119 :: []))))))) :: []) :: (((D.str (ByteArray.mk (Array.mk (103 :: (101 :: (116 :: [])))))) :: []) :: (((D.str (ByteArray.mk (Array.mk (112 :: (117 :: (116 :: [])))))) :: []) :: (((D.str (ByteArray.mk (Array.mk (100 :: (97 :: (116 :: (97 :: []))))))) :: []) :: (((D.str (ByteArray.mk (Array.mk (117 :: (110 :: (105 :: (116 :: []))))))) :: []) :: (((D.str (ByteArray.mk (Array.mk (105 :: (110 :: (116 :: [])))))) :: []) :: (((D.str (ByteArray.mk (Array.mk (116 :: (101 :: (120 :: (116 :: []))))))) :: []) :: (((D.str (ByteArray.mk (Array.mk (102 :: (117 :: (110 :: [])))))) :: []) :: [])))))))))))))))))))))))))))))))), []) := (evF_eq ..).trans (by kernel_rfl)
theorem spec_l5is_eq (x0 : Sl) (x1 : ByteArray) : spec_l5is x0 x1 =
  ostr x0.2 fun (s0 : ByteArray) =>
  some ((.d (.bool ((ByteArray.toList s0) == (ByteArray.toList x1)))), []) := (evF_eq ..).trans (by kernel_rfl)
theorem impl_isSmall_eq (x0 : Int) : impl_isSmall x0 =
  oite (decide (x0 ≥ (97 : Int)))
    (some ((.d (.bool (decide (x0 ≤ (122 : Int))))), []))
    (some ((.d (.bool false)), [])) := (evF_eq ..).trans (by kernel_rfl)
theorem impl_isDigit_eq (x0 : Int) : impl_isDigit x0 =
  oite (decide (x0 ≥ (48 : Int)))
    (some ((.d (.bool (decide (x0 ≤ (57 : Int))))), []))
    (some ((.d (.bool false)), [])) := (evF_eq ..).trans (by kernel_rfl)
theorem strings_Fields_eq (x0 : ByteArray) : strings_Fields x0 =
  oguard ((asciiB x0) && (decide ((ByteArray.size x0) < 4294967281))) (
  some ((.d (.sl false 1 (fieldN x0) (fieldEs x0))), [])) := (evF_eq ..).trans (by kernel_rfl)
theorem slices_Contains_string_string_eq (x0 : Sl) (x1 : ByteArray) : slices_Contains_string_string x0 x1 =
  ocall (.m (.one (.int .i64))) [] (slices_Index_string_string x0 x1) fun (r0 : Int) (m1 : Unit) =>
  some ((.d (.bool (decide (r0 ≥ (0 : Int))))), []) := (evF_eq ..).trans (by kernel_rfl)
noncomputable def slices_IndexFunc_impl_Data_impl_Data_Fimpl_dataAt_1c_j1 (x0 : Int) (x1 : Sl) (x2 : Int) (x3 : ByteArray) : Res := (fun (p : Env × Mem) => evI cx 140 1 1 p.1 p.2) ([(8, (.d (.int .i64 x0))), (0, (.d (.sl false 3 x1.1 x1.2))), (1, (.fn 141 [(.ptr 0 0)])), (7, (.d (.int .i64 x2)))], [(.box [(.d (.str x3))])])
theorem slices_IndexFunc_impl_Data_impl_Data_Fimpl_dataAt_1c_eq (x0 : Sl) (x1 : ByteArray) : slices_IndexFunc_impl_Data_impl_Data_Fimpl_dataAt_1c x0 x1 =
  slices_IndexFunc_impl_Data_impl_Data_Fimpl_dataAt_1c_j1 (0 : Int) x0 ((x0.1 : Nat) : Int) x1 := (evF_eq ..).trans (by kernel_rfl)
-- a loop's head
theorem slices_IndexFunc_impl_Data_impl_Data_Fimpl_dataAt_1c_j1_eq (x0 : Int) (x1 : Sl) (x2 : Int) (x3 : ByteArray) : slices_IndexFunc_impl_Data_impl_Data_Fimpl_dataAt_1c_j1 x0 x1 x2 x3 =
  oite (decide (x0 < x2))
    (oat sh_Data x1.1 x1.2 x0 fun (t0 : T_Data) =>
    ocall (.m (.one .bool)) [(.box [.str])] (impl_dataAt_1 t0 x3) fun (r1 : Bool) (m2 : ((ByteArray × Unit) × Unit)) =>
    oite r1
      (some ((.d (.int .i64 x0)), [(.box [(.d (.str m2.1.1))])]))
      (slices_IndexFunc_impl_Data_impl_Data_Fimpl_dataAt_1c_j1 (w64 (x0 + (1 : Int))) x1 x2 m2.1.1))
    (some ((.d (.int .i64 (-1 : Int))), [(.box [(.d (.str x3))])])) := (evI_eq ..).trans (by kernel_rfl)
noncomputable def impl_wordLike_Fimpl_isGreat_j1 (x0 : Int) (x1 : ByteArray) (x2 : Int) : Res := (fun (p : Env × Mem) => evI cx 100 0 1 p.1 p.2) ([(8, (.d (.int .i64 x0))), (0, (.d (.str x1))), (1, (.fn 142 [])), (7, (.d (.int .i64 x2)))], [])
noncomputable def impl_wordLike_Fimpl_isGreat_j2 (x0 : ByteArray) (x1 : Int) (x2 : Int) (x3 : Bool) : Res := (fun (p : Env × Mem) => evI cx 100 0 2 p.1 p.2) ([(0, (.d (.str x0))), (1, (.fn 142 [])), (7, (.d (.int .i64 x1))), (8, (.d (.int .i64 x2))), (38, (.d (.bool x3)))], [])
theorem impl_wordLike_Fimpl_isGreat_eq (x0 : ByteArray) : impl_wordLike_Fimpl_isGreat x0 =
  impl_wordLike_Fimpl_isGreat_j1 (0 : Int) x0 (((ByteArray.size x0) : Nat) : Int) := (evF_eq ..).trans (by kernel_rfl)
-- a loop's head
theorem impl_wordLike_Fimpl_isGreat_j1_eq (x0 : Int) (x1 : ByteArray) (x2 : Int) : impl_wordLike_Fimpl_isGreat_j1 x0 x1 x2 =
  oite (decide (x0 < x2))
    (oite (x0 == (0 : Int))
      (oguard (decide (((0 : Int) ≤ x0) ∧ (x0 < (((ByteArray.size x1) : Nat) : Int)))) (
      ocall (.m (.one .bool)) [] (impl_isGreat (byteAt x1 (Int.toNat x0))) fun (r0 : Bool) (m1 : Unit) =>
      oite (!r0)
        (impl_wordLike_Fimpl_isGreat_j2 x1 x2 x0 true)
        (oite (decide (x0 > (0 : Int)))
          (oguard (decide (((0 : Int) ≤ x0) ∧ (x0 < (((ByteArray.size x1) : Nat) : Int)))) (
          ocall (.m (.one .bool)) [] (impl_isSmall (byteAt x1 (Int.toNat x0))) fun (r2 : Bool) (m3 : Unit) =>
          oite (!r2)
            (oguard (decide (((0 : Int) ≤ x0) ∧ (x0 < (((ByteArray.size x1) : Nat) : Int)))) (
            ocall (.m (.one .bool)) [] (impl_isDigit (byteAt x1 (Int.toNat x0))) fun (r4 : Bool) (m5 : Unit) =>
            impl_wordLike_Fimpl_isGreat_j2 x1 x2 x0 (!r4)))
            (impl_wordLike_Fimpl_isGreat_j2 x1 x2 x0 false)))
          (impl_wordLike_Fimpl_isGreat_j2 x1 x2 x0 false))))
      (oite (decide (x0 > (0 : Int)))
        (oguard (decide (((0 : Int) ≤ x0) ∧ (x0 < (((ByteArray.size x1) : Nat) : Int)))) (
        ocall (.m (.one .bool)) [] (impl_isSmall (byteAt x1 (Int.toNat x0))) fun (r6 : Bool) (m7 : Unit) =>
        oite (!r6)
          (oguard (decide (((0 : Int) ≤ x0) ∧ (x0 < (((ByteArray.size x1) : Nat) : Int)))) (
          ocall (.m (.one .bool)) [] (impl_isDigit (byteAt x1 (Int.toNat x0))) fun (r8 : Bool) (m9 : Unit) =>
          impl_wordLike_Fimpl_isGreat_j2 x1 x2 x0 (!r8)))
          (impl_wordLike_Fimpl_isGreat_j2 x1 x2 x0 false)))
        (impl_wordLike_Fimpl_isGreat_j2 x1 x2 x0 false)))
    (ocall (.m (.one .bool)) [] (impl_within (((ByteArray.size x1) : Nat) : Int) (1 : Int) (8 : Int)) fun (r10 : Bool) (m11 : Unit) =>
    some ((.d (.bool r10)), [])) := (evI_eq ..).trans (by kernel_rfl)
theorem impl_wordLike_Fimpl_isGreat_j2_eq (x0 : ByteArray) (x1 : Int) (x2 : Int) (x3 : Bool) : impl_wordLike_Fimpl_isGreat_j2 x0 x1 x2 x3 =
  oite x3
    (some ((.d (.bool false)), []))
    (impl_wordLike_Fimpl_isGreat_j1 (w64 (x2 + (1 : Int))) x0 x1) := (evI_eq ..).trans (by kernel_rfl)
noncomputable def impl_findCon_j1 (x0 : ByteArray) (x1 : Int) (x2 : Sl) (x3 : Int) : Res := (fun (p : Env × Mem) => evI cx 143 0 1 p.1 p.2) ([(1, (.d (.str x0))), (13, (.d (.int .i64 x1))), (11, (.d (.sl false 3 x2.1 x2.2))), (12, (.d (.int .i64 x3)))], [])
noncomputable def impl_findCon_j2 (x0 : Int) (x1 : Int) (x2 : ByteArray) (x3 : Sl) (x4 : Sl) (x5 : Int) (x6 : Int) (x7 : Int) : Res := (fun (p : Env × Mem) => evI cx 143 0 2 p.1 p.2) ([(7, (.d (.int .i64 x0))), (21, (.d (.int .i64 x1))), (1, (.d (.str x2))), (19, (.d (.sl false 2 x3.1 x3.2))), (11, (.d (.sl false 3 x4.1 x4.2))), (12, (.d (.int .i64 x5))), (13, (.d (.int .i64 x6))), (20, (.d (.int .i64 x7)))], [])
theorem impl_findCon_eq (x0 : Sl) (x1 : ByteArray) : impl_findCon x0 x1 =
  impl_findCon_j1 x1 (0 : Int) x0 ((x0.1 : Nat) : Int) := (evF_eq ..).trans (by kernel_rfl)
-- a loop's head
theorem impl_findCon_j1_eq (x0 : ByteArray) (x1 : Int) (x2 : Sl) (x3 : Int) : impl_findCon_j1 x0 x1 x2 x3 =
  oite (decide (x1 < x3))
    (oat sh_Data x2.1 x2.2 x1 fun (t0 : T_Data) =>
    impl_findCon_j2 x1 (0 : Int) x0 t0.2.2.1 x2 x3 x1 ((t0.2.2.1.1 : Nat) : Int))
    (some ((.tup [(.d (.int .i64 (0 : Int))), (.d (.int .i64 (0 : Int))), (.d (.bool false))]), [])) := (evI_eq ..).trans (by kernel_rfl)
-- a loop's head
theorem impl_findCon_j2_eq (x0 : Int) (x1 : Int) (x2 : ByteArray) (x3 : Sl) (x4 : Sl) (x5 : Int) (x6 : Int) (x7 : Int) : impl_findCon_j2 x0 x1 x2 x3 x4 x5 x6 x7 =
  oite (decide (x1 < x7))
    (oat sh_Con x3.1 x3.2 x1 fun (t1 : T_Con) =>
    ostr t1.1.2 fun (s2 : ByteArray) =>
    oite ((ByteArray.toList s2) == (ByteArray.toList x2))
      (some ((.tup [(.d (.int .i64 x0)), (.d (.int .i64 x1)), (.d (.bool true))]), []))
      (impl_findCon_j2 x0 (w64 (x1 + (1 : Int))) x2 x3 x4 x5 x6 x7))
    (impl_findCon_j1 x2 (w64 (x6 + (1 : Int))) x4 x5) := (evI_eq ..).trans (by kernel_rfl)
noncomputable def slices_IndexFunc_impl_Ty_impl_Ty_Fimpl_conOk_1c_j1 (x0 : Int) (x1 : Sl) (x2 : Int) (x3 : Sl) : Res := (fun (p : Env × Mem) => evI cx 144 1 1 p.1 p.2) ([(8, (.d (.int .i64 x0))), (0, (.d (.sl false 3 x1.1 x1.2))), (1, (.fn 107 [(.ptr 0 0)])), (7, (.d (.int .i64 x2)))], [(.box [(.d (.sl false 3 x3.1 x3.2))])])
theorem slices_IndexFunc_impl_Ty_impl_Ty_Fimpl_conOk_1c_eq (x0 : Sl) (x1 : Sl) : slices_IndexFunc_impl_Ty_impl_Ty_Fimpl_conOk_1c x0 x1 =
  slices_IndexFunc_impl_Ty_impl_Ty_Fimpl_conOk_1c_j1 (0 : Int) x0 ((x0.1 : Nat) : Int) x1 := (evF_eq ..).trans (by kernel_rfl)
-- a loop's head
theorem slices_IndexFunc_impl_Ty_impl_Ty_Fimpl_conOk_1c_j1_eq (x0 : Int) (x1 : Sl) (x2 : Int) (x3 : Sl) : slices_IndexFunc_impl_Ty_impl_Ty_Fimpl_conOk_1c_j1 x0 x1 x2 x3 =
  oite (decide (x0 < x2))
    (oat sh_Ty x1.1 x1.2 x0 fun (t0 : T_Ty) =>
    ocall (.m (.one .bool)) [(.box [(.sl 3)])] (impl_conOk_1 t0 x3) fun (r1 : Bool) (m2 : ((Sl × Unit) × Unit)) =>
    oite r1
      (some ((.d (.int .i64 x0)), [(.box [(.d (.sl false 3 m2.1.1.1 m2.1.1.2))])]))
      (slices_IndexFunc_impl_Ty_impl_Ty_Fimpl_conOk_1c_j1 (w64 (x0 + (1 : Int))) x1 x2 m2.1.1))
    (some ((.d (.int .i64 (-1 : Int))), [(.box [(.d (.sl false 3 x3.1 x3.2))])])) := (evI_eq ..).trans (by kernel_rfl)
theorem laws_eqCon_eq (x0 : T_Con) (x1 : T_Con) : laws_eqCon x0 x1 =
  ocall (.m (.one .bool)) [] (laws_eqByteS x0.1 x1.1) fun (r0 : Bool) (m1 : Unit) =>
  oite (!r0)
    (some ((.d (.bool false)), []))
    (ocall (.m (.one .bool)) [] (laws_eqTyS x0.2.1 x1.2.1) fun (r2 : Bool) (m3 : Unit) =>
    oite (!r2)
      (some ((.d (.bool false)), []))
      (some ((.d (.bool true)), []))) := (evF_eq ..).trans (by kernel_rfl)
noncomputable def laws_szTyS_j1 (x0 : Int) (x1 : Int) (x2 : Sl) : Res := (fun (p : Env × Mem) => evI cx 83 0 1 p.1 p.2) ([(5, (.d (.int .i64 x0))), (1, (.d (.int .i64 x1))), (0, (.d (.sl false 3 x2.1 x2.2)))], [])
theorem laws_szTyS_eq (x0 : Sl) (x1 : Int) : laws_szTyS x0 x1 =
  oite (decide ((w64 (x1 - ((x0.1 : Nat) : Int))) < (0 : Int)))
    (some ((.d (.int .i64 (-1 : Int))), []))
    (laws_szTyS_j1 (0 : Int) (w64 (x1 - ((x0.1 : Nat) : Int))) x0) := (evF_eq ..).trans (by kernel_rfl)
-- a loop's head
theorem laws_szTyS_j1_eq (x0 : Int) (x1 : Int) (x2 : Sl) : laws_szTyS_j1 x0 x1 x2 =
  oite (decide (x0 < ((x2.1 : Nat) : Int)))
    (oat sh_Ty x2.1 x2.2 x0 fun (t0 : T_Ty) =>
    ocall (.m (.one (.int .i64))) [] (laws_szTy t0 x1) fun (r1 : Int) (m2 : Unit) =>
    oite (decide (r1 < (0 : Int)))
      (some ((.d (.int .i64 (-1 : Int))), []))
      (laws_szTyS_j1 (w64 (x0 + (1 : Int))) r1 x2))
    (some ((.d (.int .i64 x1)), [])) := (evI_eq ..).trans (by kernel_rfl)
noncomputable def laws_toTyS_j1 (x0 : Int) (x1 : Sl) (x2 : Sl) : Res := (fun (p : Env × Mem) => evI cx 85 0 1 p.1 p.2) ([(4, (.d (.int .i64 x0))), (0, (.d (.sl false 3 x1.1 x1.2))), (3, (.own 0))], [(.row 3 x2.1 false false x2.2)])
theorem laws_toTyS_eq (x0 : Sl) : laws_toTyS x0 =
  oguard (decide (((0 : Int) ≤ ((x0.1 : Nat) : Int)) ∧ ((((x0.1 : Nat) : Int) = ((x0.1 : Nat) : Int)) ∧ ((((x0.1 : Nat) : Int) * (40 : Int)) ≤ (140737488351232 : Int))))) (
  olet (List.replicate (Int.toNat ((x0.1 : Nat) : Int)) (vDs (LS.encs sh_Ty ((0 : Int), (0 : Int), (0, []), ())))) fun (e0 : (List (List D))) =>
  laws_toTyS_j1 (0 : Int) x0 ((Int.toNat ((x0.1 : Nat) : Int)), e0)) := (evF_eq ..).trans (by kernel_rfl)
-- a loop's head
theorem laws_toTyS_j1_eq (x0 : Int) (x1 : Sl) (x2 : Sl) : laws_toTyS_j1 x0 x1 x2 =
  oite (decide (x0 < ((x1.1 : Nat) : Int)))
    (oat sh_Ty x1.1 x1.2 x0 fun (t1 : T_Ty) =>
    ocall (.m (.agg sh_Ty)) [] (laws_toTy t1) fun (r2 : T_Ty) (m3 : Unit) =>
    oguard (decide (((0 : Int) ≤ x0) ∧ (x0 < ((x2.1 : Nat) : Int)))) (
    olet (List.set x2.2 (Int.toNat x0) (putD (List.getD x2.2 (Int.toNat x0) []) 0 (vDs (LS.encs sh_Ty r2)))) fun (e4 : (List (List D))) =>
    laws_toTyS_j1 (w64 (x0 + (1 : Int))) x1 (x2.1, e4)))
    (some ((.d (.sl false 3 x2.1 x2.2)), [])) := (evI_eq ..).trans (by kernel_rfl)
noncomputable def slices_Index_string_string_j1 (x0 : Int) (x1 : Sl) (x2 : ByteArray) (x3 : Int) : Res := (fun (p : Env × Mem) => evI cx 164 0 1 p.1 p.2) ([(8, (.d (.int .i64 x0))), (0, (.d (.sl false 1 x1.1 x1.2))), (1, (.d (.str x2))), (7, (.d (.int .i64 x3)))], [])
theorem slices_Index_string_string_eq (x0 : Sl) (x1 : ByteArray) : slices_Index_string_string x0 x1 =
  slices_Index_string_string_j1 (0 : Int) x0 x1 ((x0.1 : Nat) : Int) := (evF_eq ..).trans (by kernel_rfl)
-- a loop's head
theorem slices_Index_string_string_j1_eq (x0 : Int) (x1 : Sl) (x2 : ByteArray) (x3 : Int) : slices_Index_string_string_j1 x0 x1 x2 x3 =
  oite (decide (x0 < x3))
    (oat [.str] x1.1 x1.2 x0 fun (t0 : (ByteArray × Unit)) =>
    oite ((ByteArray.toList x2) == (ByteArray.toList t0.1))
      (some ((.d (.int .i64 x0)), []))
      (slices_Index_string_string_j1 (w64 (x0 + (1 : Int))) x1 x2 x3))
    (some ((.d (.int .i64 (-1 : Int))), [])) := (evI_eq ..).trans (by kernel_rfl)
theorem impl_dataAt_1_eq (x0 : T_Data) (x1 : ByteArray) : impl_dataAt_1 x0 x1 =
  ostr x0.1.2 fun (s0 : ByteArray) =>
  some ((.d (.bool ((ByteArray.toList s0) == (ByteArray.toList x1)))), [(.box [(.d (.str x1))])]) := (evF_eq ..).trans (by kernel_rfl)
theorem impl_isGreat_eq (x0 : Int) : impl_isGreat x0 =
  oite (decide (x0 ≥ (65 : Int)))
    (some ((.d (.bool (decide (x0 ≤ (90 : Int))))), []))
    (some ((.d (.bool false)), [])) := (evF_eq ..).trans (by kernel_rfl)
theorem impl_conOk_1_eq (x0 : T_Ty) (x1 : Sl) : impl_conOk_1 x0 x1 =
  ocall (.m (.one .bool)) [] (impl_TyOk x0) fun (r0 : Bool) (m1 : Unit) =>
  oite (!r0)
    (some ((.d (.bool true)), [(.box [(.d (.sl false 3 x1.1 x1.2))])]))
    (ocall (.m (.one .bool)) [] (impl_fieldOk x0 x1) fun (r2 : Bool) (m3 : Unit) =>
    some ((.d (.bool (!r2))), [(.box [(.d (.sl false 3 x1.1 x1.2))])])) := (evF_eq ..).trans (by kernel_rfl)
noncomputable def laws_eqTyS_j1 (x0 : Int) (x1 : Sl) (x2 : Sl) : Res := (fun (p : Env × Mem) => evI cx 86 0 1 p.1 p.2) ([(5, (.d (.int .i64 x0))), (1, (.d (.sl false 3 x1.1 x1.2))), (0, (.d (.sl false 3 x2.1 x2.2)))], [])
theorem laws_eqTyS_eq (x0 : Sl) (x1 : Sl) : laws_eqTyS x0 x1 =
  oite (!(((x0.1 : Nat) : Int) == ((x1.1 : Nat) : Int)))
    (some ((.d (.bool false)), []))
    (laws_eqTyS_j1 (0 : Int) x1 x0) := (evF_eq ..).trans (by kernel_rfl)
-- a loop's head
theorem laws_eqTyS_j1_eq (x0 : Int) (x1 : Sl) (x2 : Sl) : laws_eqTyS_j1 x0 x1 x2 =
  oite (decide (x0 < ((x2.1 : Nat) : Int)))
    (oat sh_Ty x2.1 x2.2 x0 fun (t0 : T_Ty) =>
    oat sh_Ty x1.1 x1.2 x0 fun (t1 : T_Ty) =>
    ocall (.m (.one .bool)) [] (laws_eqTy t0 t1) fun (r2 : Bool) (m3 : Unit) =>
    oite (!r2)
      (some ((.d (.bool false)), []))
      (laws_eqTyS_j1 (w64 (x0 + (1 : Int))) x1 x2))
    (some ((.d (.bool true)), [])) := (evI_eq ..).trans (by kernel_rfl)
theorem laws_szTy_eq (x0 : T_Ty) (x1 : Int) : laws_szTy x0 x1 =
  ocall (.m (.one (.int .i64))) [] (laws_szTyS x0.2.2.1 x1) fun (r0 : Int) (m1 : Unit) =>
  oite (decide (r0 < (0 : Int)))
    (some ((.d (.int .i64 (-1 : Int))), []))
    (some ((.d (.int .i64 r0)), [])) := (evF_eq ..).trans (by kernel_rfl)
theorem laws_toTy_eq (x0 : T_Ty) : laws_toTy x0 =
  ocall (.m (.one (.sl 3))) [] (laws_toTyS x0.2.2.1) fun (r0 : Sl) (m1 : Unit) =>
  some ((.agg (LS.encs sh_Ty (x0.1, x0.2.1, r0, ()))), []) := (evF_eq ..).trans (by kernel_rfl)
theorem impl_TyOk_eq (x0 : T_Ty) : impl_TyOk x0 =
  ocall (.m (.one (.int .i64))) [] (impl_measure x0 (1 : Int)) fun (r0 : Int) (m1 : Unit) =>
  some ((.d (.bool (decide (r0 ≤ (60 : Int))))), []) := (evF_eq ..).trans (by kernel_rfl)
noncomputable def impl_fieldOk_j2 (x0 : Bool) (x1 : Sl) (x2 : T_Ty) : Res := (fun (p : Env × Mem) => evI cx 108 0 2 p.1 p.2) ([(3, (.ptr 0 0)), (2, (.ptr 1 0)), (37, (.d (.bool x0)))], [(.box [(.d (.sl false 3 x1.1 x1.2))]), (.box (LS.encs sh_Ty x2))])
noncomputable def impl_fieldOk_j1 (x0 : Sl) (x1 : T_Ty) : Res := (fun (p : Env × Mem) => evI cx 108 0 1 p.1 p.2) ([(3, (.ptr 0 0)), (2, (.ptr 1 0))], [(.box [(.d (.sl false 3 x0.1 x0.2))]), (.box (LS.encs sh_Ty x1))])
theorem impl_fieldOk_eq (x0 : T_Ty) (x1 : Sl) : impl_fieldOk x0 x1 =
  oite (x0.1 == (7 : Int))
    (oat sh_Data x1.1 x1.2 (w64 (((x1.1 : Nat) : Int) - (1 : Int))) fun (t0 : T_Data) =>
    some ((.d (.bool (decide (x0.2.1 < t0.2.1)))), []))
    (oite (x0.1 == (6 : Int))
      (oite (decide (x0.2.1 ≥ ((x1.1 : Nat) : Int)))
        (impl_fieldOk_j2 true x1 x0)
        (oat sh_Data x1.1 x1.2 x0.2.1 fun (t1 : T_Data) =>
        impl_fieldOk_j2 (!(((x0.2.2.1.1 : Nat) : Int) == t1.2.1)) x1 x0))
      (impl_fieldOk_j1 x1 x0)) := (evF_eq ..).trans (by kernel_rfl)
theorem impl_fieldOk_j2_eq (x0 : Bool) (x1 : Sl) (x2 : T_Ty) : impl_fieldOk_j2 x0 x1 x2 =
  oite x0
    (some ((.d (.bool false)), []))
    (impl_fieldOk_j1 x1 x2) := (evI_eq ..).trans (by kernel_rfl)
theorem impl_fieldOk_j1_eq (x0 : Sl) (x1 : T_Ty) : impl_fieldOk_j1 x0 x1 =
  ocall (.m (.one .bool)) [(.box [(.sl 3)])] (slices_ContainsFunc_impl_Ty_impl_Ty_Fimpl_fieldOk_1c x1.2.2.1 x0) fun (r2 : Bool) (m3 : ((Sl × Unit) × Unit)) =>
  some ((.d (.bool (!r2))), []) := (evI_eq ..).trans (by kernel_rfl)
theorem laws_eqTy_eq (x0 : T_Ty) (x1 : T_Ty) : laws_eqTy x0 x1 =
  oite (!(x0.1 == x1.1))
    (some ((.d (.bool false)), []))
    (oite (!(x0.2.1 == x1.2.1))
      (some ((.d (.bool false)), []))
      (ocall (.m (.one .bool)) [] (laws_eqTyS x0.2.2.1 x1.2.2.1) fun (r0 : Bool) (m1 : Unit) =>
      oite (!r0)
        (some ((.d (.bool false)), []))
        (some ((.d (.bool true)), [])))) := (evF_eq ..).trans (by kernel_rfl)
noncomputable def impl_measure_j2 (x0 : Int) (x1 : Bool) (x2 : T_Ty) : Res := (fun (p : Env × Mem) => evI cx 71 0 2 p.1 p.2) ([(1, (.d (.int .i64 x0))), (2, (.ptr 0 0)), (14, (.d (.bool x1)))], [(.box (LS.encs sh_Ty x2))])
noncomputable def impl_measure_j1 (x0 : Int) (x1 : T_Ty) : Res := (fun (p : Env × Mem) => evI cx 71 0 1 p.1 p.2) ([(1, (.d (.int .i64 x0))), (2, (.ptr 0 0))], [(.box (LS.encs sh_Ty x1))])
noncomputable def impl_measure_j3 (x0 : Int) (x1 : Int) (x2 : Int) (x3 : Sl) (x4 : Int) : Res := (fun (p : Env × Mem) => evI cx 71 0 3 p.1 p.2) ([(18, (.d (.int .i64 x0))), (1, (.d (.int .i64 x1))), (5, (.d (.int .i64 x2))), (16, (.d (.sl false 3 x3.1 x3.2))), (17, (.d (.int .i64 x4)))], [])
theorem impl_measure_eq (x0 : T_Ty) (x1 : Int) : impl_measure x0 x1 =
  oite (decide (x1 > (10 : Int)))
    (impl_measure_j2 x1 true x0)
    (ocall (.m (.one .bool)) [] (impl_headOk x0) fun (r0 : Bool) (m1 : Unit) =>
    impl_measure_j2 x1 (!r0) x0) := (evF_eq ..).trans (by kernel_rfl)
theorem impl_measure_j2_eq (x0 : Int) (x1 : Bool) (x2 : T_Ty) : impl_measure_j2 x0 x1 x2 =
  oite x1
    (some ((.d (.int .i64 (61 : Int))), []))
    (impl_measure_j1 x0 x2) := (evI_eq ..).trans (by kernel_rfl)
theorem impl_measure_j1_eq (x0 : Int) (x1 : T_Ty) : impl_measure_j1 x0 x1 =
  impl_measure_j3 (0 : Int) x0 (1 : Int) x1.2.2.1 ((x1.2.2.1.1 : Nat) : Int) := (evI_eq ..).trans (by kernel_rfl)
-- a loop's head
theorem impl_measure_j3_eq (x0 : Int) (x1 : Int) (x2 : Int) (x3 : Sl) (x4 : Int) : impl_measure_j3 x0 x1 x2 x3 x4 =
  oite (decide (x0 < x4))
    (oat sh_Ty x3.1 x3.2 x0 fun (t2 : T_Ty) =>
    ocall (.m (.one (.int .i64))) [] (impl_measure t2 (w64 (x1 + (1 : Int)))) fun (r3 : Int) (m4 : Unit) =>
    oite (decide ((w64 (x2 + r3)) > (60 : Int)))
      (some ((.d (.int .i64 (61 : Int))), []))
      (impl_measure_j3 (w64 (x0 + (1 : Int))) x1 (w64 (x2 + r3)) x3 x4))
    (some ((.d (.int .i64 x2)), [])) := (evI_eq ..).trans (by kernel_rfl)
theorem slices_ContainsFunc_impl_Ty_impl_Ty_Fimpl_fieldOk_1c_eq (x0 : Sl) (x1 : Sl) : slices_ContainsFunc_impl_Ty_impl_Ty_Fimpl_fieldOk_1c x0 x1 =
  ocall (.m (.one (.int .i64))) [(.box [(.sl 3)])] (slices_IndexFunc_impl_Ty_impl_Ty_Fimpl_fieldOk_1c x0 x1) fun (r0 : Int) (m1 : ((Sl × Unit) × Unit)) =>
  some ((.d (.bool (decide (r0 ≥ (0 : Int))))), [(.box [(.d (.sl false 3 m1.1.1.1 m1.1.1.2))])]) := (evF_eq ..).trans (by kernel_rfl)
noncomputable def impl_headOk_j2 (x0 : Bool) (x1 : T_Ty) : Res := (fun (p : Env × Mem) => evI cx 123 0 2 p.1 p.2) ([(1, (.ptr 0 0)), (25, (.d (.bool x0)))], [(.box (LS.encs sh_Ty x1))])
noncomputable def impl_headOk_j1 (x0 : T_Ty) : Res := (fun (p : Env × Mem) => evI cx 123 0 1 p.1 p.2) ([(1, (.ptr 0 0))], [(.box (LS.encs sh_Ty x0))])
theorem impl_headOk_eq (x0 : T_Ty) : impl_headOk x0 =
  ocall (.m (.one (.int .i64))) [] (impl_argsOf x0.1) fun (r0 : Int) (m1 : Unit) =>
  oite (r0 == (-1 : Int))
    (oite (decide (((x0.2.2.1.1 : Nat) : Int) > (3 : Int)))
      (impl_headOk_j2 true x0)
      (oite (!(r0 == (-1 : Int)))
        (impl_headOk_j2 (!(r0 == ((x0.2.2.1.1 : Nat) : Int))) x0)
        (impl_headOk_j2 false x0)))
    (oite (!(r0 == (-1 : Int)))
      (impl_headOk_j2 (!(r0 == ((x0.2.2.1.1 : Nat) : Int))) x0)
      (impl_headOk_j2 false x0)) := (evF_eq ..).trans (by kernel_rfl)
theorem impl_headOk_j2_eq (x0 : Bool) (x1 : T_Ty) : impl_headOk_j2 x0 x1 =
  oite x0
    (some ((.d (.bool false)), []))
    (impl_headOk_j1 x1) := (evI_eq ..).trans (by kernel_rfl)
theorem impl_headOk_j1_eq (x0 : T_Ty) : impl_headOk_j1 x0 =
  oite (x0.1 == (6 : Int))
    (ocall (.m (.one .bool)) [] (impl_within x0.2.1 (0 : Int) (19 : Int)) fun (r2 : Bool) (m3 : Unit) =>
    some ((.d (.bool r2)), []))
    (oite (x0.1 == (7 : Int))
      (ocall (.m (.one .bool)) [] (impl_within x0.2.1 (0 : Int) (99999 : Int)) fun (r4 : Bool) (m5 : Unit) =>
      some ((.d (.bool r4)), []))
      (some ((.d (.bool (x0.2.1 == (0 : Int)))), []))) := (evI_eq ..).trans (by kernel_rfl)
noncomputable def slices_IndexFunc_impl_Ty_impl_Ty_Fimpl_fieldOk_1c_j1 (x0 : Int) (x1 : Sl) (x2 : Int) (x3 : Sl) : Res := (fun (p : Env × Mem) => evI cx 144 1 1 p.1 p.2) ([(8, (.d (.int .i64 x0))), (0, (.d (.sl false 3 x1.1 x1.2))), (1, (.fn 145 [(.ptr 0 0)])), (7, (.d (.int .i64 x2)))], [(.box [(.d (.sl false 3 x3.1 x3.2))])])
theorem slices_IndexFunc_impl_Ty_impl_Ty_Fimpl_fieldOk_1c_eq (x0 : Sl) (x1 : Sl) : slices_IndexFunc_impl_Ty_impl_Ty_Fimpl_fieldOk_1c x0 x1 =
  slices_IndexFunc_impl_Ty_impl_Ty_Fimpl_fieldOk_1c_j1 (0 : Int) x0 ((x0.1 : Nat) : Int) x1 := (evF_eq ..).trans (by kernel_rfl)
-- a loop's head
theorem slices_IndexFunc_impl_Ty_impl_Ty_Fimpl_fieldOk_1c_j1_eq (x0 : Int) (x1 : Sl) (x2 : Int) (x3 : Sl) : slices_IndexFunc_impl_Ty_impl_Ty_Fimpl_fieldOk_1c_j1 x0 x1 x2 x3 =
  oite (decide (x0 < x2))
    (oat sh_Ty x1.1 x1.2 x0 fun (t0 : T_Ty) =>
    ocall (.m (.one .bool)) [(.box [(.sl 3)])] (impl_fieldOk_1 t0 x3) fun (r1 : Bool) (m2 : ((Sl × Unit) × Unit)) =>
    oite r1
      (some ((.d (.int .i64 x0)), [(.box [(.d (.sl false 3 m2.1.1.1 m2.1.1.2))])]))
      (slices_IndexFunc_impl_Ty_impl_Ty_Fimpl_fieldOk_1c_j1 (w64 (x0 + (1 : Int))) x1 x2 m2.1.1))
    (some ((.d (.int .i64 (-1 : Int))), [(.box [(.d (.sl false 3 x3.1 x3.2))])])) := (evI_eq ..).trans (by kernel_rfl)
noncomputable def impl_argsOf_j1 (x0 : Int) (x1 : Bool) : Res := (fun (p : Env × Mem) => evI cx 121 0 1 p.1 p.2) ([(3, (.d (.int .i64 x0))), (4, (.d (.bool x1)))], [])
noncomputable def impl_argsOf_j2 (x0 : Int) (x1 : Bool) : Res := (fun (p : Env × Mem) => evI cx 121 0 2 p.1 p.2) ([(3, (.d (.int .i64 x0))), (9, (.d (.bool x1)))], [])
theorem impl_argsOf_eq (x0 : Int) : impl_argsOf x0 =
  oite (x0 == (0 : Int))
    (impl_argsOf_j1 x0 (x0 == (0 : Int)))
    (oite (x0 == (1 : Int))
      (impl_argsOf_j1 x0 (x0 == (1 : Int)))
      (oite (x0 == (2 : Int))
        (impl_argsOf_j1 x0 (x0 == (2 : Int)))
        (impl_argsOf_j1 x0 (x0 == (7 : Int))))) := (evF_eq ..).trans (by kernel_rfl)
theorem impl_argsOf_j1_eq (x0 : Int) (x1 : Bool) : impl_argsOf_j1 x0 x1 =
  oite x1
    (some ((.d (.int .i64 (0 : Int))), []))
    (oite (x0 == (3 : Int))
      (impl_argsOf_j2 x0 (x0 == (3 : Int)))
      (impl_argsOf_j2 x0 (x0 == (4 : Int)))) := (evI_eq ..).trans (by kernel_rfl)
theorem impl_argsOf_j2_eq (x0 : Int) (x1 : Bool) : impl_argsOf_j2 x0 x1 =
  oite x1
    (some ((.d (.int .i64 (2 : Int))), []))
    (oite (x0 == (5 : Int))
      (some ((.d (.int .i64 (1 : Int))), []))
      (oite (x0 == (6 : Int))
        (some ((.d (.int .i64 (-1 : Int))), []))
        (some ((.d (.int .i64 (-2 : Int))), [])))) := (evI_eq ..).trans (by kernel_rfl)
theorem impl_fieldOk_1_eq (x0 : T_Ty) (x1 : Sl) : impl_fieldOk_1 x0 x1 =
  ocall (.m (.one .bool)) [] (impl_fieldOk x0 x1) fun (r0 : Bool) (m1 : Unit) =>
  some ((.d (.bool (!r0))), [(.box [(.d (.sl false 3 x1.1 x1.2))])]) := (evF_eq ..).trans (by kernel_rfl)
theorem ty4 : TIok Tryd.prog 4 ⟨1, 1, false, .bool, [.d (.bool false)], [.bool]⟩ := ⟨Tryd.sizeOf4, Tryd.isAgg4, Tryd.runUnderlying4, ⟨_, Tryd.typeInfo4, rfl⟩, by decide, by decide, ⟨_, Tryd.zeroValue4, rfl, fun w C ι => z_cons z_bool (z_end)⟩⟩
theorem ty3 : TIok Tryd.prog 3 ⟨1, 8, false, (.int .i64), [.d (.int .i64 0)], [.int .i64]⟩ := ⟨Tryd.sizeOf3, Tryd.isAgg3, Tryd.runUnderlying3, ⟨_, Tryd.typeInfo3, rfl⟩, by decide, by decide, ⟨_, Tryd.zeroValue3, rfl, fun w C ι => z_cons z_int (z_end)⟩⟩
theorem ty22 : TIok Tryd.prog 22 ⟨1, 24, false, (.sl 76), [.d (.sl true 3 0 [])], [.sl 3]⟩ := ⟨Tryd.sizeOf22, Tryd.isAgg22, Tryd.runUnderlying22, ⟨_, Tryd.typeInfo22, rfl⟩, by decide, by decide, ⟨_, Tryd.zeroValue22, rfl, fun w C ι => z_cons z_nil (z_end)⟩⟩
theorem ty76 : TIok Tryd.prog 76 ⟨3, 56, true, (.st [(0, 29), (1, 3), (2, 74)]), [.d (.sl true 1 0 []), .d (.int .i64 0), .d (.sl true 2 0 [])], [.sl 1, .int .i64, .sl 2]⟩ := ⟨Tryd.sizeOf76, Tryd.isAgg76, ⟨_, Tryd.runUnderlying76, rfl, f_cons Tryd.sizeOf29 (f_cons Tryd.sizeOf3 (f_cons Tryd.sizeOf74 (f_end)))⟩, ⟨_, Tryd.typeInfo76, rfl⟩, by decide, by decide, ⟨_, Tryd.zeroValue76, rfl, fun w C ι => z_cons z_nil (z_cons z_int (z_cons z_nil (z_end)))⟩⟩
theorem ty29 : TIok Tryd.prog 29 ⟨1, 24, false, (.sl 5), [.d (.sl true 1 0 [])], [.sl 1]⟩ := ⟨Tryd.sizeOf29, Tryd.isAgg29, Tryd.runUnderlying29, ⟨_, Tryd.typeInfo29, rfl⟩, by decide, by decide, ⟨_, Tryd.zeroValue29, rfl, fun w C ι => z_cons z_nil (z_end)⟩⟩
theorem ty5 : TIok Tryd.prog 5 ⟨1, 1, false, (.int .u8), [.d (.int .u8 0)], [.int .u8]⟩ := ⟨Tryd.sizeOf5, Tryd.isAgg5, Tryd.runUnderlying5, ⟨_, Tryd.typeInfo5, rfl⟩, by decide, by decide, ⟨_, Tryd.zeroValue5, rfl, fun w C ι => z_cons z_int (z_end)⟩⟩
theorem ty74 : TIok Tryd.prog 74 ⟨1, 24, false, (.sl 165), [.d (.sl true 2 0 [])], [.sl 2]⟩ := ⟨Tryd.sizeOf74, Tryd.isAgg74, Tryd.runUnderlying74, ⟨_, Tryd.typeInfo74, rfl⟩, by decide, by decide, ⟨_, Tryd.zeroValue74, rfl, fun w C ι => z_cons z_nil (z_end)⟩⟩
theorem ty165 : TIok Tryd.prog 165 ⟨2, 48, true, (.st [(0, 29), (1, 59)]), [.d (.sl true 1 0 []), .d (.sl true 3 0 [])], [.sl 1, .sl 3]⟩ := ⟨Tryd.sizeOf165, Tryd.isAgg165, ⟨_, Tryd.runUnderlying165, rfl, f_cons Tryd.sizeOf29 (f_cons Tryd.sizeOf59 (f_end))⟩, ⟨_, Tryd.typeInfo165, rfl⟩, by decide, by decide, ⟨_, Tryd.zeroValue165, rfl, fun w C ι => z_cons z_nil (z_cons z_nil (z_end))⟩⟩
theorem ty59 : TIok Tryd.prog 59 ⟨1, 24, false, (.sl 61), [.d (.sl true 3 0 [])], [.sl 3]⟩ := ⟨Tryd.sizeOf59, Tryd.isAgg59, Tryd.runUnderlying59, ⟨_, Tryd.typeInfo59, rfl⟩, by decide, by decide, ⟨_, Tryd.zeroValue59, rfl, fun w C ι => z_cons z_nil (z_end)⟩⟩
theorem ty61 : TIok Tryd.prog 61 ⟨3, 40, true, (.st [(0, 3), (1, 3), (2, 59)]), [.d (.int .i64 0), .d (.int .i64 0), .d (.sl true 3 0 [])], [.int .i64, .int .i64, .sl 3]⟩ := ⟨Tryd.sizeOf61, Tryd.isAgg61, ⟨_, Tryd.runUnderlying61, rfl, f_cons Tryd.sizeOf3 (f_cons Tryd.sizeOf3 (f_cons Tryd.sizeOf59 (f_end)))⟩, ⟨_, Tryd.typeInfo61, rfl⟩, by decide, by decide, ⟨_, Tryd.zeroValue61, rfl, fun w C ι => z_cons z_int (z_cons z_int (z_cons z_nil (z_end)))⟩⟩
theorem ty25 : TIok Tryd.prog 25 ⟨1, 24, false, (.sl 79), [.d (.sl true 3 0 [])], [.sl 3]⟩ := ⟨Tryd.sizeOf25, Tryd.isAgg25, Tryd.runUnderlying25, ⟨_, Tryd.typeInfo25, rfl⟩, by decide, by decide, ⟨_, Tryd.zeroValue25, rfl, fun w C ι => z_cons z_nil (z_end)⟩⟩
theorem ty79 : TIok Tryd.prog 79 ⟨3, 56, true, (.st [(0, 29), (1, 3), (2, 77)]), [.d (.sl true 1 0 []), .d (.int .i64 0), .d (.sl true 2 0 [])], [.sl 1, .int .i64, .sl 2]⟩ := ⟨Tryd.sizeOf79, Tryd.isAgg79, ⟨_, Tryd.runUnderlying79, rfl, f_cons Tryd.sizeOf29 (f_cons Tryd.sizeOf3 (f_cons Tryd.sizeOf77 (f_end)))⟩, ⟨_, Tryd.typeInfo79, rfl⟩, by decide, by decide, ⟨_, Tryd.zeroValue79, rfl, fun w C ι => z_cons z_nil (z_cons z_int (z_cons z_nil (z_end)))⟩⟩
theorem ty77 : TIok Tryd.prog 77 ⟨1, 24, false, (.sl 82), [.d (.sl true 2 0 [])], [.sl 2]⟩ := ⟨Tryd.sizeOf77, Tryd.isAgg77, Tryd.runUnderlying77, ⟨_, Tryd.typeInfo77, rfl⟩, by decide, by decide, ⟨_, Tryd.zeroValue77, rfl, fun w C ι => z_cons z_nil (z_end)⟩⟩
theorem ty82 : TIok Tryd.prog 82 ⟨2, 48, true, (.st [(0, 29), (1, 43)]), [.d (.sl true 1 0 []), .d (.sl true 3 0 [])], [.sl 1, .sl 3]⟩ := ⟨Tryd.sizeOf82, Tryd.isAgg82, ⟨_, Tryd.runUnderlying82, rfl, f_cons Tryd.sizeOf29 (f_cons Tryd.sizeOf43 (f_end))⟩, ⟨_, Tryd.typeInfo82, rfl⟩, by decide, by decide, ⟨_, Tryd.zeroValue82, rfl, fun w C ι => z_cons z_nil (z_cons z_nil (z_end))⟩⟩
theorem ty43 : TIok Tryd.prog 43 ⟨1, 24, false, (.sl 45), [.d (.sl true 3 0 [])], [.sl 3]⟩ := ⟨Tryd.sizeOf43, Tryd.isAgg43, Tryd.runUnderlying43, ⟨_, Tryd.typeInfo43, rfl⟩, by decide, by decide, ⟨_, Tryd.zeroValue43, rfl, fun w C ι => z_cons z_nil (z_end)⟩⟩
theorem ty45 : TIok Tryd.prog 45 ⟨3, 40, true, (.st [(0, 3), (1, 3), (2, 43)]), [.d (.int .i64 0), .d (.int .i64 0), .d (.sl true 3 0 [])], [.int .i64, .int .i64, .sl 3]⟩ := ⟨Tryd.sizeOf45, Tryd.isAgg45, ⟨_, Tryd.runUnderlying45, rfl, f_cons Tryd.sizeOf3 (f_cons Tryd.sizeOf3 (f_cons Tryd.sizeOf43 (f_end)))⟩, ⟨_, Tryd.typeInfo45, rfl⟩, by decide, by decide, ⟨_, Tryd.zeroValue45, rfl, fun w C ι => z_cons z_int (z_cons z_int (z_cons z_nil (z_end)))⟩⟩
theorem ty33 : TIok Tryd.prog 33 ⟨7, 136, true, (.st [(0, 3), (1, 3), (2, 29), (3, 29), (4, 29), (5, 30), (6, 31)]), [.d (.int .i64 0), .d (.int .i64 0), .d (.sl true 1 0 []), .d (.sl true 1 0 []), .d (.sl true 1 0 []), .d (.sl true 7 0 []), .d (.sl true 9 0 [])], [.int .i64, .int .i64, .sl 1, .sl 1, .sl 1, .sl 7, .sl 9]⟩ := ⟨Tryd.sizeOf33, Tryd.isAgg33, ⟨_, Tryd.runUnderlying33, rfl, f_cons Tryd.sizeOf3 (f_cons Tryd.sizeOf3 (f_cons Tryd.sizeOf29 (f_cons Tryd.sizeOf29 (f_cons Tryd.sizeOf29 (f_cons Tryd.sizeOf30 (f_cons Tryd.sizeOf31 (f_end)))))))⟩, ⟨_, Tryd.typeInfo33, rfl⟩, by decide, by decide, ⟨_, Tryd.zeroValue33, rfl, fun w C ι => z_cons z_int (z_cons z_int (z_cons z_nil (z_cons z_nil (z_cons z_nil (z_cons z_nil (z_cons z_nil (z_end)))))))⟩⟩
theorem ty30 : TIok Tryd.prog 30 ⟨1, 24, false, (.sl 33), [.d (.sl true 7 0 [])], [.sl 7]⟩ := ⟨Tryd.sizeOf30, Tryd.isAgg30, Tryd.runUnderlying30, ⟨_, Tryd.typeInfo30, rfl⟩, by decide, by decide, ⟨_, Tryd.zeroValue30, rfl, fun w C ι => z_cons z_nil (z_end)⟩⟩
theorem ty31 : TIok Tryd.prog 31 ⟨1, 24, false, (.sl 137), [.d (.sl true 9 0 [])], [.sl 9]⟩ := ⟨Tryd.sizeOf31, Tryd.isAgg31, Tryd.runUnderlying31, ⟨_, Tryd.typeInfo31, rfl⟩, by decide, by decide, ⟨_, Tryd.zeroValue31, rfl, fun w C ι => z_cons z_nil (z_end)⟩⟩
theorem ty137 : TIok Tryd.prog 137 ⟨9, 184, true, (.st [(0, 29), (1, 135), (2, 33)]), [.d (.sl true 1 0 []), .d (.sl true 1 0 []), .d (.int .i64 0), .d (.int .i64 0), .d (.sl true 1 0 []), .d (.sl true 1 0 []), .d (.sl true 1 0 []), .d (.sl true 7 0 []), .d (.sl true 9 0 [])], [.sl 1, .sl 1, .int .i64, .int .i64, .sl 1, .sl 1, .sl 1, .sl 7, .sl 9]⟩ := ⟨Tryd.sizeOf137, Tryd.isAgg137, ⟨_, Tryd.runUnderlying137, rfl, f_cons Tryd.sizeOf29 (f_cons Tryd.sizeOf135 (f_cons Tryd.sizeOf33 (f_end)))⟩, ⟨_, Tryd.typeInfo137, rfl⟩, by decide, by decide, ⟨_, Tryd.zeroValue137, rfl, fun w C ι => z_cons z_nil (z_cons z_nil (z_cons z_int (z_cons z_int (z_cons z_nil (z_cons z_nil (z_cons z_nil (z_cons z_nil (z_cons z_nil (z_end)))))))))⟩⟩
theorem ty135 : TIok Tryd.prog 135 ⟨1, 24, false, (.sl 29), [.d (.sl true 1 0 [])], [.sl 1]⟩ := ⟨Tryd.sizeOf135, Tryd.isAgg135, Tryd.runUnderlying135, ⟨_, Tryd.typeInfo135, rfl⟩, by decide, by decide, ⟨_, Tryd.zeroValue135, rfl, fun w C ι => z_cons z_nil (z_end)⟩⟩
theorem ty39 : TIok Tryd.prog 39 ⟨7, 136, true, (.st [(0, 3), (1, 3), (2, 29), (3, 29), (4, 29), (5, 36), (6, 37)]), [.d (.int .i64 0), .d (.int .i64 0), .d (.sl true 1 0 []), .d (.sl true 1 0 []), .d (.sl true 1 0 []), .d (.sl true 7 0 []), .d (.sl true 9 0 [])], [.int .i64, .int .i64, .sl 1, .sl 1, .sl 1, .sl 7, .sl 9]⟩ := ⟨Tryd.sizeOf39, Tryd.isAgg39, ⟨_, Tryd.runUnderlying39, rfl, f_cons Tryd.sizeOf3 (f_cons Tryd.sizeOf3 (f_cons Tryd.sizeOf29 (f_cons Tryd.sizeOf29 (f_cons Tryd.sizeOf29 (f_cons Tryd.sizeOf36 (f_cons Tryd.sizeOf37 (f_end)))))))⟩, ⟨_, Tryd.typeInfo39, rfl⟩, by decide, by decide, ⟨_, Tryd.zeroValue39, rfl, fun w C ι => z_cons z_int (z_cons z_int (z_cons z_nil (z_cons z_nil (z_cons z_nil (z_cons z_nil (z_cons z_nil (z_end)))))))⟩⟩
theorem ty36 : TIok Tryd.prog 36 ⟨1, 24, false, (.sl 39), [.d (.sl true 7 0 [])], [.sl 7]⟩ := ⟨Tryd.sizeOf36, Tryd.isAgg36, Tryd.runUnderlying36, ⟨_, Tryd.typeInfo36, rfl⟩, by decide, by decide, ⟨_, Tryd.zeroValue36, rfl, fun w C ι => z_cons z_nil (z_end)⟩⟩
theorem ty37 : TIok Tryd.prog 37 ⟨1, 24, false, (.sl 143), [.d (.sl true 9 0 [])], [.sl 9]⟩ := ⟨Tryd.sizeOf37, Tryd.isAgg37, Tryd.runUnderlying37, ⟨_, Tryd.typeInfo37, rfl⟩, by decide, by decide, ⟨_, Tryd.zeroValue37, rfl, fun w C ι => z_cons z_nil (z_end)⟩⟩
theorem ty143 : TIok Tryd.prog 143 ⟨9, 184, true, (.st [(0, 29), (1, 135), (2, 39)]), [.d (.sl true 1 0 []), .d (.sl true 1 0 []), .d (.int .i64 0), .d (.int .i64 0), .d (.sl true 1 0 []), .d (.sl true 1 0 []), .d (.sl true 1 0 []), .d (.sl true 7 0 []), .d (.sl true 9 0 [])], [.sl 1, .sl 1, .int .i64, .int .i64, .sl 1, .sl 1, .sl 1, .sl 7, .sl 9]⟩ := ⟨Tryd.sizeOf143, Tryd.isAgg143, ⟨_, Tryd.runUnderlying143, rfl, f_cons Tryd.sizeOf29 (f_cons Tryd.sizeOf135 (f_cons Tryd.sizeOf39 (f_end)))⟩, ⟨_, Tryd.typeInfo143, rfl⟩, by decide, by decide, ⟨_, Tryd.zeroValue143, rfl, fun w C ι => z_cons z_nil (z_cons z_nil (z_cons z_int (z_cons z_int (z_cons z_nil (z_cons z_nil (z_cons z_nil (z_cons z_nil (z_cons z_nil (z_end)))))))))⟩⟩
theorem ty67 : TIok Tryd.prog 67 ⟨1, 24, false, (.sl 120), [.d (.sl true 4 0 [])], [.sl 4]⟩ := ⟨Tryd.sizeOf67, Tryd.isAgg67, Tryd.runUnderlying67, ⟨_, Tryd.typeInfo67, rfl⟩, by decide, by decide, ⟨_, Tryd.zeroValue67, rfl, fun w C ι => z_cons z_nil (z_end)⟩⟩
theorem ty120 : TIok Tryd.prog 120 ⟨4, 48, true, (.st [(0, 3), (1, 3), (2, 3), (3, 29)]), [.d (.int .i64 0), .d (.int .i64 0), .d (.int .i64 0), .d (.sl true 1 0 [])], [.int .i64, .int .i64, .int .i64, .sl 1]⟩ := ⟨Tryd.sizeOf120, Tryd.isAgg120, ⟨_, Tryd.runUnderlying120, rfl, f_cons Tryd.sizeOf3 (f_cons Tryd.sizeOf3 (f_cons Tryd.sizeOf3 (f_cons Tryd.sizeOf29 (f_end))))⟩, ⟨_, Tryd.typeInfo120, rfl⟩, by decide, by decide, ⟨_, Tryd.zeroValue120, rfl, fun w C ι => z_cons z_int (z_cons z_int (z_cons z_int (z_cons z_nil (z_end))))⟩⟩
theorem ty9 : TIok Tryd.prog 9 ⟨1, 16, false, .str, [.d (.str ⟨#[]⟩)], [.str]⟩ := ⟨Tryd.sizeOf9, Tryd.isAgg9, Tryd.runUnderlying9, ⟨_, Tryd.typeInfo9, rfl⟩, by decide, by decide, ⟨_, Tryd.zeroValue9, rfl, fun w C ι => z_cons z_str (z_end)⟩⟩
theorem ty99 : TIok Tryd.prog 99 ⟨1, 8, false, .other, [.undef], [.undef]⟩ := ⟨Tryd.sizeOf99, Tryd.isAgg99, trivial, ⟨_, Tryd.typeInfo99, rfl⟩, by decide, by decide, ⟨_, Tryd.zeroValue99, rfl, fun w C ι => z_cons z_un (z_end)⟩⟩
theorem ty103 : TIok Tryd.prog 103 ⟨1, 8, false, .other, [.undef], [.undef]⟩ := ⟨Tryd.sizeOf103, Tryd.isAgg103, trivial, ⟨_, Tryd.typeInfo103, rfl⟩, by decide, by decide, ⟨_, Tryd.zeroValue103, rfl, fun w C ι => z_cons z_un (z_end)⟩⟩
theorem ty151 : TIok Tryd.prog 151 ⟨3, 40, true, (.st [(0, 29), (1, 3), (2, 3)]), [.d (.sl true 1 0 []), .d (.int .i64 0), .d (.int .i64 0)], [.sl 1, .int .i64, .int .i64]⟩ := ⟨Tryd.sizeOf151, Tryd.isAgg151, ⟨_, Tryd.runUnderlying151, rfl, f_cons Tryd.sizeOf29 (f_cons Tryd.sizeOf3 (f_cons Tryd.sizeOf3 (f_end)))⟩, ⟨_, Tryd.typeInfo151, rfl⟩, by decide, by decide, ⟨_, Tryd.zeroValue151, rfl, fun w C ι => z_cons z_nil (z_cons z_int (z_cons z_int (z_end)))⟩⟩
theorem ty111 : TIok Tryd.prog 111 ⟨1, 24, false, (.sl 3), [.d (.sl true 1 0 [])], [.sl 1]⟩ := ⟨Tryd.sizeOf111, Tryd.isAgg111, Tryd.runUnderlying111, ⟨_, Tryd.typeInfo111, rfl⟩, by decide, by decide, ⟨_, Tryd.zeroValue111, rfl, fun w C ι => z_cons z_nil (z_end)⟩⟩
theorem ty114 : TIok Tryd.prog 114 ⟨1, 8, false, .other, [.undef], [.undef]⟩ := ⟨Tryd.sizeOf114, Tryd.isAgg114, trivial, ⟨_, Tryd.typeInfo114, rfl⟩, by decide, by decide, ⟨_, Tryd.zeroValue114, rfl, fun w C ι => z_cons z_un (z_end)⟩⟩
theorem ty127 : TIok Tryd.prog 127 ⟨1, 8, false, .other, [.undef], [.undef]⟩ := ⟨Tryd.sizeOf127, Tryd.isAgg127, trivial, ⟨_, Tryd.typeInfo127, rfl⟩, by decide, by decide, ⟨_, Tryd.zeroValue127, rfl, fun w C ι => z_cons z_un (z_end)⟩⟩
theorem ty48 : TIok Tryd.prog 48 ⟨1, 8, false, .other, [.undef], [.undef]⟩ := ⟨Tryd.sizeOf48, Tryd.isAgg48, trivial, ⟨_, Tryd.typeInfo48, rfl⟩, by decide, by decide, ⟨_, Tryd.zeroValue48, rfl, fun w C ι => z_cons z_un (z_end)⟩⟩
theorem ty156 : TIok Tryd.prog 156 ⟨1, 24, false, (.sl 9), [.d (.sl true 1 0 [])], [.sl 1]⟩ := ⟨Tryd.sizeOf156, Tryd.isAgg156, Tryd.runUnderlying156, ⟨_, Tryd.typeInfo156, rfl⟩, by decide, by decide, ⟨_, Tryd.zeroValue156, rfl, fun w C ι => z_cons z_nil (z_end)⟩⟩
theorem ty51 : TIok Tryd.prog 51 ⟨1, 8, false, .other, [.undef], [.undef]⟩ := ⟨Tryd.sizeOf51, Tryd.isAgg51, trivial, ⟨_, Tryd.typeInfo51, rfl⟩, by decide, by decide, ⟨_, Tryd.zeroValue51, rfl, fun w C ι => z_cons z_un (z_end)⟩⟩
theorem ty171 : TIok Tryd.prog 171 ⟨1, 8, false, .other, [.undef], [.undef]⟩ := ⟨Tryd.sizeOf171, Tryd.isAgg171, trivial, ⟨_, Tryd.typeInfo171, rfl⟩, by decide, by decide, ⟨_, Tryd.zeroValue171, rfl, fun w C ι => z_cons z_un (z_end)⟩⟩
theorem ty58 : TIok Tryd.prog 58 ⟨1, 8, false, .other, [.undef], [.undef]⟩ := ⟨Tryd.sizeOf58, Tryd.isAgg58, trivial, ⟨_, Tryd.typeInfo58, rfl⟩, by decide, by decide, ⟨_, Tryd.zeroValue58, rfl, fun w C ι => z_cons z_un (z_end)⟩⟩
theorem ty182 : TIok Tryd.prog 182 ⟨1, 8, false, (.int .u64), [.d (.int .u64 0)], [.int .u64]⟩ := ⟨Tryd.sizeOf182, Tryd.isAgg182, Tryd.runUnderlying182, ⟨_, Tryd.typeInfo182, rfl⟩, by decide, by decide, ⟨_, Tryd.zeroValue182, rfl, fun w C ι => z_cons z_int (z_end)⟩⟩
theorem ty2 : TIok Tryd.prog 2 ⟨1, 8, false, (.int .i64), [.d (.int .i64 0)], [.int .i64]⟩ := ⟨Tryd.sizeOf2, Tryd.isAgg2, Tryd.runUnderlying2, ⟨_, Tryd.typeInfo2, rfl⟩, by decide, by decide, ⟨_, Tryd.zeroValue2, rfl, fun w C ι => z_cons z_int (z_end)⟩⟩
theorem ty185 : TIok Tryd.prog 185 ⟨1, 8, false, (.int .u64), [.d (.int .u64 0)], [.int .u64]⟩ := ⟨Tryd.sizeOf185, Tryd.isAgg185, Tryd.runUnderlying185, ⟨_, Tryd.typeInfo185, rfl⟩, by decide, by decide, ⟨_, Tryd.zeroValue185, rfl, fun w C ι => z_cons z_int (z_end)⟩⟩
theorem ty188 : TIok Tryd.prog 188 ⟨1, 16, false, .other, [.undef], [.undef]⟩ := ⟨Tryd.sizeOf188, Tryd.isAgg188, trivial, ⟨_, Tryd.typeInfo188, rfl⟩, by decide, by decide, ⟨_, Tryd.zeroValue188, rfl, fun w C ι => z_cons z_un (z_end)⟩⟩
theorem ty192 : TIok Tryd.prog 192 ⟨256, 256, true, .other, [.undef, .undef, .undef, .undef, .undef, .undef, .undef, .undef, .undef, .undef, .undef, .undef, .undef, .undef, .undef, .undef, .undef, .undef, .undef, .undef, .undef, .undef, .undef, .undef, .undef, .undef, .undef, .undef, .undef, .undef, .undef, .undef, .undef, .undef, .undef, .undef, .undef, .undef, .undef, .undef, .undef, .undef, .undef, .undef, .undef, .undef, .undef, .undef, .undef, .undef, .undef, .undef, .undef, .undef, .undef, .undef, .undef, .undef, .undef, .undef, .undef, .undef, .undef, .undef, .undef, .undef, .undef, .undef, .undef, .undef, .undef, .undef, .undef, .undef, .undef, .undef, .undef, .undef, .undef, .undef, .undef, .undef, .undef, .undef, .undef, .undef, .undef, .undef, .undef, .undef, .undef, .undef, .undef, .undef, .undef, .undef, .undef, .undef, .undef, .undef, .undef, .undef, .undef, .undef, .undef, .undef, .undef, .undef, .undef, .undef, .undef, .undef, .undef, .undef, .undef, .undef, .undef, .undef, .undef, .undef, .undef, .undef, .undef, .undef, .undef, .undef, .undef, .undef, .undef, .undef, .undef, .undef, .undef, .undef, .undef, .undef, .undef, .undef, .undef, .undef, .undef, .undef, .undef, .undef, .undef, .undef, .undef, .undef, .undef, .undef, .undef, .undef, .undef, .undef, .undef, .undef, .undef, .undef, .undef, .undef, .undef, .undef, .undef, .undef, .undef, .undef, .undef, .undef, .undef, .undef, .undef, .undef, .undef, .undef, .undef, .undef, .undef, .undef, .undef, .undef, .undef, .undef, .undef, .undef, .undef, .undef, .undef, .undef, .undef, .undef, .undef, .undef, .undef, .undef, .undef, .undef, .undef, .undef, .undef, .undef, .undef, .undef, .undef, .undef, .undef, .undef, .undef, .undef, .undef, .undef, .undef, .undef, .undef, .undef, .undef, .undef, .undef, .undef, .undef, .undef, .undef, .undef, .undef, .undef, .undef, .undef, .undef, .undef, .undef, .undef, .undef, .undef, .undef, .undef, .undef, .undef, .undef, .undef, .undef, .undef, .undef, .undef, .undef, .undef, .undef, .undef, .undef, .undef, .undef, .undef, .undef, .undef, .undef, .undef, .undef, .undef], [.undef, .undef, .undef, .undef, .undef, .undef, .undef, .undef, .undef, .undef, .undef, .undef, .undef, .undef, .undef, .undef, .undef, .undef, .undef, .undef, .undef, .undef, .undef, .undef, .undef, .undef, .undef, .undef, .undef, .undef, .undef, .undef, .undef, .undef, .undef, .undef, .undef, .undef, .undef, .undef, .undef, .undef, .undef, .undef, .undef, .undef, .undef, .undef, .undef, .undef, .undef, .undef, .undef, .undef, .undef, .undef, .undef, .undef, .undef, .undef, .undef, .undef, .undef, .undef, .undef, .undef, .undef, .undef, .undef, .undef, .undef, .undef, .undef, .undef, .undef, .undef, .undef, .undef, .undef, .undef, .undef, .undef, .undef, .undef, .undef, .undef, .undef, .undef, .undef, .undef, .undef, .undef, .undef, .undef, .undef, .undef, .undef, .undef, .undef, .undef, .undef, .undef, .undef, .undef, .undef, .undef, .undef, .undef, .undef, .undef, .undef, .undef, .undef, .undef, .undef, .undef, .undef, .undef, .undef, .undef, .undef, .undef, .undef, .undef, .undef, .undef, .undef, .undef, .undef, .undef, .undef, .undef, .undef, .undef, .undef, .undef, .undef, .undef, .undef, .undef, .undef, .undef, .undef, .undef, .undef, .undef, .undef, .undef, .undef, .undef, .undef, .undef, .undef, .undef, .undef, .undef, .undef, .undef, .undef, .undef, .undef, .undef, .undef, .undef, .undef, .undef, .undef, .undef, .undef, .undef, .undef, .undef, .undef, .undef, .undef, .undef, .undef, .undef, .undef, .undef, .undef, .undef, .undef, .undef, .undef, .undef, .undef, .undef, .undef, .undef, .undef, .undef, .undef, .undef, .undef, .undef, .undef, .undef, .undef, .undef, .undef, .undef, .undef, .undef, .undef, .undef, .undef, .undef, .undef, .undef, .undef, .undef, .undef, .undef, .undef, .undef, .undef, .undef, .undef, .undef, .undef, .undef, .undef, .undef, .undef, .undef, .undef, .undef, .undef, .undef, .undef, .undef, .undef, .undef, .undef, .undef, .undef, .undef, .undef, .undef, .undef, .undef, .undef, .undef, .undef, .undef, .undef, .undef, .undef, .undef, .undef, .undef, .undef, .undef, .undef, .undef]⟩ := ⟨Tryd.sizeOf192, Tryd.isAgg192, trivial, ⟨_, Tryd.typeInfo192, rfl⟩, by decide, by decide, ⟨_, Tryd.zeroValue192, rfl, fun w C ι => z_cons z_un (z_cons z_un (z_cons z_un (z_cons z_un (z_cons z_un (z_cons z_un (z_cons z_un (z_cons z_un (z_cons z_un (z_cons z_un (z_cons z_un (z_cons z_un (z_cons z_un (z_cons z_un (z_cons z_un (z_cons z_un (z_cons z_un (z_cons z_un (z_cons z_un (z_cons z_un (z_cons z_un (z_cons z_un (z_cons z_un (z_cons z_un (z_cons z_un (z_cons z_un (z_cons z_un (z_cons z_un (z_cons z_un (z_cons z_un (z_cons z_un (z_cons z_un (z_cons z_un (z_cons z_un (z_cons z_un (z_cons z_un (z_cons z_un (z_cons z_un (z_cons z_un (z_cons z_un (z_cons z_un (z_cons z_un (z_cons z_un (z_cons z_un (z_cons z_un (z_cons z_un (z_cons z_un (z_cons z_un (z_cons z_un (z_cons z_un (z_cons z_un (z_cons z_un (z_cons z_un (z_cons z_un (z_cons z_un (z_cons z_un (z_cons z_un (z_cons z_un (z_cons z_un (z_cons z_un (z_cons z_un (z_cons z_un (z_cons z_un (z_cons z_un (z_cons z_un (z_cons z_un (z_cons z_un (z_cons z_un (z_cons z_un (z_cons z_un (z_cons z_un (z_cons z_un (z_cons z_un (z_cons z_un (z_cons z_un (z_cons z_un (z_cons z_un (z_cons z_un (z_cons z_un (z_cons z_un (z_cons z_un (z_cons z_un (z_cons z_un (z_cons z_un (z_cons z_un (z_cons z_un (z_cons z_un (z_cons z_un (z_cons z_un (z_cons z_un (z_cons z_un (z_cons z_un (z_cons z_un (z_cons z_un (z_cons z_un (z_cons z_un (z_cons z_un (z_cons z_un (z_cons z_un (z_cons z_un (z_cons z_un (z_cons z_un (z_cons z_un (z_cons z_un (z_cons z_un (z_cons z_un (z_cons z_un (z_cons z_un (z_cons z_un (z_cons z_un (z_cons z_un (z_cons z_un (z_cons z_un (z_cons z_un (z_cons z_un (z_cons z_un (z_cons z_un (z_cons z_un (z_cons z_un (z_cons z_un (z_cons z_un (z_cons z_un (z_cons z_un (z_cons z_un (z_cons z_un (z_cons z_un (z_cons z_un (z_cons z_un (z_cons z_un (z_cons z_un (z_cons z_un (z_cons z_un (z_cons z_un (z_cons z_un (z_cons z_un (z_cons z_un (z_cons z_un (z_cons z_un (z_cons z_un (z_cons z_un (z_cons z_un (z_cons z_un (z_cons z_un (z_cons z_un (z_cons z_un (z_cons z_un (z_cons z_un (z_cons z_un (z_cons z_un (z_cons z_un (z_cons z_un (z_cons z_un (z_cons z_un (z_cons z_un (z_cons z_un (z_cons z_un (z_cons z_un (z_cons z_un (z_cons z_un (z_cons z_un (z_cons z_un (z_cons z_un (z_cons z_un (z_cons z_un (z_cons z_un (z_cons z_un (z_cons z_un (z_cons z_un (z_cons z_un (z_cons z_un (z_cons z_un (z_cons z_un (z_cons z_un (z_cons z_un (z_cons z_un (z_cons z_un (z_cons z_un (z_cons z_un (z_cons z_un (z_cons z_un (z_cons z_un (z_cons z_un (z_cons z_un (z_cons z_un (z_cons z_un (z_cons z_un (z_cons z_un (z_cons z_un (z_cons z_un (z_cons z_un (z_cons z_un (z_cons z_un (z_cons z_un (z_cons z_un (z_cons z_un (z_cons z_un (z_cons z_un (z_cons z_un (z_cons z_un (z_cons z_un (z_cons z_un (z_cons z_un (z_cons z_un (z_cons z_un (z_cons z_un (z_cons z_un (z_cons z_un (z_cons z_un (z_cons z_un (z_cons z_un (z_cons z_un (z_cons z_un (z_cons z_un (z_cons z_un (z_cons z_un (z_cons z_un (z_cons z_un (z_cons z_un (z_cons z_un (z_cons z_un (z_cons z_un (z_cons z_un (z_cons z_un (z_cons z_un (z_cons z_un (z_cons z_un (z_cons z_un (z_cons z_un (z_cons z_un (z_cons z_un (z_cons z_un (z_cons z_un (z_cons z_un (z_cons z_un (z_cons z_un (z_cons z_un (z_cons z_un (z_cons z_un (z_cons z_un (z_cons z_un (z_cons z_un (z_cons z_un (z_cons z_un (z_cons z_un (z_cons z_un (z_cons z_un (z_cons z_un (z_cons z_un (z_cons z_un (z_cons z_un (z_cons z_un (z_cons z_un (z_cons z_un (z_cons z_un (z_cons z_un (z_cons z_un (z_end))))))))))))))))))))))))))))))))))))))))))))))))))))))))))))))))))))))))))))))))))))))))))))))))))))))))))))))))))))))))))))))))))))))))))))))))))))))))))))))))))))))))))))))))))))))))))))))))))))))))))))))))))))))))))))))))))))))))))))))))))))))))))))))))⟩⟩
theorem ty194 : TIok Tryd.prog 194 ⟨1, 8, false, .other, [.undef], [.undef]⟩ := ⟨Tryd.sizeOf194, Tryd.isAgg194, trivial, ⟨_, Tryd.typeInfo194, rfl⟩, by decide, by decide, ⟨_, Tryd.zeroValue194, rfl, fun w C ι => z_cons z_un (z_end)⟩⟩
theorem ty197 : TIok Tryd.prog 197 ⟨24, 24, true, .other, [.undef, .undef, .undef, .undef, .undef, .undef, .undef, .undef, .undef, .undef, .undef, .undef, .undef, .undef, .undef, .undef, .undef, .undef, .undef, .undef, .undef, .undef, .undef, .undef], [.undef, .undef, .undef, .undef, .undef, .undef, .undef, .undef, .undef, .undef, .undef, .undef, .undef, .undef, .undef, .undef, .undef, .undef, .undef, .undef, .undef, .undef, .undef, .undef]⟩ := ⟨Tryd.sizeOf197, Tryd.isAgg197, trivial, ⟨_, Tryd.typeInfo197, rfl⟩, by decide, by decide, ⟨_, Tryd.zeroValue197, rfl, fun w C ι => z_cons z_un (z_cons z_un (z_cons z_un (z_cons z_un (z_cons z_un (z_cons z_un (z_cons z_un (z_cons z_un (z_cons z_un (z_cons z_un (z_cons z_un (z_cons z_un (z_cons z_un (z_cons z_un (z_cons z_un (z_cons z_un (z_cons z_un (z_cons z_un (z_cons z_un (z_cons z_un (z_cons z_un (z_cons z_un (z_cons z_un (z_cons z_un (z_end))))))))))))))))))))))))⟩⟩
theorem ty204 : TIok Tryd.prog 204 ⟨1, 24, false, (.sl 206), [.d (.sl true 2 0 [])], [.sl 2]⟩ := ⟨Tryd.sizeOf204, Tryd.isAgg204, Tryd.runUnderlying204, ⟨_, Tryd.typeInfo204, rfl⟩, by decide, by decide, ⟨_, Tryd.zeroValue204, rfl, fun w C ι => z_cons z_nil (z_end)⟩⟩
theorem ty206 : TIok Tryd.prog 206 ⟨2, 16, true, (.st [(0, 3), (1, 3)]), [.d (.int .i64 0), .d (.int .i64 0)], [.int .i64, .int .i64]⟩ := ⟨Tryd.sizeOf206, Tryd.isAgg206, ⟨_, Tryd.runUnderlying206, rfl, f_cons Tryd.sizeOf3 (f_cons Tryd.sizeOf3 (f_end))⟩, ⟨_, Tryd.typeInfo206, rfl⟩, by decide, by decide, ⟨_, Tryd.zeroValue206, rfl, fun w C ι => z_cons z_int (z_cons z_int (z_end))⟩⟩
theorem ty21 : TIok Tryd.prog 21 ⟨1, 4, false, (.int .i32), [.d (.int .i32 0)], [.int .i32]⟩ := ⟨Tryd.sizeOf21, Tryd.isAgg21, Tryd.runUnderlying21, ⟨_, Tryd.typeInfo21, rfl⟩, by decide, by decide, ⟨_, Tryd.zeroValue21, rfl, fun w C ι => z_cons z_int (z_end)⟩⟩
theorem ty207 : TIok Tryd.prog 207 ⟨1, 4, false, (.int .u32), [.d (.int .u32 0)], [.int .u32]⟩ := ⟨Tryd.sizeOf207, Tryd.isAgg207, Tryd.runUnderlying207, ⟨_, Tryd.typeInfo207, rfl⟩, by decide, by decide, ⟨_, Tryd.zeroValue207, rfl, fun w C ι => z_cons z_int (z_end)⟩⟩
theorem ty209 : TIok Tryd.prog 209 ⟨1, 8, false, .other, [.undef], [.undef]⟩ := ⟨Tryd.sizeOf209, Tryd.isAgg209, trivial, ⟨_, Tryd.typeInfo209, rfl⟩, by decide, by decide, ⟨_, Tryd.zeroValue209, rfl, fun w C ι => z_cons z_un (z_end)⟩⟩
theorem ty224 : TIok Tryd.prog 224 ⟨3, 56, true, (.st [(0, 221), (1, 222), (2, 3)]), [.d (.sl true 3 0 []), .d (.sl true 3 0 []), .d (.int .i64 0)], [.sl 3, .sl 3, .int .i64]⟩ := ⟨Tryd.sizeOf224, Tryd.isAgg224, ⟨_, Tryd.runUnderlying224, rfl, f_cons Tryd.sizeOf221 (f_cons Tryd.sizeOf222 (f_cons Tryd.sizeOf3 (f_end)))⟩, ⟨_, Tryd.typeInfo224, rfl⟩, by decide, by decide, ⟨_, Tryd.zeroValue224, rfl, fun w C ι => z_cons z_nil (z_cons z_nil (z_cons z_int (z_end)))⟩⟩
theorem ty221 : TIok Tryd.prog 221 ⟨1, 24, false, (.sl 227), [.d (.sl true 3 0 [])], [.sl 3]⟩ := ⟨Tryd.sizeOf221, Tryd.isAgg221, Tryd.runUnderlying221, ⟨_, Tryd.typeInfo221, rfl⟩, by decide, by decide, ⟨_, Tryd.zeroValue221, rfl, fun w C ι => z_cons z_nil (z_end)⟩⟩
theorem ty227 : TIok Tryd.prog 227 ⟨3, 6, true, (.st [(0, 225), (1, 225), (2, 225)]), [.d (.int .u16 0), .d (.int .u16 0), .d (.int .u16 0)], [.int .u16, .int .u16, .int .u16]⟩ := ⟨Tryd.sizeOf227, Tryd.isAgg227, ⟨_, Tryd.runUnderlying227, rfl, f_cons Tryd.sizeOf225 (f_cons Tryd.sizeOf225 (f_cons Tryd.sizeOf225 (f_end)))⟩, ⟨_, Tryd.typeInfo227, rfl⟩, by decide, by decide, ⟨_, Tryd.zeroValue227, rfl, fun w C ι => z_cons z_int (z_cons z_int (z_cons z_int (z_end)))⟩⟩
theorem ty225 : TIok Tryd.prog 225 ⟨1, 2, false, (.int .u16), [.d (.int .u16 0)], [.int .u16]⟩ := ⟨Tryd.sizeOf225, Tryd.isAgg225, Tryd.runUnderlying225, ⟨_, Tryd.typeInfo225, rfl⟩, by decide, by decide, ⟨_, Tryd.zeroValue225, rfl, fun w C ι => z_cons z_int (z_end)⟩⟩
theorem ty222 : TIok Tryd.prog 222 ⟨1, 24, false, (.sl 230), [.d (.sl true 3 0 [])], [.sl 3]⟩ := ⟨Tryd.sizeOf222, Tryd.isAgg222, Tryd.runUnderlying222, ⟨_, Tryd.typeInfo222, rfl⟩, by decide, by decide, ⟨_, Tryd.zeroValue222, rfl, fun w C ι => z_cons z_nil (z_end)⟩⟩
theorem ty230 : TIok Tryd.prog 230 ⟨3, 12, true, (.st [(0, 207), (1, 207), (2, 207)]), [.d (.int .u32 0), .d (.int .u32 0), .d (.int .u32 0)], [.int .u32, .int .u32, .int .u32]⟩ := ⟨Tryd.sizeOf230, Tryd.isAgg230, ⟨_, Tryd.runUnderlying230, rfl, f_cons Tryd.sizeOf207 (f_cons Tryd.sizeOf207 (f_cons Tryd.sizeOf207 (f_end)))⟩, ⟨_, Tryd.typeInfo230, rfl⟩, by decide, by decide, ⟨_, Tryd.zeroValue230, rfl, fun w C ι => z_cons z_int (z_cons z_int (z_cons z_int (z_end)))⟩⟩
theorem ty212 : TIok Tryd.prog 212 ⟨20, 160, true, .other, [.undef, .undef, .undef, .undef, .undef, .undef, .undef, .undef, .undef, .undef, .undef, .undef, .undef, .undef, .undef, .undef, .undef, .undef, .undef, .undef], [.undef, .undef, .undef, .undef, .undef, .undef, .undef, .undef, .undef, .undef, .undef, .undef, .undef, .undef, .undef, .undef, .undef, .undef, .undef, .undef]⟩ := ⟨Tryd.sizeOf212, Tryd.isAgg212, trivial, ⟨_, Tryd.typeInfo212, rfl⟩, by decide, by decide, ⟨_, Tryd.zeroValue212, rfl, fun w C ι => z_cons z_un (z_cons z_un (z_cons z_un (z_cons z_un (z_cons z_un (z_cons z_un (z_cons z_un (z_cons z_un (z_cons z_un (z_cons z_un (z_cons z_un (z_cons z_un (z_cons z_un (z_cons z_un (z_cons z_un (z_cons z_un (z_cons z_un (z_cons z_un (z_cons z_un (z_cons z_un (z_end))))))))))))))))))))⟩⟩
theorem ty20 : TIok Tryd.prog 20 ⟨1, 16, false, .other, [.undef], [.undef]⟩ := ⟨Tryd.sizeOf20, Tryd.isAgg20, trivial, ⟨_, Tryd.typeInfo20, rfl⟩, by decide, by decide, ⟨_, Tryd.zeroValue20, rfl, fun w C ι => z_cons z_un (z_end)⟩⟩
theorem ty213 : TIok Tryd.prog 213 ⟨65, 65, true, .other, [.undef, .undef, .undef, .undef, .undef, .undef, .undef, .undef, .undef, .undef, .undef, .undef, .undef, .undef, .undef, .undef, .undef, .undef, .undef, .undef, .undef, .undef, .undef, .undef, .undef, .undef, .undef, .undef, .undef, .undef, .undef, .undef, .undef, .undef, .undef, .undef, .undef, .undef, .undef, .undef, .undef, .undef, .undef, .undef, .undef, .undef, .undef, .undef, .undef, .undef, .undef, .undef, .undef, .undef, .undef, .undef, .undef, .undef, .undef, .undef, .undef, .undef, .undef, .undef, .undef], [.undef, .undef, .undef, .undef, .undef, .undef, .undef, .undef, .undef, .undef, .undef, .undef, .undef, .undef, .undef, .undef, .undef, .undef, .undef, .undef, .undef, .undef, .undef, .undef, .undef, .undef, .undef, .undef, .undef, .undef, .undef, .undef, .undef, .undef, .undef, .undef, .undef, .undef, .undef, .undef, .undef, .undef, .undef, .undef, .undef, .undef, .undef, .undef, .undef, .undef, .undef, .undef, .undef, .undef, .undef, .undef, .undef, .undef, .undef, .undef, .undef, .undef, .undef, .undef, .undef]⟩ := ⟨Tryd.sizeOf213, Tryd.isAgg213, trivial, ⟨_, Tryd.typeInfo213, rfl⟩, by decide, by decide, ⟨_, Tryd.zeroValue213, rfl, fun w C ι => z_cons z_un (z_cons z_un (z_cons z_un (z_cons z_un (z_cons z_un (z_cons z_un (z_cons z_un (z_cons z_un (z_cons z_un (z_cons z_un (z_cons z_un (z_cons z_un (z_cons z_un (z_cons z_un (z_cons z_un (z_cons z_un (z_cons z_un (z_cons z_un (z_cons z_un (z_cons z_un (z_cons z_un (z_cons z_un (z_cons z_un (z_cons z_un (z_cons z_un (z_cons z_un (z_cons z_un (z_cons z_un (z_cons z_un (z_cons z_un (z_cons z_un (z_cons z_un (z_cons z_un (z_cons z_un (z_cons z_un (z_cons z_un (z_cons z_un (z_cons z_un (z_cons z_un (z_cons z_un (z_cons z_un (z_cons z_un (z_cons z_un (z_cons z_un (z_cons z_un (z_cons z_un (z_cons z_un (z_cons z_un (z_cons z_un (z_cons z_un (z_cons z_un (z_cons z_un (z_cons z_un (z_cons z_un (z_cons z_un (z_cons z_un (z_cons z_un (z_cons z_un (z_cons z_un (z_cons z_un (z_cons z_un (z_cons z_un (z_cons z_un (z_cons z_un (z_cons z_un (z_end)))))))))))))))))))))))))))))))))))))))))))))))))))))))))))))))))⟩⟩
theorem ty215 : TIok Tryd.prog 215 ⟨1, 8, false, (.int .i64), [.d (.int .i64 0)], [.int .i64]⟩ := ⟨Tryd.sizeOf215, Tryd.isAgg215, Tryd.runUnderlying215, ⟨_, Tryd.typeInfo215, rfl⟩, by decide, by decide, ⟨_, Tryd.zeroValue215, rfl, fun w C ι => z_cons z_int (z_end)⟩⟩
theorem ty218 : TIok Tryd.prog 218 ⟨1, 8, false, .other, [.undef], [.undef]⟩ := ⟨Tryd.sizeOf218, Tryd.isAgg218, trivial, ⟨_, Tryd.typeInfo218, rfl⟩, by decide, by decide, ⟨_, Tryd.zeroValue218, rfl, fun w C ι => z_cons z_un (z_end)⟩⟩
theorem ty237 : TIok Tryd.prog 237 ⟨3, 48, true, (.st [(0, 9), (1, 9), (2, 188)]), [.d (.str ⟨#[]⟩), .d (.str ⟨#[]⟩), .undef], [.str, .str, .undef]⟩ := ⟨Tryd.sizeOf237, Tryd.isAgg237, ⟨_, Tryd.runUnderlying237, rfl, f_cons Tryd.sizeOf9 (f_cons Tryd.sizeOf9 (f_cons Tryd.sizeOf188 (f_end)))⟩, ⟨_, Tryd.typeInfo237, rfl⟩, by decide, by decide, ⟨_, Tryd.zeroValue237, rfl, fun w C ι => z_cons z_str (z_cons z_str (z_cons z_un (z_end)))⟩⟩
theorem ty239 : TIok Tryd.prog 239 ⟨1, 8, false, .other, [.undef], [.undef]⟩ := ⟨Tryd.sizeOf239, Tryd.isAgg239, trivial, ⟨_, Tryd.typeInfo239, rfl⟩, by decide, by decide, ⟨_, Tryd.zeroValue239, rfl, fun w C ι => z_cons z_un (z_end)⟩⟩
theorem ty240 : TIok Tryd.prog 240 ⟨1, 8, false, .other, [.undef], [.undef]⟩ := ⟨Tryd.sizeOf240, Tryd.isAgg240, trivial, ⟨_, Tryd.typeInfo240, rfl⟩, by decide, by decide, ⟨_, Tryd.zeroValue240, rfl, fun w C ι => z_cons z_un (z_end)⟩⟩
theorem ty241 : TIok Tryd.prog 241 ⟨32, 32, true, .other, [.undef, .undef, .undef, .undef, .undef, .undef, .undef, .undef, .undef, .undef, .undef, .undef, .undef, .undef, .undef, .undef, .undef, .undef, .undef, .undef, .undef, .undef, .undef, .undef, .undef, .undef, .undef, .undef, .undef, .undef, .undef, .undef], [.undef, .undef, .undef, .undef, .undef, .undef, .undef, .undef, .undef, .undef, .undef, .undef, .undef, .undef, .undef, .undef, .undef, .undef, .undef, .undef, .undef, .undef, .undef, .undef, .undef, .undef, .undef, .undef, .undef, .undef, .undef, .undef]⟩ := ⟨Tryd.sizeOf241, Tryd.isAgg241, trivial, ⟨_, Tryd.typeInfo241, rfl⟩, by decide, by decide, ⟨_, Tryd.zeroValue241, rfl, fun w C ι => z_cons z_un (z_cons z_un (z_cons z_un (z_cons z_un (z_cons z_un (z_cons z_un (z_cons z_un (z_cons z_un (z_cons z_un (z_cons z_un (z_cons z_un (z_cons z_un (z_cons z_un (z_cons z_un (z_cons z_un (z_cons z_un (z_cons z_un (z_cons z_un (z_cons z_un (z_cons z_un (z_cons z_un (z_cons z_un (z_cons z_un (z_cons z_un (z_cons z_un (z_cons z_un (z_cons z_un (z_cons z_un (z_cons z_un (z_cons z_un (z_cons z_un (z_cons z_un (z_end))))))))))))))))))))))))))))))))⟩⟩
theorem ty242 : TIok Tryd.prog 242 ⟨64, 64, true, .other, [.undef, .undef, .undef, .undef, .undef, .undef, .undef, .undef, .undef, .undef, .undef, .undef, .undef, .undef, .undef, .undef, .undef, .undef, .undef, .undef, .undef, .undef, .undef, .undef, .undef, .undef, .undef, .undef, .undef, .undef, .undef, .undef, .undef, .undef, .undef, .undef, .undef, .undef, .undef, .undef, .undef, .undef, .undef, .undef, .undef, .undef, .undef, .undef, .undef, .undef, .undef, .undef, .undef, .undef, .undef, .undef, .undef, .undef, .undef, .undef, .undef, .undef, .undef, .undef], [.undef, .undef, .undef, .undef, .undef, .undef, .undef, .undef, .undef, .undef, .undef, .undef, .undef, .undef, .undef, .undef, .undef, .undef, .undef, .undef, .undef, .undef, .undef, .undef, .undef, .undef, .undef, .undef, .undef, .undef, .undef, .undef, .undef, .undef, .undef, .undef, .undef, .undef, .undef, .undef, .undef, .undef, .undef, .undef, .undef, .undef, .undef, .undef, .undef, .undef, .undef, .undef, .undef, .undef, .undef, .undef, .undef, .undef, .undef, .undef, .undef, .undef, .undef, .undef]⟩ := ⟨Tryd.sizeOf242, Tryd.isAgg242, trivial, ⟨_, Tryd.typeInfo242, rfl⟩, by decide, by decide, ⟨_, Tryd.zeroValue242, rfl, fun w C ι => z_cons z_un (z_cons z_un (z_cons z_un (z_cons z_un (z_cons z_un (z_cons z_un (z_cons z_un (z_cons z_un (z_cons z_un (z_cons z_un (z_cons z_un (z_cons z_un (z_cons z_un (z_cons z_un (z_cons z_un (z_cons z_un (z_cons z_un (z_cons z_un (z_cons z_un (z_cons z_un (z_cons z_un (z_cons z_un (z_cons z_un (z_cons z_un (z_cons z_un (z_cons z_un (z_cons z_un (z_cons z_un (z_cons z_un (z_cons z_un (z_cons z_un (z_cons z_un (z_cons z_un (z_cons z_un (z_cons z_un (z_cons z_un (z_cons z_un (z_cons z_un (z_cons z_un (z_cons z_un (z_cons z_un (z_cons z_un (z_cons z_un (z_cons z_un (z_cons z_un (z_cons z_un (z_cons z_un (z_cons z_un (z_cons z_un (z_cons z_un (z_cons z_un (z_cons z_un (z_cons z_un (z_cons z_un (z_cons z_un (z_cons z_un (z_cons z_un (z_cons z_un (z_cons z_un (z_cons z_un (z_cons z_un (z_cons z_un (z_cons z_un (z_cons z_un (z_end))))))))))))))))))))))))))))))))))))))))))))))))))))))))))))))))⟩⟩
theorem ty244 : TIok Tryd.prog 244 ⟨1, 8, false, .other, [.undef], [.undef]⟩ := ⟨Tryd.sizeOf244, Tryd.isAgg244, trivial, ⟨_, Tryd.typeInfo244, rfl⟩, by decide, by decide, ⟨_, Tryd.zeroValue244, rfl, fun w C ι => z_cons z_un (z_end)⟩⟩
theorem ty247 : TIok Tryd.prog 247 ⟨1, 16, true, (.st [(0, 9)]), [.d (.str ⟨#[]⟩)], [.str]⟩ := ⟨Tryd.sizeOf247, Tryd.isAgg247, ⟨_, Tryd.runUnderlying247, rfl, f_cons Tryd.sizeOf9 (f_end)⟩, ⟨_, Tryd.typeInfo247, rfl⟩, by decide, by decide, ⟨_, Tryd.zeroValue247, rfl, fun w C ι => z_cons z_str (z_end)⟩⟩
theorem ty245 : TIok Tryd.prog 245 ⟨1, 8, false, .other, [.undef], [.undef]⟩ := ⟨Tryd.sizeOf245, Tryd.isAgg245, trivial, ⟨_, Tryd.typeInfo245, rfl⟩, by decide, by decide, ⟨_, Tryd.zeroValue245, rfl, fun w C ι => z_cons z_un (z_end)⟩⟩
theorem ty8 : TIok Tryd.prog 8 ⟨4, 24, true, (.st [(0, 2), (1, 3), (2, 4), (3, 6)]), [.d (.int .i64 0), .d (.int .i64 0), .d (.bool false), .d (.int .u8 0)], [.int .i64, .int .i64, .bool, .int .u8]⟩ := ⟨Tryd.sizeOf8, Tryd.isAgg8, ⟨_, Tryd.runUnderlying8, rfl, f_cons Tryd.sizeOf2 (f_cons Tryd.sizeOf3 (f_cons Tryd.sizeOf4 (f_cons Tryd.sizeOf6 (f_end))))⟩, ⟨_, Tryd.typeInfo8, rfl⟩, by decide, by decide, ⟨_, Tryd.zeroValue8, rfl, fun w C ι => z_cons z_int (z_cons z_int (z_cons z_bool (z_cons z_int (z_end))))⟩⟩
theorem ty6 : TIok Tryd.prog 6 ⟨1, 1, false, (.int .u8), [.d (.int .u8 0)], [.int .u8]⟩ := ⟨Tryd.sizeOf6, Tryd.isAgg6, Tryd.runUnderlying6, ⟨_, Tryd.typeInfo6, rfl⟩, by decide, by decide, ⟨_, Tryd.zeroValue6, rfl, fun w C ι => z_cons z_int (z_end)⟩⟩
theorem ty10 : TIok Tryd.prog 10 ⟨1, 16, false, .str, [.d (.str ⟨#[]⟩)], [.str]⟩ := ⟨Tryd.sizeOf10, Tryd.isAgg10, Tryd.runUnderlying10, ⟨_, Tryd.typeInfo10, rfl⟩, by decide, by decide, ⟨_, Tryd.zeroValue10, rfl, fun w C ι => z_cons z_str (z_end)⟩⟩
theorem ty11 : TIok Tryd.prog 11 ⟨1, 16, false, .str, [.d (.str ⟨#[]⟩)], [.str]⟩ := ⟨Tryd.sizeOf11, Tryd.isAgg11, Tryd.runUnderlying11, ⟨_, Tryd.typeInfo11, rfl⟩, by decide, by decide, ⟨_, Tryd.zeroValue11, rfl, fun w C ι => z_cons z_str (z_end)⟩⟩
theorem ty14 : TIok Tryd.prog 14 ⟨2, 24, true, (.st [(0, 9), (1, 12)]), [.d (.str ⟨#[]⟩), .d (.int .u64 0)], [.str, .int .u64]⟩ := ⟨Tryd.sizeOf14, Tryd.isAgg14, ⟨_, Tryd.runUnderlying14, rfl, f_cons Tryd.sizeOf9 (f_cons Tryd.sizeOf12 (f_end))⟩, ⟨_, Tryd.typeInfo14, rfl⟩, by decide, by decide, ⟨_, Tryd.zeroValue14, rfl, fun w C ι => z_cons z_str (z_cons z_int (z_end))⟩⟩
theorem ty12 : TIok Tryd.prog 12 ⟨1, 8, false, (.int .u64), [.d (.int .u64 0)], [.int .u64]⟩ := ⟨Tryd.sizeOf12, Tryd.isAgg12, Tryd.runUnderlying12, ⟨_, Tryd.typeInfo12, rfl⟩, by decide, by decide, ⟨_, Tryd.zeroValue12, rfl, fun w C ι => z_cons z_int (z_end)⟩⟩
theorem ty15 : TIok Tryd.prog 15 ⟨1, 8, false, .other, [.undef], [.undef]⟩ := ⟨Tryd.sizeOf15, Tryd.isAgg15, trivial, ⟨_, Tryd.typeInfo15, rfl⟩, by decide, by decide, ⟨_, Tryd.zeroValue15, rfl, fun w C ι => z_cons z_un (z_end)⟩⟩
theorem ty250 : TIok Tryd.prog 250 ⟨4, 40, true, (.st [(0, 17), (1, 17), (2, 17), (3, 9)]), [.undef, .undef, .undef, .d (.str ⟨#[]⟩)], [.undef, .undef, .undef, .str]⟩ := ⟨Tryd.sizeOf250, Tryd.isAgg250, ⟨_, Tryd.runUnderlying250, rfl, f_cons Tryd.sizeOf17 (f_cons Tryd.sizeOf17 (f_cons Tryd.sizeOf17 (f_cons Tryd.sizeOf9 (f_end))))⟩, ⟨_, Tryd.typeInfo250, rfl⟩, by decide, by decide, ⟨_, Tryd.zeroValue250, rfl, fun w C ι => z_cons z_un (z_cons z_un (z_cons z_un (z_cons z_str (z_end))))⟩⟩
theorem ty17 : TIok Tryd.prog 17 ⟨1, 8, false, .other, [.undef], [.undef]⟩ := ⟨Tryd.sizeOf17, Tryd.isAgg17, trivial, ⟨_, Tryd.typeInfo17, rfl⟩, by decide, by decide, ⟨_, Tryd.zeroValue17, rfl, fun w C ι => z_cons z_un (z_end)⟩⟩
theorem ty261 : TIok Tryd.prog 261 ⟨11, 48, true, (.st [(0, 12), (1, 12), (2, 207), (3, 255), (4, 5), (5, 5), (6, 256), (7, 257), (8, 244), (9, 258), (10, 259)]), [.d (.int .u64 0), .d (.int .u64 0), .d (.int .u32 0), .d (.int .u8 0), .d (.int .u8 0), .d (.int .u8 0), .d (.int .u8 0), .undef, .undef, .d (.int .i32 0), .d (.int .i32 0)], [.int .u64, .int .u64, .int .u32, .int .u8, .int .u8, .int .u8, .int .u8, .undef, .undef, .int .i32, .int .i32]⟩ := ⟨Tryd.sizeOf261, Tryd.isAgg261, ⟨_, Tryd.runUnderlying261, rfl, f_cons Tryd.sizeOf12 (f_cons Tryd.sizeOf12 (f_cons Tryd.sizeOf207 (f_cons Tryd.sizeOf255 (f_cons Tryd.sizeOf5 (f_cons Tryd.sizeOf5 (f_cons Tryd.sizeOf256 (f_cons Tryd.sizeOf257 (f_cons Tryd.sizeOf244 (f_cons Tryd.sizeOf258 (f_cons Tryd.sizeOf259 (f_end)))))))))))⟩, ⟨_, Tryd.typeInfo261, rfl⟩, by decide, by decide, ⟨_, Tryd.zeroValue261, rfl, fun w C ι => z_cons z_int (z_cons z_int (z_cons z_int (z_cons z_int (z_cons z_int (z_cons z_int (z_cons z_int (z_cons z_un (z_cons z_un (z_cons z_int (z_cons z_int (z_end)))))))))))⟩⟩
theorem ty255 : TIok Tryd.prog 255 ⟨1, 1, false, (.int .u8), [.d (.int .u8 0)], [.int .u8]⟩ := ⟨Tryd.sizeOf255, Tryd.isAgg255, Tryd.runUnderlying255, ⟨_, Tryd.typeInfo255, rfl⟩, by decide, by decide, ⟨_, Tryd.zeroValue255, rfl, fun w C ι => z_cons z_int (z_end)⟩⟩
theorem ty256 : TIok Tryd.prog 256 ⟨1, 1, false, (.int .u8), [.d (.int .u8 0)], [.int .u8]⟩ := ⟨Tryd.sizeOf256, Tryd.isAgg256, Tryd.runUnderlying256, ⟨_, Tryd.typeInfo256, rfl⟩, by decide, by decide, ⟨_, Tryd.zeroValue256, rfl, fun w C ι => z_cons z_int (z_end)⟩⟩
theorem ty257 : TIok Tryd.prog 257 ⟨1, 8, false, .other, [.undef], [.undef]⟩ := ⟨Tryd.sizeOf257, Tryd.isAgg257, trivial, ⟨_, Tryd.typeInfo257, rfl⟩, by decide, by decide, ⟨_, Tryd.zeroValue257, rfl, fun w C ι => z_cons z_un (z_end)⟩⟩
theorem ty258 : TIok Tryd.prog 258 ⟨1, 4, false, (.int .i32), [.d (.int .i32 0)], [.int .i32]⟩ := ⟨Tryd.sizeOf258, Tryd.isAgg258, Tryd.runUnderlying258, ⟨_, Tryd.typeInfo258, rfl⟩, by decide, by decide, ⟨_, Tryd.zeroValue258, rfl, fun w C ι => z_cons z_int (z_end)⟩⟩
theorem ty259 : TIok Tryd.prog 259 ⟨1, 4, false, (.int .i32), [.d (.int .i32 0)], [.int .i32]⟩ := ⟨Tryd.sizeOf259, Tryd.isAgg259, Tryd.runUnderlying259, ⟨_, Tryd.typeInfo259, rfl⟩, by decide, by decide, ⟨_, Tryd.zeroValue259, rfl, fun w C ι => z_cons z_int (z_end)⟩⟩
theorem ty16 : TIok Tryd.prog 16 ⟨1, 8, false, .other, [.undef], [.undef]⟩ := ⟨Tryd.sizeOf16, Tryd.isAgg16, trivial, ⟨_, Tryd.typeInfo16, rfl⟩, by decide, by decide, ⟨_, Tryd.zeroValue16, rfl, fun w C ι => z_cons z_un (z_end)⟩⟩
theorem ty19 : TIok Tryd.prog 19 ⟨1, 8, true, (.st [(0, 17)]), [.undef], [.undef]⟩ := ⟨Tryd.sizeOf19, Tryd.isAgg19, ⟨_, Tryd.runUnderlying19, rfl, f_cons Tryd.sizeOf17 (f_end)⟩, ⟨_, Tryd.typeInfo19, rfl⟩, by decide, by decide, ⟨_, Tryd.zeroValue19, rfl, fun w C ι => z_cons z_un (z_end)⟩⟩
theorem fn3 : FnOk Tryd.prog 3 I3 := .text rfl Tryd.call3 Tryd.func3 (by kernel_rfl) (by kernel_rfl) (by kernel_rfl)
theorem fn8 : FnOk Tryd.prog 8 I8 := .text rfl Tryd.call8 Tryd.func8 (by kernel_rfl) (by kernel_rfl) (by kernel_rfl)
theorem fn9 : FnOk Tryd.prog 9 I9 := .text rfl Tryd.call9 Tryd.func9 (by kernel_rfl) (by kernel_rfl) (by kernel_rfl)
theorem fn10 : FnOk Tryd.prog 10 I10 := .text rfl Tryd.call10 Tryd.func10 (by kernel_rfl) (by kernel_rfl) (by kernel_rfl)
theorem fn11 : FnOk Tryd.prog 11 I11 := .text rfl Tryd.call11 Tryd.func11 (by kernel_rfl) (by kernel_rfl) (by kernel_rfl)
theorem fn12 : FnOk Tryd.prog 12 I12 := .text rfl Tryd.call12 Tryd.func12 (by kernel_rfl) (by kernel_rfl) (by kernel_rfl)
theorem fn20 : FnOk Tryd.prog 20 I20 := .text rfl Tryd.call20 Tryd.func20 (by kernel_rfl) (by kernel_rfl) (by kernel_rfl)
theorem fn24 : FnOk Tryd.prog 24 I24 := .text rfl Tryd.call24 Tryd.func24 (by kernel_rfl) (by kernel_rfl) (by kernel_rfl)
theorem fn30 : FnOk Tryd.prog 30 I30 := .text rfl Tryd.call30 Tryd.func30 (by kernel_rfl) (by kernel_rfl) (by kernel_rfl)
theorem fn32 : FnOk Tryd.prog 32 I32 := .text rfl Tryd.call32 Tryd.func32 (by kernel_rfl) (by kernel_rfl) (by kernel_rfl)
theorem fn33 : FnOk Tryd.prog 33 I33 := .text rfl Tryd.call33 Tryd.func33 (by kernel_rfl) (by kernel_rfl) (by kernel_rfl)
theorem fn34 : FnOk Tryd.prog 34 I34 := .text rfl Tryd.call34 Tryd.func34 (by kernel_rfl) (by kernel_rfl) (by kernel_rfl)
theorem fn39 : FnOk Tryd.prog 39 I39 := .text rfl Tryd.call39 Tryd.func39 (by kernel_rfl) (by kernel_rfl) (by kernel_rfl)
theorem fn44 : FnOk Tryd.prog 44 I44 := .text rfl Tryd.call44 Tryd.func44 (by kernel_rfl) (by kernel_rfl) (by kernel_rfl)
theorem fn45 : FnOk Tryd.prog 45 I45 := .text rfl Tryd.call45 Tryd.func45 (by kernel_rfl) (by kernel_rfl) (by kernel_rfl)
theorem fn46 : FnOk Tryd.prog 46 I46 := .text rfl Tryd.call46 Tryd.func46 (by kernel_rfl) (by kernel_rfl) (by kernel_rfl)
theorem fn47 : FnOk Tryd.prog 47 I47 := .text rfl Tryd.call47 Tryd.func47 (by kernel_rfl) (by kernel_rfl) (by kernel_rfl)
theorem fn48 : FnOk Tryd.prog 48 I48 := .text rfl Tryd.call48 Tryd.func48 (by kernel_rfl) (by kernel_rfl) (by kernel_rfl)
theorem fn49 : FnOk Tryd.prog 49 I49 := .text rfl Tryd.call49 Tryd.func49 (by kernel_rfl) (by kernel_rfl) (by kernel_rfl)
theorem fn50 : FnOk Tryd.prog 50 I50 := .text rfl Tryd.call50 Tryd.func50 (by kernel_rfl) (by kernel_rfl) (by kernel_rfl)
theorem fn51 : FnOk Tryd.prog 51 I51 := .text rfl Tryd.call51 Tryd.func51 (by kernel_rfl) (by kernel_rfl) (by kernel_rfl)
theorem fn52 : FnOk Tryd.prog 52 I52 := .text rfl Tryd.call52 Tryd.func52 (by kernel_rfl) (by kernel_rfl) (by kernel_rfl)
theorem fn53 : FnOk Tryd.prog 53 I53 := .text rfl Tryd.call53 Tryd.func53 (by kernel_rfl) (by kernel_rfl) (by kernel_rfl)
theorem fn54 : FnOk Tryd.prog 54 I54 := .text rfl Tryd.call54 Tryd.func54 (by kernel_rfl) (by kernel_rfl) (by kernel_rfl)
theorem fn55 : FnOk Tryd.prog 55 I55 := .text rfl Tryd.call55 Tryd.func55 (by kernel_rfl) (by kernel_rfl) (by kernel_rfl)
theorem fn56 : FnOk Tryd.prog 56 I56 := .text rfl Tryd.call56 Tryd.func56 (by kernel_rfl) (by kernel_rfl) (by kernel_rfl)
theorem fn57 : FnOk Tryd.prog 57 I57 := .text rfl Tryd.call57 Tryd.func57 (by kernel_rfl) (by kernel_rfl) (by kernel_rfl)
theorem fn69 : FnOk Tryd.prog 69 I69 := .text rfl Tryd.call69 Tryd.func69 (by kernel_rfl) (by kernel_rfl) (by kernel_rfl)
theorem fn71 : FnOk Tryd.prog 71 I71 := .text rfl Tryd.call71 Tryd.func71 (by kernel_rfl) (by kernel_rfl) (by kernel_rfl)
theorem fn83 : FnOk Tryd.prog 83 I83 := .text rfl Tryd.call83 Tryd.func83 (by kernel_rfl) (by kernel_rfl) (by kernel_rfl)
theorem fn85 : FnOk Tryd.prog 85 I85 := .text rfl Tryd.call85 Tryd.func85 (by kernel_rfl) (by kernel_rfl) (by kernel_rfl)
theorem fn86 : FnOk Tryd.prog 86 I86 := .text rfl Tryd.call86 Tryd.func86 (by kernel_rfl) (by kernel_rfl) (by kernel_rfl)
theorem fn90 : FnOk Tryd.prog 90 I90 := .text rfl Tryd.call90 Tryd.func90 (by kernel_rfl) (by kernel_rfl) (by kernel_rfl)
theorem fn94 : FnOk Tryd.prog 94 I94 := .text rfl Tryd.call94 Tryd.func94 (by kernel_rfl) (by kernel_rfl) (by kernel_rfl)
theorem fn95 : FnOk Tryd.prog 95 I95 := .text rfl Tryd.call95 Tryd.func95 (by kernel_rfl) (by kernel_rfl) (by kernel_rfl)
theorem fn96 : FnOk Tryd.prog 96 I96 := .text rfl Tryd.call96 Tryd.func96 (by kernel_rfl) (by kernel_rfl) (by kernel_rfl)
theorem fn97 : FnOk Tryd.prog 97 I97 := .text rfl Tryd.call97 Tryd.func97 (by kernel_rfl) (by kernel_rfl) (by kernel_rfl)
theorem fn98 : FnOk Tryd.prog 98 I98 := .text rfl Tryd.call98 Tryd.func98 (by kernel_rfl) (by kernel_rfl) (by kernel_rfl)
theorem fn99 : FnOk Tryd.prog 99 I99 := .text rfl Tryd.call99 Tryd.func99 (by kernel_rfl) (by kernel_rfl) (by kernel_rfl)
theorem fn100 : FnOk Tryd.prog 100 I100 := .text rfl Tryd.call100 Tryd.func100 (by kernel_rfl) (by kernel_rfl) (by kernel_rfl)
theorem fn101 : FnOk Tryd.prog 101 I101 := .text rfl Tryd.call101 Tryd.func101 (by kernel_rfl) (by kernel_rfl) (by kernel_rfl)
theorem fn102 : FnOk Tryd.prog 102 I102 := .text rfl Tryd.call102 Tryd.func102 (by kernel_rfl) (by kernel_rfl) (by kernel_rfl)
theorem fn103 : FnOk Tryd.prog 103 I103 := .text rfl Tryd.call103 Tryd.func103 (by kernel_rfl) (by kernel_rfl) (by kernel_rfl)
theorem fn104 : FnOk Tryd.prog 104 I104 := .text rfl Tryd.call104 Tryd.func104 (by kernel_rfl) (by kernel_rfl) (by kernel_rfl)
theorem fn105 : FnOk Tryd.prog 105 I105 := .text rfl Tryd.call105 Tryd.func105 (by kernel_rfl) (by kernel_rfl) (by kernel_rfl)
theorem fn106 : FnOk Tryd.prog 106 I106 := .text rfl Tryd.call106 Tryd.func106 (by kernel_rfl) (by kernel_rfl) (by kernel_rfl)
theorem fn107 : FnOk Tryd.prog 107 I107 := .text rfl Tryd.call107 Tryd.func107 (by kernel_rfl) (by kernel_rfl) (by kernel_rfl)
theorem fn108 : FnOk Tryd.prog 108 I108 := .text rfl Tryd.call108 Tryd.func108 (by kernel_rfl) (by kernel_rfl) (by kernel_rfl)
theorem fn109 : FnOk Tryd.prog 109 I109 := .text rfl Tryd.call109 Tryd.func109 (by kernel_rfl) (by kernel_rfl) (by kernel_rfl)
theorem fn121 : FnOk Tryd.prog 121 I121 := .text rfl Tryd.call121 Tryd.func121 (by kernel_rfl) (by kernel_rfl) (by kernel_rfl)
theorem fn123 : FnOk Tryd.prog 123 I123 := .text rfl Tryd.call123 Tryd.func123 (by kernel_rfl) (by kernel_rfl) (by kernel_rfl)
theorem fn134 : FnOk Tryd.prog 134 I134 := .text rfl Tryd.call134 Tryd.func134 (by kernel_rfl) (by kernel_rfl) (by kernel_rfl)
theorem fn135 : FnOk Tryd.prog 135 I135 := .text rfl Tryd.call135 Tryd.func135 (by kernel_rfl) (by kernel_rfl) (by kernel_rfl)
theorem fn136 : FnOk Tryd.prog 136 I136 := .text rfl Tryd.call136 Tryd.func136 (by kernel_rfl) (by kernel_rfl) (by kernel_rfl)
theorem fn137 : FnOk Tryd.prog 137 I137 := .text rfl Tryd.call137 Tryd.func137 (by kernel_rfl) (by kernel_rfl) (by kernel_rfl)
theorem fn138 : FnOk Tryd.prog 138 I138 := .text rfl Tryd.call138 Tryd.func138 (by kernel_rfl) (by kernel_rfl) (by kernel_rfl)
theorem fn139 : FnOk Tryd.prog 139 I139 := .known rfl Tryd.call139 con139
theorem fn140 : FnOk Tryd.prog 140 I140 := .text rfl Tryd.call140 Tryd.func140 (by kernel_rfl) (by kernel_rfl) (by kernel_rfl)
theorem fn141 : FnOk Tryd.prog 141 I141 := .text rfl Tryd.call141 Tryd.func141 (by kernel_rfl) (by kernel_rfl) (by kernel_rfl)
theorem fn142 : FnOk Tryd.prog 142 I142 := .text rfl Tryd.call142 Tryd.func142 (by kernel_rfl) (by kernel_rfl) (by kernel_rfl)
theorem fn143 : FnOk Tryd.prog 143 I143 := .text rfl Tryd.call143 Tryd.func143 (by kernel_rfl) (by kernel_rfl) (by kernel_rfl)
theorem fn144 : FnOk Tryd.prog 144 I144 := .text rfl Tryd.call144 Tryd.func144 (by kernel_rfl) (by kernel_rfl) (by kernel_rfl)
theorem fn145 : FnOk Tryd.prog 145 I145 := .text rfl Tryd.call145 Tryd.func145 (by kernel_rfl) (by kernel_rfl) (by kernel_rfl)
theorem fn146 : FnOk Tryd.prog 146 I146 := .text rfl Tryd.call146 Tryd.func146 (by kernel_rfl) (by kernel_rfl) (by kernel_rfl)
theorem fn164 : FnOk Tryd.prog 164 I164 := .text rfl Tryd.call164 Tryd.func164 (by kernel_rfl) (by kernel_rfl) (by kernel_rfl)
theorem cxOk : CxOk Tryd.prog cx := cxOk_of ⟨ty4, ty3, ty22, ty76, ty29, ty5, ty74, ty165, ty59, ty61, ty25, ty79, ty77, ty82, ty43, ty45, ty33, ty30, ty31, ty137, ty135, ty39, ty36, ty37, ty143, ty67, ty120, ty9, ty99, ty103, ty151, ty111, ty114, ty127, ty48, ty156, ty51, ty171, ty58, ty182, ty2, ty185, ty188, ty192, ty194, ty197, ty204, ty206, ty21, ty207, ty209, ty224, ty221, ty227, ty225, ty222, ty230, ty212, ty20, ty213, ty215, ty218, ty237, ty239, ty240, ty241, ty242, ty244, ty247, ty245, ty8, ty6, ty10, ty11, ty14, ty12, ty15, ty250, ty17, ty261, ty255, ty256, ty257, ty258, ty259, ty16, ty19, trivial⟩ ⟨fn3, fn8, fn9, fn10, fn11, fn12, fn20, fn24, fn30, fn32, fn33, fn34, fn39, fn44, fn45, fn46, fn47, fn48, fn49, fn50, fn51, fn52, fn53, fn54, fn55, fn56, fn57, fn69, fn71, fn83, fn85, fn86, fn90, fn94, fn95, fn96, fn97, fn98, fn99, fn100, fn101, fn102, fn103, fn104, fn105, fn106, fn107, fn108, fn109, fn121, fn123, fn134, fn135, fn136, fn137, fn138, fn139, fn140, fn141, fn142, fn143, fn144, fn145, fn146, fn164, trivial⟩ (by kernel_rfl)
end Go.Ev.Q
