/- The equations of the functions that a law reaches, printed out of the translation by a program of this session; Lean checks each. -/
import Derived.Test.YtkgabahlbmonfaaDoorEvDat
import Derived.Test.YtkgabahlbmonfaaDoorKn
import Derived.KernelRfl
import Derived.Test.YtkgabahlbmonfaaDoorProg
open Go Go.Ev Go.Proofs
set_option maxRecDepth 100000
set_option linter.unusedVariables false
namespace Go.Ev.Q
noncomputable def tyL : List (Nat × TI) := [(4, ⟨1, 1, false, .bool, [.d (.bool false)], [.bool]⟩),
  (3, ⟨1, 8, false, (.int .i64), [.d (.int .i64 0)], [.int .i64]⟩),
  (22, ⟨1, 24, false, (.sl 76), [.d (.sl true 3 0 [])], [.sl 3]⟩),
  (76, ⟨3, 56, true, (.st [(0, 29), (1, 3), (2, 74)]), [.d (.sl true 1 0 []), .d (.int .i64 0), .d (.sl true 2 0 [])], [.sl 1, .int .i64, .sl 2]⟩),
  (29, ⟨1, 24, false, (.sl 5), [.d (.sl true 1 0 [])], [.sl 1]⟩),
  (5, ⟨1, 1, false, (.int .u8), [.d (.int .u8 0)], [.int .u8]⟩),
  (74, ⟨1, 24, false, (.sl 165), [.d (.sl true 2 0 [])], [.sl 2]⟩),
  (165, ⟨2, 48, true, (.st [(0, 29), (1, 59)]), [.d (.sl true 1 0 []), .d (.sl true 3 0 [])], [.sl 1, .sl 3]⟩),
  (59, ⟨1, 24, false, (.sl 61), [.d (.sl true 3 0 [])], [.sl 3]⟩),
  (61, ⟨3, 40, true, (.st [(0, 3), (1, 3), (2, 59)]), [.d (.int .i64 0), .d (.int .i64 0), .d (.sl true 3 0 [])], [.int .i64, .int .i64, .sl 3]⟩),
  (25, ⟨1, 24, false, (.sl 79), [.d (.sl true 3 0 [])], [.sl 3]⟩),
  (79, ⟨3, 56, true, (.st [(0, 29), (1, 3), (2, 77)]), [.d (.sl true 1 0 []), .d (.int .i64 0), .d (.sl true 2 0 [])], [.sl 1, .int .i64, .sl 2]⟩),
  (77, ⟨1, 24, false, (.sl 82), [.d (.sl true 2 0 [])], [.sl 2]⟩),
  (82, ⟨2, 48, true, (.st [(0, 29), (1, 43)]), [.d (.sl true 1 0 []), .d (.sl true 3 0 [])], [.sl 1, .sl 3]⟩),
  (43, ⟨1, 24, false, (.sl 45), [.d (.sl true 3 0 [])], [.sl 3]⟩),
  (45, ⟨3, 40, true, (.st [(0, 3), (1, 3), (2, 43)]), [.d (.int .i64 0), .d (.int .i64 0), .d (.sl true 3 0 [])], [.int .i64, .int .i64, .sl 3]⟩),
  (33, ⟨7, 136, true, (.st [(0, 3), (1, 3), (2, 29), (3, 29), (4, 29), (5, 30), (6, 31)]), [.d (.int .i64 0), .d (.int .i64 0), .d (.sl true 1 0 []), .d (.sl true 1 0 []), .d (.sl true 1 0 []), .d (.sl true 7 0 []), .d (.sl true 9 0 [])], [.int .i64, .int .i64, .sl 1, .sl 1, .sl 1, .sl 7, .sl 9]⟩),
  (30, ⟨1, 24, false, (.sl 33), [.d (.sl true 7 0 [])], [.sl 7]⟩),
  (31, ⟨1, 24, false, (.sl 137), [.d (.sl true 9 0 [])], [.sl 9]⟩),
  (137, ⟨9, 184, true, (.st [(0, 29), (1, 135), (2, 33)]), [.d (.sl true 1 0 []), .d (.sl true 1 0 []), .d (.int .i64 0), .d (.int .i64 0), .d (.sl true 1 0 []), .d (.sl true 1 0 []), .d (.sl true 1 0 []), .d (.sl true 7 0 []), .d (.sl true 9 0 [])], [.sl 1, .sl 1, .int .i64, .int .i64, .sl 1, .sl 1, .sl 1, .sl 7, .sl 9]⟩),
  (135, ⟨1, 24, false, (.sl 29), [.d (.sl true 1 0 [])], [.sl 1]⟩),
  (39, ⟨7, 136, true, (.st [(0, 3), (1, 3), (2, 29), (3, 29), (4, 29), (5, 36), (6, 37)]), [.d (.int .i64 0), .d (.int .i64 0), .d (.sl true 1 0 []), .d (.sl true 1 0 []), .d (.sl true 1 0 []), .d (.sl true 7 0 []), .d (.sl true 9 0 [])], [.int .i64, .int .i64, .sl 1, .sl 1, .sl 1, .sl 7, .sl 9]⟩),
  (36, ⟨1, 24, false, (.sl 39), [.d (.sl true 7 0 [])], [.sl 7]⟩),
  (37, ⟨1, 24, false, (.sl 143), [.d (.sl true 9 0 [])], [.sl 9]⟩),
  (143, ⟨9, 184, true, (.st [(0, 29), (1, 135), (2, 39)]), [.d (.sl true 1 0 []), .d (.sl true 1 0 []), .d (.int .i64 0), .d (.int .i64 0), .d (.sl true 1 0 []), .d (.sl true 1 0 []), .d (.sl true 1 0 []), .d (.sl true 7 0 []), .d (.sl true 9 0 [])], [.sl 1, .sl 1, .int .i64, .int .i64, .sl 1, .sl 1, .sl 1, .sl 7, .sl 9]⟩),
  (67, ⟨1, 24, false, (.sl 120), [.d (.sl true 4 0 [])], [.sl 4]⟩),
  (120, ⟨4, 48, true, (.st [(0, 3), (1, 3), (2, 3), (3, 29)]), [.d (.int .i64 0), .d (.int .i64 0), .d (.int .i64 0), .d (.sl true 1 0 [])], [.int .i64, .int .i64, .int .i64, .sl 1]⟩),
  (9, ⟨1, 16, false, .str, [.d (.str ⟨#[]⟩)], [.str]⟩),
  (99, ⟨1, 8, false, .other, [.undef], [.undef]⟩),
  (103, ⟨1, 8, false, .other, [.undef], [.undef]⟩),
  (151, ⟨3, 40, true, (.st [(0, 29), (1, 3), (2, 3)]), [.d (.sl true 1 0 []), .d (.int .i64 0), .d (.int .i64 0)], [.sl 1, .int .i64, .int .i64]⟩),
  (111, ⟨1, 24, false, (.sl 3), [.d (.sl true 1 0 [])], [.sl 1]⟩),
  (114, ⟨1, 8, false, .other, [.undef], [.undef]⟩),
  (127, ⟨1, 8, false, .other, [.undef], [.undef]⟩),
  (48, ⟨1, 8, false, .other, [.undef], [.undef]⟩),
  (156, ⟨1, 24, false, (.sl 9), [.d (.sl true 1 0 [])], [.sl 1]⟩),
  (51, ⟨1, 8, false, .other, [.undef], [.undef]⟩),
  (171, ⟨1, 8, false, .other, [.undef], [.undef]⟩),
  (58, ⟨1, 8, false, .other, [.undef], [.undef]⟩),
  (182, ⟨1, 8, false, (.int .u64), [.d (.int .u64 0)], [.int .u64]⟩),
  (2, ⟨1, 8, false, (.int .i64), [.d (.int .i64 0)], [.int .i64]⟩),
  (185, ⟨1, 8, false, (.int .u64), [.d (.int .u64 0)], [.int .u64]⟩),
  (188, ⟨1, 16, false, .other, [.undef], [.undef]⟩),
  (192, ⟨256, 256, true, .other, [.undef, .undef, .undef, .undef, .undef, .undef, .undef, .undef, .undef, .undef, .undef, .undef, .undef, .undef, .undef, .undef, .undef, .undef, .undef, .undef, .undef, .undef, .undef, .undef, .undef, .undef, .undef, .undef, .undef, .undef, .undef, .undef, .undef, .undef, .undef, .undef, .undef, .undef, .undef, .undef, .undef, .undef, .undef, .undef, .undef, .undef, .undef, .undef, .undef, .undef, .undef, .undef, .undef, .undef, .undef, .undef, .undef, .undef, .undef, .undef, .undef, .undef, .undef, .undef, .undef, .undef, .undef, .undef, .undef, .undef, .undef, .undef, .undef, .undef, .undef, .undef, .undef, .undef, .undef, .undef, .undef, .undef, .undef, .undef, .undef, .undef, .undef, .undef, .undef, .undef, .undef, .undef, .undef, .undef, .undef, .undef, .undef, .undef, .undef, .undef, .undef, .undef, .undef, .undef, .undef, .undef, .undef, .undef, .undef, .undef, .undef, .undef, .undef, .undef, .undef, .undef, .undef, .undef, .undef, .undef, .undef, .undef, .undef, .undef, .undef, .undef, .undef, .undef, .undef, .undef, .undef, .undef, .undef, .undef, .undef, .undef, .undef, .undef, .undef, .undef, .undef, .undef, .undef, .undef, .undef, .undef, .undef, .undef, .undef, .undef, .undef, .undef, .undef, .undef, .undef, .undef, .undef, .undef, .undef, .undef, .undef, .undef, .undef, .undef, .undef, .undef, .undef, .undef, .undef, .undef, .undef, .undef, .undef, .undef, .undef, .undef, .undef, .undef, .undef, .undef, .undef, .undef, .undef, .undef, .undef, .undef, .undef, .undef, .undef, .undef, .undef, .undef, .undef, .undef, .undef, .undef, .undef, .undef, .undef, .undef, .undef, .undef, .undef, .undef, .undef, .undef, .undef, .undef, .undef, .undef, .undef, .undef, .undef, .undef, .undef, .undef, .undef, .undef, .undef, .undef, .undef, .undef, .undef, .undef, .undef, .undef, .undef, .undef, .undef, .undef, .undef, .undef, .undef, .undef, .undef, .undef, .undef, .undef, .undef, .undef, .undef, .undef, .undef, .undef, .undef, .undef, .undef, .undef, .undef, .undef, .undef, .undef, .undef, .undef, .undef, .undef], [.undef, .undef, .undef, .undef, .undef, .undef, .undef, .undef, .undef, .undef, .undef, .undef, .undef, .undef, .undef, .undef, .undef, .undef, .undef, .undef, .undef, .undef, .undef, .undef, .undef, .undef, .undef, .undef, .undef, .undef, .undef, .undef, .undef, .undef, .undef, .undef, .undef, .undef, .undef, .undef, .undef, .undef, .undef, .undef, .undef, .undef, .undef, .undef, .undef, .undef, .undef, .undef, .undef, .undef, .undef, .undef, .undef, .undef, .undef, .undef, .undef, .undef, .undef, .undef, .undef, .undef, .undef, .undef, .undef, .undef, .undef, .undef, .undef, .undef, .undef, .undef, .undef, .undef, .undef, .undef, .undef, .undef, .undef, .undef, .undef, .undef, .undef, .undef, .undef, .undef, .undef, .undef, .undef, .undef, .undef, .undef, .undef, .undef, .undef, .undef, .undef, .undef, .undef, .undef, .undef, .undef, .undef, .undef, .undef, .undef, .undef, .undef, .undef, .undef, .undef, .undef, .undef, .undef, .undef, .undef, .undef, .undef, .undef, .undef, .undef, .undef, .undef, .undef, .undef, .undef, .undef, .undef, .undef, .undef, .undef, .undef, .undef, .undef, .undef, .undef, .undef, .undef, .undef, .undef, .undef, .undef, .undef, .undef, .undef, .undef, .undef, .undef, .undef, .undef, .undef, .undef, .undef, .undef, .undef, .undef, .undef, .undef, .undef, .undef, .undef, .undef, .undef, .undef, .undef, .undef, .undef, .undef, .undef, .undef, .undef, .undef, .undef, .undef, .undef, .undef, .undef, .undef, .undef, .undef, .undef, .undef, .undef, .undef, .undef, .undef, .undef, .undef, .undef, .undef, .undef, .undef, .undef, .undef, .undef, .undef, .undef, .undef, .undef, .undef, .undef, .undef, .undef, .undef, .undef, .undef, .undef, .undef, .undef, .undef, .undef, .undef, .undef, .undef, .undef, .undef, .undef, .undef, .undef, .undef, .undef, .undef, .undef, .undef, .undef, .undef, .undef, .undef, .undef, .undef, .undef, .undef, .undef, .undef, .undef, .undef, .undef, .undef, .undef, .undef, .undef, .undef, .undef, .undef, .undef, .undef, .undef, .undef, .undef, .undef, .undef, .undef]⟩),
  (194, ⟨1, 8, false, .other, [.undef], [.undef]⟩),
  (197, ⟨24, 24, true, .other, [.undef, .undef, .undef, .undef, .undef, .undef, .undef, .undef, .undef, .undef, .undef, .undef, .undef, .undef, .undef, .undef, .undef, .undef, .undef, .undef, .undef, .undef, .undef, .undef], [.undef, .undef, .undef, .undef, .undef, .undef, .undef, .undef, .undef, .undef, .undef, .undef, .undef, .undef, .undef, .undef, .undef, .undef, .undef, .undef, .undef, .undef, .undef, .undef]⟩),
  (204, ⟨1, 24, false, (.sl 206), [.d (.sl true 2 0 [])], [.sl 2]⟩),
  (206, ⟨2, 16, true, (.st [(0, 3), (1, 3)]), [.d (.int .i64 0), .d (.int .i64 0)], [.int .i64, .int .i64]⟩),
  (21, ⟨1, 4, false, (.int .i32), [.d (.int .i32 0)], [.int .i32]⟩),
  (207, ⟨1, 4, false, (.int .u32), [.d (.int .u32 0)], [.int .u32]⟩),
  (209, ⟨1, 8, false, .other, [.undef], [.undef]⟩),
  (224, ⟨3, 56, true, (.st [(0, 221), (1, 222), (2, 3)]), [.d (.sl true 3 0 []), .d (.sl true 3 0 []), .d (.int .i64 0)], [.sl 3, .sl 3, .int .i64]⟩),
  (221, ⟨1, 24, false, (.sl 227), [.d (.sl true 3 0 [])], [.sl 3]⟩),
  (227, ⟨3, 6, true, (.st [(0, 225), (1, 225), (2, 225)]), [.d (.int .u16 0), .d (.int .u16 0), .d (.int .u16 0)], [.int .u16, .int .u16, .int .u16]⟩),
  (225, ⟨1, 2, false, (.int .u16), [.d (.int .u16 0)], [.int .u16]⟩),
  (222, ⟨1, 24, false, (.sl 230), [.d (.sl true 3 0 [])], [.sl 3]⟩),
  (230, ⟨3, 12, true, (.st [(0, 207), (1, 207), (2, 207)]), [.d (.int .u32 0), .d (.int .u32 0), .d (.int .u32 0)], [.int .u32, .int .u32, .int .u32]⟩),
  (212, ⟨20, 160, true, .other, [.undef, .undef, .undef, .undef, .undef, .undef, .undef, .undef, .undef, .undef, .undef, .undef, .undef, .undef, .undef, .undef, .undef, .undef, .undef, .undef], [.undef, .undef, .undef, .undef, .undef, .undef, .undef, .undef, .undef, .undef, .undef, .undef, .undef, .undef, .undef, .undef, .undef, .undef, .undef, .undef]⟩),
  (20, ⟨1, 16, false, .other, [.undef], [.undef]⟩),
  (213, ⟨65, 65, true, .other, [.undef, .undef, .undef, .undef, .undef, .undef, .undef, .undef, .undef, .undef, .undef, .undef, .undef, .undef, .undef, .undef, .undef, .undef, .undef, .undef, .undef, .undef, .undef, .undef, .undef, .undef, .undef, .undef, .undef, .undef, .undef, .undef, .undef, .undef, .undef, .undef, .undef, .undef, .undef, .undef, .undef, .undef, .undef, .undef, .undef, .undef, .undef, .undef, .undef, .undef, .undef, .undef, .undef, .undef, .undef, .undef, .undef, .undef, .undef, .undef, .undef, .undef, .undef, .undef, .undef], [.undef, .undef, .undef, .undef, .undef, .undef, .undef, .undef, .undef, .undef, .undef, .undef, .undef, .undef, .undef, .undef, .undef, .undef, .undef, .undef, .undef, .undef, .undef, .undef, .undef, .undef, .undef, .undef, .undef, .undef, .undef, .undef, .undef, .undef, .undef, .undef, .undef, .undef, .undef, .undef, .undef, .undef, .undef, .undef, .undef, .undef, .undef, .undef, .undef, .undef, .undef, .undef, .undef, .undef, .undef, .undef, .undef, .undef, .undef, .undef, .undef, .undef, .undef, .undef, .undef]⟩),
  (215, ⟨1, 8, false, (.int .i64), [.d (.int .i64 0)], [.int .i64]⟩),
  (218, ⟨1, 8, false, .other, [.undef], [.undef]⟩),
  (237, ⟨3, 48, true, (.st [(0, 9), (1, 9), (2, 188)]), [.d (.str ⟨#[]⟩), .d (.str ⟨#[]⟩), .undef], [.str, .str, .undef]⟩),
  (239, ⟨1, 8, false, .other, [.undef], [.undef]⟩),
  (240, ⟨1, 8, false, .other, [.undef], [.undef]⟩),
  (241, ⟨32, 32, true, .other, [.undef, .undef, .undef, .undef, .undef, .undef, .undef, .undef, .undef, .undef, .undef, .undef, .undef, .undef, .undef, .undef, .undef, .undef, .undef, .undef, .undef, .undef, .undef, .undef, .undef, .undef, .undef, .undef, .undef, .undef, .undef, .undef], [.undef, .undef, .undef, .undef, .undef, .undef, .undef, .undef, .undef, .undef, .undef, .undef, .undef, .undef, .undef, .undef, .undef, .undef, .undef, .undef, .undef, .undef, .undef, .undef, .undef, .undef, .undef, .undef, .undef, .undef, .undef, .undef]⟩),
  (242, ⟨64, 64, true, .other, [.undef, .undef, .undef, .undef, .undef, .undef, .undef, .undef, .undef, .undef, .undef, .undef, .undef, .undef, .undef, .undef, .undef, .undef, .undef, .undef, .undef, .undef, .undef, .undef, .undef, .undef, .undef, .undef, .undef, .undef, .undef, .undef, .undef, .undef, .undef, .undef, .undef, .undef, .undef, .undef, .undef, .undef, .undef, .undef, .undef, .undef, .undef, .undef, .undef, .undef, .undef, .undef, .undef, .undef, .undef, .undef, .undef, .undef, .undef, .undef, .undef, .undef, .undef, .undef], [.undef, .undef, .undef, .undef, .undef, .undef, .undef, .undef, .undef, .undef, .undef, .undef, .undef, .undef, .undef, .undef, .undef, .undef, .undef, .undef, .undef, .undef, .undef, .undef, .undef, .undef, .undef, .undef, .undef, .undef, .undef, .undef, .undef, .undef, .undef, .undef, .undef, .undef, .undef, .undef, .undef, .undef, .undef, .undef, .undef, .undef, .undef, .undef, .undef, .undef, .undef, .undef, .undef, .undef, .undef, .undef, .undef, .undef, .undef, .undef, .undef, .undef, .undef, .undef]⟩),
  (244, ⟨1, 8, false, .other, [.undef], [.undef]⟩),
  (247, ⟨1, 16, true, (.st [(0, 9)]), [.d (.str ⟨#[]⟩)], [.str]⟩),
  (245, ⟨1, 8, false, .other, [.undef], [.undef]⟩),
  (8, ⟨4, 24, true, (.st [(0, 2), (1, 3), (2, 4), (3, 6)]), [.d (.int .i64 0), .d (.int .i64 0), .d (.bool false), .d (.int .u8 0)], [.int .i64, .int .i64, .bool, .int .u8]⟩),
  (6, ⟨1, 1, false, (.int .u8), [.d (.int .u8 0)], [.int .u8]⟩),
  (10, ⟨1, 16, false, .str, [.d (.str ⟨#[]⟩)], [.str]⟩),
  (11, ⟨1, 16, false, .str, [.d (.str ⟨#[]⟩)], [.str]⟩),
  (14, ⟨2, 24, true, (.st [(0, 9), (1, 12)]), [.d (.str ⟨#[]⟩), .d (.int .u64 0)], [.str, .int .u64]⟩),
  (12, ⟨1, 8, false, (.int .u64), [.d (.int .u64 0)], [.int .u64]⟩),
  (15, ⟨1, 8, false, .other, [.undef], [.undef]⟩),
  (250, ⟨4, 40, true, (.st [(0, 17), (1, 17), (2, 17), (3, 9)]), [.undef, .undef, .undef, .d (.str ⟨#[]⟩)], [.undef, .undef, .undef, .str]⟩),
  (17, ⟨1, 8, false, .other, [.undef], [.undef]⟩),
  (261, ⟨11, 48, true, (.st [(0, 12), (1, 12), (2, 207), (3, 255), (4, 5), (5, 5), (6, 256), (7, 257), (8, 244), (9, 258), (10, 259)]), [.d (.int .u64 0), .d (.int .u64 0), .d (.int .u32 0), .d (.int .u8 0), .d (.int .u8 0), .d (.int .u8 0), .d (.int .u8 0), .undef, .undef, .d (.int .i32 0), .d (.int .i32 0)], [.int .u64, .int .u64, .int .u32, .int .u8, .int .u8, .int .u8, .int .u8, .undef, .undef, .int .i32, .int .i32]⟩),
  (255, ⟨1, 1, false, (.int .u8), [.d (.int .u8 0)], [.int .u8]⟩),
  (256, ⟨1, 1, false, (.int .u8), [.d (.int .u8 0)], [.int .u8]⟩),
  (257, ⟨1, 8, false, .other, [.undef], [.undef]⟩),
  (258, ⟨1, 4, false, (.int .i32), [.d (.int .i32 0)], [.int .i32]⟩),
  (259, ⟨1, 4, false, (.int .i32), [.d (.int .i32 0)], [.int .i32]⟩),
  (16, ⟨1, 8, false, .other, [.undef], [.undef]⟩),
  (19, ⟨1, 8, true, (.st [(0, 17)]), [.undef], [.undef]⟩)]
def ann4 : Ann := (.s .o (.s .o (.s .o (.s (.s .o (.s (.s .o .o) .o)) (.s .o (.s .o (.s .o (.s (.s .o (.s (.s .o .o) .o)) (.s (.s (.f [1, 2, 0, 3, 4] 0 [0, 1, 4] [(2, [0])]) (.s (.s .o .o) .o)) (.s .o .o))))))))))
def ann13 : Ann := (.s .o (.s .o (.s (.s .o (.s (.s .o .o) .o)) (.s .o (.s (.s .o (.s (.s .o .o) .o)) (.s .o (.s (.s .o (.s (.s .o .o) .o)) (.s .o (.s (.s .o (.s (.s .o .o) .o)) (.s .o (.s (.s .o (.s (.s .o .o) .o)) (.s .o .o))))))))))))
def ann14 : Ann := (.s .o (.s .o (.s (.s .o (.s (.s .o .o) .o)) (.s .o .o))))
def ann15 : Ann := (.s .o (.s .o (.s .o (.s .o (.s .o (.s .o (.s .o (.s .o (.s .o (.s .o .o))))))))))
def ann16 : Ann := (.s .o (.s (.s .o (.s .o (.s (.s .o .o) .o))) (.s .o .o)))
def ann17 : Ann := (.s .o (.s (.s .o (.s (.s .o .o) .o)) (.s (.s .o (.s (.s .o .o) .o)) (.s (.s .o (.s (.s .o .o) .o)) (.s (.s .o (.s (.s .o .o) .o)) (.s (.s .o (.s (.s .o .o) .o)) (.s (.s .o (.s (.s .o .o) .o)) (.s (.s .o (.s (.s .o .o) .o)) (.s .o .o)))))))))
def ann33 : Ann := (.s .o (.s (.s .o (.s (.s .o .o) .o)) (.s (.s .o (.b (.l ⟨1, [], [], [5, 1, 0], [], []⟩ (.s (.s .o (.s .o .o)) (.s (.b (.s (.r [0, 1, 2, 3, 4, 5, 6, 7, 8] 0 9 []) (.s (.s .o .o) .o))) .o))))) (.s .o .o))))
def ann39 : Ann := (.s .o (.s .o (.s (.s .o (.b (.l ⟨1, [], [], [4, 0, 3], [], []⟩ (.s (.s .o (.s .o .o)) (.s (.b .o) .o))))) (.s .o .o))))
def ann45 : Ann := (.s .o (.s .o .o))
def ann47 : Ann := (.s .o (.j ⟨1, [], [], [0, 1], [], []⟩ (.j ⟨2, [], [], [0, 1, 13], [], []⟩ .o (.s (.s .o .o) .o)) (.s (.s .o (.b (.l ⟨3, [], [], [5, 0, 1], [], []⟩ (.s (.s .o (.s .o .o)) (.s (.b (.j ⟨4, [], [], [0, 1, 5], [], []⟩ (.j ⟨5, [], [], [0, 1, 5, 24], [], []⟩ .o (.s (.s (.s .o (.s (.s .o .o) .o)) .o) .o)) (.j ⟨6, [], [], [0, 1, 5, 48], [], []⟩ .o (.s (.s .o .o) .o)))) .o))))) (.s .o .o))))
def ann51 : Ann := (.s .o (.s .o .o))
def ann53 : Ann := (.s .o (.s .o .o))
def ann57 : Ann := (.s .o (.s .o (.s (.s .o (.s (.s .o .o) .o)) (.s .o .o))))
def ann58 : Ann := (.s .o (.s .o (.s (.s .o (.s (.s .o .o) .o)) (.s (.s .o (.b (.l ⟨1, [], [], [5, 1, 0], [], []⟩ (.s (.s .o (.s .o .o)) (.s (.b (.s .o (.s .o (.s (.s .o .o) .o)))) .o))))) (.s .o .o)))))
def ann59 : Ann := (.s .o (.s .o (.s (.s .o (.s (.s .o .o) .o)) (.s (.s .o (.b (.l ⟨1, [], [], [5, 1, 0], [], []⟩ (.s (.s .o (.s .o .o)) (.s (.b (.s .o (.s .o (.s (.s .o .o) .o)))) .o))))) (.s .o .o)))))
def ann60 : Ann := (.s .o (.s .o (.j ⟨1, [], [], [1, 2, 7, 6], [], []⟩ (.j ⟨2, [], [], [1, 2, 7, 6, 27], [], []⟩ .o (.s (.s .o .o) .o)) (.j ⟨3, [], [], [1, 2, 7, 6], [], []⟩ (.j ⟨4, [], [], [1, 2, 7, 6, 47], [], []⟩ .o (.s (.s .o .o) .o)) (.j ⟨5, [], [], [1, 2, 7, 6], [], []⟩ (.j ⟨6, [], [], [1, 2, 7, 6, 59], [], []⟩ .o (.s (.s .o .o) .o)) (.j ⟨7, [], [], [1, 2, 7, 6], [], []⟩ (.j ⟨8, [], [], [1, 2, 7, 6, 74], [], []⟩ .o (.s (.s .o .o) .o)) (.j ⟨9, [], [], [1, 2], [], []⟩ (.j ⟨10, [], [], [1, 2, 110], [], []⟩ .o (.s (.s .o .o) .o)) (.j ⟨11, [], [], [1, 2], [], []⟩ (.j ⟨12, [], [], [1, 2, 139], [], []⟩ .o (.s (.s .o .o) .o)) (.j ⟨13, [], [], [1, 2], [], []⟩ (.j ⟨14, [], [], [1, 2, 159], [], []⟩ .o (.s (.s .o .o) .o)) (.s .o (.s (.s .o (.b (.l ⟨15, [], [], [9, 8, 1, 2], [], []⟩ (.s (.s .o (.s .o .o)) (.s (.b (.s .o (.s (.s .o (.s (.s .o .o) .o)) (.s .o (.s .o (.s (.s .o .o) .o)))))) .o))))) (.s (.s .o (.s (.s (.s .o (.s (.s .o .o) .o)) (.s .o .o)) .o)) (.j ⟨16, [], [], [8, 1, 2], [], []⟩ (.j ⟨17, [], [], [8, 1, 2, 199], [], []⟩ .o (.s (.s .o .o) .o)) (.s (.s .o (.b (.l ⟨18, [], [], [11, 8, 1, 2], [], []⟩ (.s (.s .o (.s .o .o)) (.s (.b (.s .o (.s (.s .o (.s (.s .o .o) .o)) (.s .o (.s .o (.s (.s .o .o) .o)))))) .o))))) (.s .o .o)))))))))))))))
def ann61 : Ann := (.s .o (.s .o (.s (.s .o (.b (.l ⟨1, [], [], [4, 0, 3], [], []⟩ (.s (.s .o (.s .o .o)) (.s (.b .o) .o))))) (.s .o .o))))
def ann62 : Ann := (.s .o (.s .o (.s (.s .o (.b (.l ⟨1, [], [], [4, 0, 3], [], []⟩ (.s (.s .o (.s .o .o)) (.s (.b .o) .o))))) (.s .o .o))))
def ann63 : Ann := (.s .o (.j ⟨1, [], [], [1, 0], [], []⟩ (.j ⟨2, [], [], [1, 0, 14], [], []⟩ .o (.s (.s .o .o) .o)) (.s .o (.s (.s .o (.b (.l ⟨3, [], [], [20, 1, 0, 5, 19], [], []⟩ (.s .o (.s (.s .o .o) (.s (.b (.s .o (.s .o (.s .o (.s (.s .o .o) .o))))) .o)))))) (.s (.s .o (.b (.l ⟨4, [], [], [42, 1, 0, 5, 41], [], []⟩ (.s .o (.s (.s .o .o) (.s (.b (.s .o (.s (.s .o (.s (.s .o .o) .o)) (.s .o (.s .o (.s (.s .o .o) .o)))))) .o)))))) (.s .o .o))))))
def ann64 : Ann := (.s .o (.s (.s .o (.s (.s .o .o) .o)) (.s (.s .o (.b (.l ⟨1, [], [], [5, 1, 0], [], []⟩ (.s (.s .o (.s .o .o)) (.s (.b (.s (.f [0, 1, 4, 5, 2, 3, 6, 7, 8, 9] 4 [2, 3, 6, 7, 9] []) (.s (.s .o .o) .o))) .o))))) (.s .o .o))))
def ann65 : Ann := (.s .o (.s (.s .o (.s (.s .o .o) .o)) (.s (.s .o (.b (.l ⟨1, [], [], [5, 1, 0], [], []⟩ (.s (.s .o (.s .o .o)) (.s (.b (.s (.f [0, 1, 4, 5, 2, 3, 6, 7, 8, 9] 4 [2, 3, 6, 7, 9] []) (.s (.s .o .o) .o))) .o))))) (.s .o .o))))
def ann88 : Ann := (.s .o (.s (.s .o (.s (.s .o .o) .o)) (.s (.s .o (.b (.l ⟨1, [], [], [3, 0], [], []⟩ (.s (.s .o (.s .o .o)) (.s (.b (.j ⟨2, [], [], [0, 3, 38], [], []⟩ .o (.s (.s .o .o) .o))) .o))))) (.s .o .o))))
def ann90 : Ann := (.s .o (.s .o .o))
def ann95 : Ann := (.s .o (.s .o (.s (.s .o (.b (.l ⟨1, [], [], [4, 3, 0], [], []⟩ (.s (.s .o (.s .o .o)) (.s (.b (.s .o (.s (.s .o .o) .o))) .o))))) (.s .o .o))))
def ann96 : Ann := (.s .o (.s .o .o))
def ann97 : Ann := (.s .o (.s .o .o))
def ann98 : Ann := (.s .o (.s .o .o))
def ann100 : Ann := (.s .o (.s (.s .o (.b (.l ⟨1, [], [], [8, 0, 1, 7], [], []⟩ (.s .o (.s (.s .o .o) (.s (.b (.s .o (.j ⟨2, [], [], [0, 1, 7, 8, 38], [], []⟩ .o (.s (.s .o .o) .o)))) .o)))))) (.s .o .o)))
def ann101 : Ann := (.s .o (.s .o .o))
def ann102 : Ann := (.s .o (.s .o .o))
def ann104 : Ann := (.s .o (.s .o .o))
def ann110 : Ann := (.s .o (.s .o (.s (.s .o (.s (.s .o .o) .o)) (.s .o (.s (.s .o (.s (.s .o .o) .o)) (.s .o (.s (.s .o (.s (.s .o .o) .o)) (.s .o .o))))))))
def ann111 : Ann := (.s .o (.s (.s .o (.b (.j ⟨1, [], [], [1, 6, 7], [], []⟩ (.s .o (.s .o (.s .o (.s .o .o)))) (.s (.s .o .o) (.s .o (.s (.s .o .o) (.s .o (.s (.s .o .o) (.j ⟨2, [], [], [1, 6, 15], [], []⟩ (.s .o (.s .o (.s .o (.s .o .o)))) (.s (.s .o .o) (.j ⟨3, [], [], [1, 6, 19], [], []⟩ (.s .o (.s .o .o)) (.s (.s .o .o) (.s .o (.s (.s .o .o) (.s .o (.s (.s .o .o) (.j ⟨4, [], [], [1, 6, 26], [], []⟩ (.s .o (.s .o (.s .o (.s .o (.s .o (.s .o (.s .o (.s .o (.s .o (.s .o .o)))))))))) (.s (.s .o .o) (.s .o (.s (.s .o .o) (.s .o (.s (.j ⟨5, [], [], [1], [], []⟩ (.j ⟨6, [], [], [1, 47], [], []⟩ .o (.s (.s .o .o) .o)) (.s (.s .o (.s (.s .o .o) .o)) (.s .o .o))) (.s .o (.s (.s .o (.b (.s .o (.s (.s .o .o) (.j ⟨7, [], [], [54, 57], [], []⟩ (.s .o (.s .o (.s .o (.s .o .o)))) (.s (.s .o .o) (.s .o (.s (.s .o .o) .o)))))))) .o)))))))))))))))))))))))) (.s .o .o)))
def ann112 : Ann := (.s .o (.s .o .o))
def ann113 : Ann := (.s .o (.s (.s .o (.s (.s (.s .o (.s (.s .o .o) .o)) (.s .o .o)) .o)) (.j ⟨1, [], [], [2, 1], [], []⟩ (.j ⟨2, [], [], [2, 1, 28], [], []⟩ .o (.s (.s .o .o) .o)) (.s (.s .o (.b (.l ⟨3, [], [], [2, 5, 1], [], []⟩ (.s (.s .o (.s .o .o)) (.s (.b (.s (.s .o (.s (.s .o .o) .o)) (.s .o (.b (.l ⟨4, [], [], [6, 2, 5, 1], [], []⟩ (.s (.s .o (.s .o .o)) (.s (.b (.s (.r [0, 1, 2, 3, 4, 5, 6, 7, 8, 9, 10, 11, 12] 0 13 []) (.s (.s .o .o) .o))) .o))))))) .o))))) (.s .o .o)))))
def ann114 : Ann := (.s .o (.s .o (.s .o (.s .o (.s .o (.s .o .o))))))
def ann115 : Ann := (.s .o (.j ⟨1, [], [], [0], [], []⟩ (.j ⟨2, [], [], [0, 23], [], []⟩ (.r [0, 1, 2, 3, 4, 5, 6, 7, 8, 9, 10, 11, 12, 13, 14, 15, 16, 17] 0 18 []) (.s (.s .o .o) .o)) (.s (.r [0, 1, 2, 3, 4, 5, 6, 7, 8, 9, 10, 11] 0 12 []) (.j ⟨3, [], [], [0], [], []⟩ (.b (.j ⟨4, [], [], [0, 4, 3, 34], [], []⟩ (.j ⟨5, [], [], [0, 4, 3, 34], [], []⟩ .o (.s .o (.j ⟨6, [], [], [0, 4, 3, 34], [], []⟩ .o (.s .o .o)))) (.s (.s .o .o) (.j ⟨7, [], [], [0, 72], [], []⟩ (.j ⟨8, [], [], [0, 72, 4], [], []⟩ .o (.s .o .o)) (.s (.s .o .o) (.j ⟨9, [], [], [0, 97], [], []⟩ (.j ⟨10, [], [], [0, 97], [], []⟩ .o (.s .o .o)) (.s (.s .o .o) (.j ⟨11, [], [], [0, 124], [], []⟩ (.j ⟨12, [], [], [0, 124], [], []⟩ .o (.s .o .o)) (.s (.s .o .o) .o))))))))) (.s (.f [0, 1, 2, 4, 5, 6, 3, 7, 8, 9] 6 [3, 7, 9] []) (.j ⟨13, [], [], [0], [], []⟩ (.j ⟨14, [], [], [0, 179], [], []⟩ .o (.s (.s .o .o) .o)) (.s .o .o)))))))
def ann116 : Ann := (.s .o (.s (.s .o (.s (.s .o .o) .o)) (.j ⟨1, [], [], [1], [], []⟩ (.j ⟨2, [], [], [1, 23], [], []⟩ .o (.s (.s .o .o) .o)) (.s (.s .o (.b (.l ⟨3, [], [], [27, 1, 25, 26], [], []⟩ (.s .o (.s (.s .o .o) (.s (.b (.s .o (.j ⟨4, [], [], [1, 25, 26, 27, 43], [], []⟩ .o (.s (.s .o .o) .o)))) .o)))))) (.s .o .o)))))
def ann117 : Ann := (.s .o (.s (.s .o (.s (.s .o .o) .o)) (.s (.s .o (.s (.s .o .o) .o)) (.s (.s .o (.s (.s .o .o) .o)) (.s .o .o)))))
def ann131 : Ann := (.s .o (.s .o .o))
def ann135 : Ann := (.s .o (.s .o .o))
def ann137 : Ann := (.s .o (.s .o .o))
def ann138 : Ann := (.s .o (.s .o .o))
def ann139 : Ann := (.s .o (.s .o (.s .o (.s .o (.s (.s .o (.b (.l ⟨1, [], [], [], [], []⟩ (.s (.s .o (.s .o .o)) (.s (.b (.s .o (.s .o (.s .o (.s .o .o))))) .o))))) (.s (.s .o (.s (.s .o .o) .o)) (.s .o (.s .o (.s .o (.s .o (.s (.b (.l ⟨2, [], [], [], [], []⟩ (.j ⟨3, [], [], [], [], []⟩ (.j ⟨4, [], [], [], [], []⟩ .o (.s .o .o)) (.b .o)))) (.s .o (.s (.b (.l ⟨5, [], [], [], [], []⟩ (.s (.s .o (.s .o .o)) (.b (.s (.s .o (.s (.s .o .o) .o)) (.s .o (.s .o (.s .o (.s (.b (.l ⟨6, [], [], [], [], []⟩ (.j ⟨7, [], [], [], [], []⟩ (.j ⟨8, [], [], [], [], []⟩ .o (.s .o .o)) (.b .o)))) .o))))))))) (.s (.s .o (.s .o .o)) (.s .o .o)))))))))))))))
def ann142 : Ann := (.s .o (.s .o .o))
def ann147 : Ann := (.s .o (.s .o (.s (.s .o (.s (.s .o .o) .o)) (.s (.s .o (.b (.l ⟨1, [], [], [5, 1, 0], [], []⟩ (.s (.s .o (.s .o .o)) (.s (.b (.s .o (.s .o (.s (.s .o .o) .o)))) .o))))) (.s .o .o)))))
def ann148 : Ann := (.s .o (.s .o (.s (.s .o (.b (.l ⟨1, [], [], [4, 0, 3], [], []⟩ (.s (.s .o (.s .o .o)) (.s (.b .o) .o))))) (.s .o .o))))
def ann149 : Ann := (.s .o (.s (.s .o (.b (.s .o (.s (.s .o .o) (.s .o (.s (.s .o .o) (.s .o (.s (.s .o .o) .o)))))))) (.s .o .o)))
def ann150 : Ann := (.s .o (.s .o .o))
def ann151 : Ann := (.s .o (.s (.s .o (.b (.j ⟨1, [], [], [1, 5, 6], [], []⟩ (.s .o (.s .o (.s .o (.s .o (.s .o (.s .o (.s .o (.s .o (.s .o (.s .o (.s .o (.s .o .o)))))))))))) (.s (.s .o .o) (.j ⟨2, [], [], [1, 5, 14], [], []⟩ (.s .o (.s .o (.s .o (.s .o (.s .o (.s .o (.s .o (.s .o (.s .o (.s .o .o)))))))))) (.s (.s .o .o) (.s .o (.s (.s .o .o) (.s .o (.s (.s .o .o) (.s .o (.s (.s (.s .o (.s (.s .o .o) .o)) (.s .o .o)) (.s .o (.s (.s .o .o) .o)))))))))))))) (.s .o .o)))
def ann152 : Ann := (.s .o (.s .o .o))
def ann153 : Ann := (.s .o (.s .o .o))
def ann154 : Ann := (.s .o (.s .o .o))
def ann155 : Ann := (.s .o (.s (.s .o (.s (.s .o .o) .o)) (.s (.s .o (.b (.l ⟨1, [], [], [5, 1, 0], [], []⟩ (.s (.s .o (.s .o .o)) (.s (.b (.s (.f [0, 1, 4, 5, 2, 3, 6, 7, 8, 9] 4 [2, 3, 6, 7, 9] []) (.s (.s .o .o) .o))) .o))))) (.s .o .o))))
def ann160 : Ann := (.s .o (.s .o .o))
def ann161 : Ann := (.s .o (.s .o .o))
def ann163 : Ann := (.s .o (.s .o .o))
def ann164 : Ann := (.s .o (.s (.s .o (.b (.l ⟨1, [], [], [8, 0, 1, 7], [], []⟩ (.s .o (.s (.s .o .o) (.s (.b (.s .o (.s .o (.s (.s .o .o) .o)))) .o)))))) (.s .o .o)))
def ann167 : Ann := (.s .o (.s .o .o))
def ann168 : Ann := (.s .o (.s (.s .o (.b (.l ⟨1, [], [], [8, 0, 1, 7], [], []⟩ (.s .o (.s (.s .o .o) (.s (.b (.s .o (.s .o (.s (.s .o .o) .o)))) .o)))))) (.s .o .o)))
def ann174 : Ann := (.s .o (.s (.s .o (.b (.l ⟨1, [], [], [8, 0, 1, 7], [], []⟩ (.s .o (.s (.s .o .o) (.s (.b (.s .o (.s .o (.s (.s .o .o) .o)))) .o)))))) (.s .o .o)))
def ann178 : Ann := (.s .o (.s (.s .o (.b (.l ⟨1, [], [], [8, 0, 1, 7], [], []⟩ (.s .o (.s (.s .o .o) (.s (.b (.s .o (.s .o (.s (.s .o .o) .o)))) .o)))))) (.s .o .o)))
noncomputable def I4 : FnI := ⟨Tryd.f4, Tryd.f4.body.getD .skip, [false], [], false, [], .m (.one (.bool)), [], [], [], false, false, none, ann4⟩
noncomputable def I13 : FnI := ⟨Tryd.f13, Tryd.f13.body.getD .skip, [false, false], [], false, [], .m (.one (.int .i64)), [], [], [], false, false, none, ann13⟩
noncomputable def I14 : FnI := ⟨Tryd.f14, Tryd.f14.body.getD .skip, [false], [], false, [], .m (.one (.int .i64)), [], [], [], false, false, none, ann14⟩
noncomputable def I15 : FnI := ⟨Tryd.f15, Tryd.f15.body.getD .skip, [false], [], false, [], .m (.agg [.int .i64, .int .i64, .sl 1, .sl 1, .sl 1, .sl 7, .sl 9]), [], [], [], false, false, none, ann15⟩
noncomputable def I16 : FnI := ⟨Tryd.f16, Tryd.f16.body.getD .skip, [false], [], false, [], .m (.one (.int .i64)), [], [], [], false, false, none, ann16⟩
noncomputable def I17 : FnI := ⟨Tryd.f17, Tryd.f17.body.getD .skip, [false, false], [], false, [], .m (.one (.bool)), [], [], [], false, false, none, ann17⟩
noncomputable def I33 : FnI := ⟨Tryd.f33, Tryd.f33.body.getD .skip, [false, false], [], false, [], .m (.one (.bool)), [], [], [], false, false, none, ann33⟩
noncomputable def I39 : FnI := ⟨Tryd.f39, Tryd.f39.body.getD .skip, [false], [], false, [], .m (.one (.sl 1)), [], [], [], false, false, none, ann39⟩
noncomputable def I45 : FnI := ⟨Tryd.f45, Tryd.f45.body.getD .skip, [false], [], false, [], .m (.one (.bool)), [], [], [], false, false, none, ann45⟩
noncomputable def I47 : FnI := ⟨Tryd.f47, Tryd.f47.body.getD .skip, [false, false], [], false, [], .m (.one (.bool)), [], [], [], false, false, none, ann47⟩
noncomputable def I51 : FnI := ⟨Tryd.f51, Tryd.f51.body.getD .skip, [false], [], false, [], .m (.one (.bool)), [], [], [], false, false, none, ann51⟩
noncomputable def I53 : FnI := ⟨Tryd.f53, Tryd.f53.body.getD .skip, [false, false, false], [], false, [], .m (.one (.bool)), [], [], [], false, false, none, ann53⟩
noncomputable def I57 : FnI := ⟨Tryd.f57, Tryd.f57.body.getD .skip, [false, false], [], false, [], .m (.one (.int .i64)), [], [], [], false, false, none, ann57⟩
noncomputable def I58 : FnI := ⟨Tryd.f58, Tryd.f58.body.getD .skip, [false, false], [], false, [], .m (.one (.int .i64)), [], [], [], false, false, none, ann58⟩
noncomputable def I59 : FnI := ⟨Tryd.f59, Tryd.f59.body.getD .skip, [false, false], [], false, [], .m (.one (.int .i64)), [], [], [], false, false, none, ann59⟩
noncomputable def I60 : FnI := ⟨Tryd.f60, Tryd.f60.body.getD .skip, [false, false], [], false, [], .m (.one (.int .i64)), [], [], [], false, false, none, ann60⟩
noncomputable def I61 : FnI := ⟨Tryd.f61, Tryd.f61.body.getD .skip, [false], [], false, [], .m (.one (.sl 7)), [], [], [], false, false, none, ann61⟩
noncomputable def I62 : FnI := ⟨Tryd.f62, Tryd.f62.body.getD .skip, [false], [], false, [], .m (.one (.sl 9)), [], [], [], false, false, none, ann62⟩
noncomputable def I63 : FnI := ⟨Tryd.f63, Tryd.f63.body.getD .skip, [true, false], [], false, [], .m (.one (.int .i64)), [], [], [], false, false, none, ann63⟩
noncomputable def I64 : FnI := ⟨Tryd.f64, Tryd.f64.body.getD .skip, [false, false], [], false, [], .m (.one (.bool)), [], [], [], false, false, none, ann64⟩
noncomputable def I65 : FnI := ⟨Tryd.f65, Tryd.f65.body.getD .skip, [false, false], [], false, [], .m (.one (.bool)), [], [], [], false, false, none, ann65⟩
noncomputable def I88 : FnI := ⟨Tryd.f88, Tryd.f88.body.getD .skip, [false], [], false, [], .m (.one (.bool)), [], [], [], false, false, none, ann88⟩
noncomputable def I90 : FnI := ⟨Tryd.f90, Tryd.f90.body.getD .skip, [false, false], [], false, [], .m (.one (.bool)), [], [], [], false, false, none, ann90⟩
noncomputable def I95 : FnI := ⟨Tryd.f95, Tryd.f95.body.getD .skip, [false], [], false, [], .m (.one (.bool)), [], [], [], false, false, none, ann95⟩
noncomputable def I96 : FnI := ⟨Tryd.f96, Tryd.f96.body.getD .skip, [false], [], false, [], .m (.one (.bool)), [], [], [], false, false, none, ann96⟩
noncomputable def I97 : FnI := ⟨Tryd.f97, Tryd.f97.body.getD .skip, [false], [], false, [], .m (.one (.bool)), [], [], [], false, false, none, ann97⟩
noncomputable def I98 : FnI := ⟨Tryd.f98, Tryd.f98.body.getD .skip, [false], [], false, [], .m (.one (.bool)), [], [], [], false, false, none, ann98⟩
noncomputable def I100 : FnI := ⟨Tryd.f100, Tryd.f100.body.getD .skip, [false, false], [], false, [], .m (.one (.bool)), [], [], [], false, false, none, ann100⟩
noncomputable def I101 : FnI := ⟨Tryd.f101, Tryd.f101.body.getD .skip, [false], [], false, [], .m (.one (.bool)), [], [], [], false, false, none, ann101⟩
noncomputable def I102 : FnI := ⟨Tryd.f102, Tryd.f102.body.getD .skip, [false], [], false, [], .m (.one (.bool)), [], [], [], false, false, none, ann102⟩
noncomputable def I104 : FnI := ⟨Tryd.f104, Tryd.f104.body.getD .skip, [false], [], false, [], .m (.one (.bool)), [], [], [], false, false, none, ann104⟩
noncomputable def I110 : FnI := ⟨Tryd.f110, Tryd.f110.body.getD .skip, [false, false], [], false, [], .m (.one (.int .i64)), [], [], [], false, false, none, ann110⟩
noncomputable def I111 : FnI := ⟨Tryd.f111, Tryd.f111.body.getD .skip, [false], [], false, [], .tup [.one (.int .i64), .one (.bool), .one (.bool)], [], [], [], false, false, none, ann111⟩
noncomputable def I112 : FnI := ⟨Tryd.f112, Tryd.f112.body.getD .skip, [false], [], false, [], .m (.one (.bool)), [], [], [], false, false, none, ann112⟩
noncomputable def I113 : FnI := ⟨Tryd.f113, Tryd.f113.body.getD .skip, [false, false], [], false, [], .m (.one (.int .i64)), [], [], [], false, false, none, ann113⟩
noncomputable def I114 : FnI := ⟨Tryd.f114, Tryd.f114.body.getD .skip, [false], [], false, [], .m (.agg [.sl 1, .sl 1, .int .i64, .int .i64, .sl 1, .sl 1, .sl 1, .sl 7, .sl 9]), [], [], [], false, false, none, ann114⟩
noncomputable def I115 : FnI := ⟨Tryd.f115, Tryd.f115.body.getD .skip, [true], [], false, [], .m (.one (.bool)), [], [], [], false, false, none, ann115⟩
noncomputable def I116 : FnI := ⟨Tryd.f116, Tryd.f116.body.getD .skip, [false], [], false, [], .m (.one (.bool)), [], [], [], false, false, none, ann116⟩
noncomputable def I117 : FnI := ⟨Tryd.f117, Tryd.f117.body.getD .skip, [false, false], [], false, [], .m (.one (.bool)), [], [], [], false, false, none, ann117⟩
noncomputable def I131 : FnI := ⟨Tryd.f131, Tryd.f131.body.getD .skip, [false], [], false, [], .m (.one (.bool)), [], [], [], false, false, none, ann131⟩
noncomputable def I135 : FnI := ⟨Tryd.f135, Tryd.f135.body.getD .skip, [], [], false, [], .m (.one (.sl 1)), [], [], [], false, false, none, ann135⟩
noncomputable def I137 : FnI := ⟨Tryd.f137, Tryd.f137.body.getD .skip, [false], [], false, [], .m (.one (.bool)), [], [], [], false, false, none, ann137⟩
noncomputable def I138 : FnI := ⟨Tryd.f138, Tryd.f138.body.getD .skip, [false, false], [], false, [], .m (.one (.bool)), [], [], [], false, false, none, ann138⟩
noncomputable def I139 : FnI := ⟨Tryd.f139, Tryd.f139.body.getD .skip, [false], [], false, [], .m (.one (.sl 1)), [], [], [], false, false, some .fieldsC, ann139⟩
noncomputable def I142 : FnI := ⟨Tryd.f142, Tryd.f142.body.getD .skip, [false], [], false, [], .m (.one (.bool)), [], [], [], false, false, none, ann142⟩
noncomputable def I147 : FnI := ⟨Tryd.f147, Tryd.f147.body.getD .skip, [false, false], [], false, [], .m (.one (.int .i64)), [], [], [], false, false, none, ann147⟩
noncomputable def I148 : FnI := ⟨Tryd.f148, Tryd.f148.body.getD .skip, [false], [], false, [], .m (.one (.sl 1)), [], [], [], false, false, none, ann148⟩
noncomputable def I149 : FnI := ⟨Tryd.f149, Tryd.f149.body.getD .skip, [false, false], [], false, [], .m (.one (.bool)), [], [], [], false, false, none, ann149⟩
noncomputable def I150 : FnI := ⟨Tryd.f150, Tryd.f150.body.getD .skip, [false], [], false, [], .m (.one (.bool)), [], [], [], false, false, none, ann150⟩
noncomputable def I151 : FnI := ⟨Tryd.f151, Tryd.f151.body.getD .skip, [false, false], [], false, [], .m (.one (.int .i64)), [], [], [], false, false, none, ann151⟩
noncomputable def I152 : FnI := ⟨Tryd.f152, Tryd.f152.body.getD .skip, [false, false], [], false, [], .m (.one (.bool)), [], [], [], false, false, none, ann152⟩
noncomputable def I153 : FnI := ⟨Tryd.f153, Tryd.f153.body.getD .skip, [false, true], [], false, [], .m (.one (.bool)), [], [], [], false, false, none, ann153⟩
noncomputable def I154 : FnI := ⟨Tryd.f154, Tryd.f154.body.getD .skip, [false, false], [], false, [], .m (.one (.bool)), [], [], [], false, false, none, ann154⟩
noncomputable def I155 : FnI := ⟨Tryd.f155, Tryd.f155.body.getD .skip, [false, false], [], false, [], .m (.one (.bool)), [], [], [], false, false, none, ann155⟩
noncomputable def I160 : FnI := ⟨Tryd.f160, Tryd.f160.body.getD .skip, [false, false], [], false, [], .m (.one (.bool)), [], [], [], false, false, none, ann160⟩
noncomputable def I161 : FnI := ⟨Tryd.f161, Tryd.f161.body.getD .skip, [false], [], false, [], .m (.one (.bool)), [], [], [], false, false, none, ann161⟩
noncomputable def I163 : FnI := ⟨Tryd.f163, Tryd.f163.body.getD .skip, [false], [], false, [], .m (.one (.bool)), [], [], [], false, false, none, ann163⟩
noncomputable def I164 : FnI := ⟨Tryd.f164, Tryd.f164.body.getD .skip, [false, false], [], false, [], .m (.one (.int .i64)), [], [], [], false, false, none, ann164⟩
noncomputable def I167 : FnI := ⟨Tryd.f167, Tryd.f167.body.getD .skip, [false, false], [], false, [], .m (.one (.bool)), [], [], [], false, false, none, ann167⟩
noncomputable def I168 : FnI := ⟨Tryd.f168, Tryd.f168.body.getD .skip, [false, false], [], false, [], .m (.one (.int .i64)), [], [], [], false, false, none, ann168⟩
noncomputable def I174 : FnI := ⟨Tryd.f174, Tryd.f174.body.getD .skip, [false, false], [], false, [], .m (.one (.int .i64)), [], [], [], false, false, none, ann174⟩
noncomputable def I178 : FnI := ⟨Tryd.f178, Tryd.f178.body.getD .skip, [false, false], [], false, [], .m (.one (.int .i64)), [], [], [], false, false, none, ann178⟩
noncomputable def fnsL : List (Nat × FnI) := [(4, I4), (13, I13), (14, I14), (15, I15), (16, I16), (17, I17), (33, I33), (39, I39), (45, I45), (47, I47), (51, I51), (53, I53), (57, I57), (58, I58), (59, I59), (60, I60), (61, I61), (62, I62), (63, I63), (64, I64), (65, I65), (88, I88), (90, I90), (95, I95), (96, I96), (97, I97), (98, I98), (100, I100), (101, I101), (102, I102), (104, I104), (110, I110), (111, I111), (112, I112), (113, I113), (114, I114), (115, I115), (116, I116), (117, I117), (131, I131), (135, I135), (137, I137), (138, I138), (139, I139), (142, I142), (147, I147), (148, I148), (149, I149), (150, I150), (151, I151), (152, I152), (153, I153), (154, I154), (155, I155), (160, I160), (161, I161), (163, I163), (164, I164), (167, I167), (168, I168), (174, I174), (178, I178)]
noncomputable def cx : Cx := ⟨tyL, fnsL, false⟩
noncomputable def laws_FnExactNodes (x0 : T_Expr) : Res := evF cx 4 [(.agg (LS.encs sh_Expr x0))] []
noncomputable def laws_szExpr (x0 : T_Expr) (x1 : Int) : Res := evF cx 13 [(.agg (LS.encs sh_Expr x0)), (.d (.int .i64 x1))] []
noncomputable def laws_toExpr (x0 : T_Expr) : Res := evF cx 15 [(.agg (LS.encs sh_Expr x0))] []
noncomputable def spec_Nodes (x0 : T_Expr) : Res := evF cx 14 [(.agg (LS.encs sh_Expr x0))] []
noncomputable def impl_Nodes (x0 : T_Expr) : Res := evF cx 16 [(.agg (LS.encs sh_Expr x0))] []
noncomputable def laws_eqExpr (x0 : T_Expr) (x1 : T_Expr) : Res := evF cx 17 [(.agg (LS.encs sh_Expr x0)), (.agg (LS.encs sh_Expr x1))] []
noncomputable def laws_szByteS (x0 : Sl) (x1 : Int) : Res := evF cx 57 [(.d (.sl false 1 x0.1 x0.2)), (.d (.int .i64 x1))] []
noncomputable def laws_szExprS (x0 : Sl) (x1 : Int) : Res := evF cx 58 [(.d (.sl false 7 x0.1 x0.2)), (.d (.int .i64 x1))] []
noncomputable def laws_szArmS (x0 : Sl) (x1 : Int) : Res := evF cx 59 [(.d (.sl false 9 x0.1 x0.2)), (.d (.int .i64 x1))] []
noncomputable def laws_toByteS (x0 : Sl) : Res := evF cx 39 [(.d (.sl false 1 x0.1 x0.2))] []
noncomputable def laws_toExprS (x0 : Sl) : Res := evF cx 61 [(.d (.sl false 7 x0.1 x0.2))] []
noncomputable def laws_toArmS (x0 : Sl) : Res := evF cx 62 [(.d (.sl false 9 x0.1 x0.2))] []
noncomputable def spec_l5expr (x0 : T_Expr) (x1 : Int) : Res := evF cx 60 [(.agg (LS.encs sh_Expr x0)), (.d (.int .i64 x1))] []
noncomputable def impl_count (x0 : Int) (x1 : T_Expr) : Res := evF cx 63 [(.ptr 0 0), (.d (.int .i64 x0))] [(.box (LS.encs sh_Expr x1))]
noncomputable def laws_eqByteS (x0 : Sl) (x1 : Sl) : Res := evF cx 33 [(.d (.sl false 1 x0.1 x0.2)), (.d (.sl false 1 x1.1 x1.2))] []
noncomputable def laws_eqExprS (x0 : Sl) (x1 : Sl) : Res := evF cx 64 [(.d (.sl false 7 x0.1 x0.2)), (.d (.sl false 7 x1.1 x1.2))] []
noncomputable def laws_eqArmS (x0 : Sl) (x1 : Sl) : Res := evF cx 65 [(.d (.sl false 9 x0.1 x0.2)), (.d (.sl false 9 x1.1 x1.2))] []
noncomputable def laws_szArm (x0 : T_Arm) (x1 : Int) : Res := evF cx 110 [(.agg (LS.encs sh_Arm x0)), (.d (.int .i64 x1))] []
noncomputable def laws_toArm (x0 : T_Arm) : Res := evF cx 114 [(.agg (LS.encs sh_Arm x0))] []
noncomputable def spec_l5shape (x0 : T_Expr) : Res := evF cx 111 [(.agg (LS.encs sh_Expr x0))] []
noncomputable def spec_l5name (x0 : Sl) : Res := evF cx 45 [(.d (.sl false 1 x0.1 x0.2))] []
noncomputable def spec_l5word (x0 : Sl) (x1 : Bool) : Res := evF cx 47 [(.d (.sl false 1 x0.1 x0.2)), (.d (.bool x1))] []
noncomputable def spec_l5intOk (x0 : Int) : Res := evF cx 112 [(.d (.int .i64 x0))] []
noncomputable def spec_l5lit (x0 : Sl) : Res := evF cx 88 [(.d (.sl false 1 x0.1 x0.2))] []
noncomputable def spec_l5arm (x0 : T_Arm) (x1 : Int) : Res := evF cx 113 [(.agg (LS.encs sh_Arm x0)), (.d (.int .i64 x1))] []
noncomputable def impl_Expr_headOk (x0 : T_Expr) : Res := evF cx 115 [(.ptr 0 0)] [(.box (LS.encs sh_Expr x0))]
noncomputable def impl_count_r (x0 : T_Expr) (x1 : Int) : Res := evF cx 63 [(.rp (vDs (LS.encs sh_Expr x0)) 0), (.d (.int .i64 x1))] []
noncomputable def impl_armOk (x0 : T_Arm) : Res := evF cx 116 [(.agg (LS.encs sh_Arm x0))] []
noncomputable def laws_eqArm (x0 : T_Arm) (x1 : T_Arm) : Res := evF cx 117 [(.agg (LS.encs sh_Arm x0)), (.agg (LS.encs sh_Arm x1))] []
noncomputable def laws_szByteSS (x0 : Sl) (x1 : Int) : Res := evF cx 147 [(.d (.sl false 1 x0.1 x0.2)), (.d (.int .i64 x1))] []
noncomputable def laws_toByteSS (x0 : Sl) : Res := evF cx 148 [(.d (.sl false 1 x0.1 x0.2))] []
noncomputable def spec_l5key (x0 : Sl) : Res := evF cx 95 [(.d (.sl false 1 x0.1 x0.2))] []
noncomputable def spec_l5upper (x0 : Int) : Res := evF cx 96 [(.d (.int .u8 x0))] []
noncomputable def spec_l5lower (x0 : Int) : Res := evF cx 97 [(.d (.int .u8 x0))] []
noncomputable def spec_l5digit (x0 : Int) : Res := evF cx 98 [(.d (.int .u8 x0))] []
noncomputable def impl_within (x0 : Int) (x1 : Int) (x2 : Int) : Res := evF cx 53 [(.d (.int .i64 x0)), (.d (.int .i64 x1)), (.d (.int .i64 x2))] []
noncomputable def impl_numberOk (x0 : Int) (x1 : Int) : Res := evF cx 149 [(.d (.int .i64 x0)), (.d (.int .i64 x1))] []
noncomputable def impl_named (x0 : Int) : Res := evF cx 150 [(.d (.int .i64 x0))] []
noncomputable def impl_isName (x0 : ByteArray) : Res := evF cx 51 [(.d (.str x0))] []
noncomputable def impl_isCon (x0 : ByteArray) : Res := evF cx 104 [(.d (.str x0))] []
noncomputable def impl_litOk (x0 : Sl) : Res := evF cx 131 [(.d (.sl false 1 x0.1 x0.2))] []
noncomputable def impl_kidsOf (x0 : Int) (x1 : Int) : Res := evF cx 151 [(.d (.int .i64 x0)), (.d (.int .i64 x1))] []
noncomputable def impl_Expr_headOk_r (x0 : T_Expr) : Res := evF cx 115 [(.rp (vDs (LS.encs sh_Expr x0)) 0)] []
noncomputable def slices_ContainsFunc_byte_byte_Fimpl_armOk_1c (x0 : Sl) (x1 : Sl) : Res := evF cx 152 [(.d (.sl false 1 x0.1 x0.2)), (.fn 153 [(.ptr 0 0)])] [(.box [(.d (.sl false 1 x1.1 x1.2))])]
noncomputable def laws_eqByteSS (x0 : Sl) (x1 : Sl) : Res := evF cx 155 [(.d (.sl false 1 x0.1 x0.2)), (.d (.sl false 1 x1.1 x1.2))] []
noncomputable def spec_l5keys : Res := evF cx 135 [] []
noncomputable def spec_l5is (x0 : Sl) (x1 : ByteArray) : Res := evF cx 90 [(.d (.sl false 1 x0.1 x0.2)), (.d (.str x1))] []
noncomputable def impl_wholeOk (x0 : Int) : Res := evF cx 163 [(.d (.int .i64 x0))] []
noncomputable def slices_Contains_int_int (x0 : Sl) (x1 : Int) : Res := evF cx 167 [(.d (.sl false 1 x0.1 x0.2)), (.d (.int .i64 x1))] []
noncomputable def impl_wordLike_Fimpl_isSmall (x0 : ByteArray) : Res := evF cx 100 [(.d (.str x0)), (.fn 101 [])] []
noncomputable def impl_isKey (x0 : ByteArray) : Res := evF cx 102 [(.d (.str x0))] []
noncomputable def impl_wordLike_Fimpl_isGreat (x0 : ByteArray) : Res := evF cx 100 [(.d (.str x0)), (.fn 142 [])] []
noncomputable def slices_ContainsFunc_byte_byte_2_Fimpl_litOk_1 (x0 : Sl) : Res := evF cx 160 [(.d (.sl false 1 x0.1 x0.2)), (.fn 161 [])] []
noncomputable def slices_IndexFunc_byte_byte_Fimpl_armOk_1c (x0 : Sl) (x1 : Sl) : Res := evF cx 168 [(.d (.sl false 1 x0.1 x0.2)), (.fn 153 [(.ptr 0 0)])] [(.box [(.d (.sl false 1 x1.1 x1.2))])]
noncomputable def slices_Index_int_int (x0 : Sl) (x1 : Int) : Res := evF cx 178 [(.d (.sl false 1 x0.1 x0.2)), (.d (.int .i64 x1))] []
noncomputable def impl_isSmall (x0 : Int) : Res := evF cx 101 [(.d (.int .u8 x0))] []
noncomputable def impl_isDigit (x0 : Int) : Res := evF cx 137 [(.d (.int .u8 x0))] []
noncomputable def strings_Fields (x0 : ByteArray) : Res := evF cx 139 [(.d (.str x0))] []
noncomputable def slices_Contains_string_string (x0 : Sl) (x1 : ByteArray) : Res := evF cx 138 [(.d (.sl false 1 x0.1 x0.2)), (.d (.str x1))] []
noncomputable def impl_isGreat (x0 : Int) : Res := evF cx 142 [(.d (.int .u8 x0))] []
noncomputable def slices_IndexFunc_byte_byte_2_Fimpl_litOk_1 (x0 : Sl) : Res := evF cx 174 [(.d (.sl false 1 x0.1 x0.2)), (.fn 161 [])] []
noncomputable def impl_armOk_1 (x0 : Sl) (x1 : Sl) : Res := evF cx 153 [(.d (.sl false 1 x0.1 x0.2)), (.ptr 0 0)] [(.box [(.d (.sl false 1 x1.1 x1.2))])]
noncomputable def slices_Index_string_string (x0 : Sl) (x1 : ByteArray) : Res := evF cx 164 [(.d (.sl false 1 x0.1 x0.2)), (.d (.str x1))] []
noncomputable def impl_litOk_1 (x0 : Int) : Res := evF cx 161 [(.d (.int .u8 x0))] []
noncomputable def bytes_Equal (x0 : Sl) (x1 : Sl) : Res := evF cx 154 [(.d (.sl false 1 x0.1 x0.2)), (.d (.sl false 1 x1.1 x1.2))] []
theorem laws_FnExactNodes_eq (x0 : T_Expr) : laws_FnExactNodes x0 =
  ocall (.m (.one (.int .i64))) [] (laws_szExpr x0 (1048576 : Int)) fun (r0 : Int) (m1 : Unit) =>
  oite (decide (r0 < (0 : Int)))
    (some ((.d (.bool true)), []))
    (ocall (.m (.agg sh_Expr)) [] (laws_toExpr x0) fun (r2 : T_Expr) (m3 : Unit) =>
    ocall (.m (.one (.int .i64))) [] (spec_Nodes r2) fun (r4 : Int) (m5 : Unit) =>
    ocall (.m (.agg sh_Expr)) [] (laws_toExpr x0) fun (r6 : T_Expr) (m7 : Unit) =>
    ocall (.m (.one (.int .i64))) [] (impl_Nodes r6) fun (r8 : Int) (m9 : Unit) =>
    oite (!(r8 == r4))
      (some ((.d (.bool false)), []))
      (ocall (.m (.agg sh_Expr)) [] (laws_toExpr x0) fun (r10 : T_Expr) (m11 : Unit) =>
      osame (α := List V) [(.agg [(.d (.int .i64 r6.1)), (.d (.int .i64 r6.2.1)), (.d (.sl false 1 r6.2.2.1.1 r6.2.2.1.2)), (.d (.sl false 1 r6.2.2.2.1.1 r6.2.2.2.1.2)), (.d (.sl false 1 r6.2.2.2.2.1.1 r6.2.2.2.2.1.2)), (.d (.sl false 7 r6.2.2.2.2.2.1.1 r6.2.2.2.2.2.1.2)), (.d (.sl false 9 r6.2.2.2.2.2.2.1.1 r6.2.2.2.2.2.2.1.2))])] [(.agg [(.d (.int .i64 r6.1)), (.d (.int .i64 r6.2.1)), (.d (.sl false 1 r6.2.2.1.1 r6.2.2.1.2)), (.d (.sl false 1 r6.2.2.2.1.1 r6.2.2.2.1.2)), (.d (.sl false 1 r6.2.2.2.2.1.1 r6.2.2.2.2.1.2)), (.d (.sl false 7 r6.2.2.2.2.2.1.1 r6.2.2.2.2.2.1.2)), (.d (.sl false 9 r6.2.2.2.2.2.2.1.1 r6.2.2.2.2.2.2.1.2))])] (
      ocall (.m (.one .bool)) [] (laws_eqExpr r6 r10) fun (r12 : Bool) (m13 : Unit) =>
      oite (!r12)
        (some ((.d (.bool false)), []))
        (some ((.d (.bool true)), []))))) := (evF_eq ..).trans (by kernel_rfl)
theorem laws_szExpr_eq (x0 : T_Expr) (x1 : Int) : laws_szExpr x0 x1 =
  ocall (.m (.one (.int .i64))) [] (laws_szByteS x0.2.2.1 x1) fun (r0 : Int) (m1 : Unit) =>
  oite (decide (r0 < (0 : Int)))
    (some ((.d (.int .i64 (-1 : Int))), []))
    (ocall (.m (.one (.int .i64))) [] (laws_szByteS x0.2.2.2.1 r0) fun (r2 : Int) (m3 : Unit) =>
    oite (decide (r2 < (0 : Int)))
      (some ((.d (.int .i64 (-1 : Int))), []))
      (ocall (.m (.one (.int .i64))) [] (laws_szByteS x0.2.2.2.2.1 r2) fun (r4 : Int) (m5 : Unit) =>
      oite (decide (r4 < (0 : Int)))
        (some ((.d (.int .i64 (-1 : Int))), []))
        (ocall (.m (.one (.int .i64))) [] (laws_szExprS x0.2.2.2.2.2.1 r4) fun (r6 : Int) (m7 : Unit) =>
        oite (decide (r6 < (0 : Int)))
          (some ((.d (.int .i64 (-1 : Int))), []))
          (ocall (.m (.one (.int .i64))) [] (laws_szArmS x0.2.2.2.2.2.2.1 r6) fun (r8 : Int) (m9 : Unit) =>
          oite (decide (r8 < (0 : Int)))
            (some ((.d (.int .i64 (-1 : Int))), []))
            (some ((.d (.int .i64 r8)), [])))))) := (evF_eq ..).trans (by kernel_rfl)
theorem laws_toExpr_eq (x0 : T_Expr) : laws_toExpr x0 =
  ocall (.m (.one (.sl 1))) [] (laws_toByteS x0.2.2.1) fun (r0 : Sl) (m1 : Unit) =>
  ocall (.m (.one (.sl 1))) [] (laws_toByteS x0.2.2.2.1) fun (r2 : Sl) (m3 : Unit) =>
  ocall (.m (.one (.sl 1))) [] (laws_toByteS x0.2.2.2.2.1) fun (r4 : Sl) (m5 : Unit) =>
  ocall (.m (.one (.sl 7))) [] (laws_toExprS x0.2.2.2.2.2.1) fun (r6 : Sl) (m7 : Unit) =>
  ocall (.m (.one (.sl 9))) [] (laws_toArmS x0.2.2.2.2.2.2.1) fun (r8 : Sl) (m9 : Unit) =>
  some ((.agg (LS.encs sh_Expr (x0.1, x0.2.1, r0, r2, r4, r6, r8, ()))), []) := (evF_eq ..).trans (by kernel_rfl)
theorem spec_Nodes_eq (x0 : T_Expr) : spec_Nodes x0 =
  ocall (.m (.one (.int .i64))) [] (spec_l5expr x0 (1 : Int)) fun (r0 : Int) (m1 : Unit) =>
  oite (decide (r0 < (0 : Int)))
    (some ((.d (.int .i64 (0 : Int))), []))
    (some ((.d (.int .i64 r0)), [])) := (evF_eq ..).trans (by kernel_rfl)
theorem impl_Nodes_eq (x0 : T_Expr) : impl_Nodes x0 =
  ocall (.m (.one (.int .i64))) [(.box sh_Expr)] (impl_count (1 : Int) x0) fun (r0 : Int) (m1 : (T_Expr × Unit)) =>
  oite (decide (r0 ≤ (300 : Int)))
    (some ((.d (.int .i64 r0)), []))
    (some ((.d (.int .i64 (0 : Int))), [])) := (evF_eq ..).trans (by kernel_rfl)
theorem laws_eqExpr_eq (x0 : T_Expr) (x1 : T_Expr) : laws_eqExpr x0 x1 =
  oite (!(x0.1 == x1.1))
    (some ((.d (.bool false)), []))
    (oite (!(x0.2.1 == x1.2.1))
      (some ((.d (.bool false)), []))
      (ocall (.m (.one .bool)) [] (laws_eqByteS x0.2.2.1 x1.2.2.1) fun (r0 : Bool) (m1 : Unit) =>
      oite (!r0)
        (some ((.d (.bool false)), []))
        (ocall (.m (.one .bool)) [] (laws_eqByteS x0.2.2.2.1 x1.2.2.2.1) fun (r2 : Bool) (m3 : Unit) =>
        oite (!r2)
          (some ((.d (.bool false)), []))
          (ocall (.m (.one .bool)) [] (laws_eqByteS x0.2.2.2.2.1 x1.2.2.2.2.1) fun (r4 : Bool) (m5 : Unit) =>
          oite (!r4)
            (some ((.d (.bool false)), []))
            (ocall (.m (.one .bool)) [] (laws_eqExprS x0.2.2.2.2.2.1 x1.2.2.2.2.2.1) fun (r6 : Bool) (m7 : Unit) =>
            oite (!r6)
              (some ((.d (.bool false)), []))
              (ocall (.m (.one .bool)) [] (laws_eqArmS x0.2.2.2.2.2.2.1 x1.2.2.2.2.2.2.1) fun (r8 : Bool) (m9 : Unit) =>
              oite (!r8)
                (some ((.d (.bool false)), []))
                (some ((.d (.bool true)), [])))))))) := (evF_eq ..).trans (by kernel_rfl)
theorem laws_szByteS_eq (x0 : Sl) (x1 : Int) : laws_szByteS x0 x1 =
  oite (decide ((w64 (x1 - ((x0.1 : Nat) : Int))) < (0 : Int)))
    (some ((.d (.int .i64 (-1 : Int))), []))
    (some ((.d (.int .i64 (w64 (x1 - ((x0.1 : Nat) : Int))))), [])) := (evF_eq ..).trans (by kernel_rfl)
noncomputable def laws_szExprS_j1 (x0 : Int) (x1 : Int) (x2 : Sl) : Res := (fun (p : Env × Mem) => evI cx 58 0 1 p.1 p.2) ([(5, (.d (.int .i64 x0))), (1, (.d (.int .i64 x1))), (0, (.d (.sl false 7 x2.1 x2.2)))], [])
theorem laws_szExprS_eq (x0 : Sl) (x1 : Int) : laws_szExprS x0 x1 =
  oite (decide ((w64 (x1 - ((x0.1 : Nat) : Int))) < (0 : Int)))
    (some ((.d (.int .i64 (-1 : Int))), []))
    (laws_szExprS_j1 (0 : Int) (w64 (x1 - ((x0.1 : Nat) : Int))) x0) := (evF_eq ..).trans (by kernel_rfl)
-- a loop's head
theorem laws_szExprS_j1_eq (x0 : Int) (x1 : Int) (x2 : Sl) : laws_szExprS_j1 x0 x1 x2 =
  oite (decide (x0 < ((x2.1 : Nat) : Int)))
    (oat sh_Expr x2.1 x2.2 x0 fun (t0 : T_Expr) =>
    ocall (.m (.one (.int .i64))) [] (laws_szExpr t0 x1) fun (r1 : Int) (m2 : Unit) =>
    oite (decide (r1 < (0 : Int)))
      (some ((.d (.int .i64 (-1 : Int))), []))
      (laws_szExprS_j1 (w64 (x0 + (1 : Int))) r1 x2))
    (some ((.d (.int .i64 x1)), [])) := (evI_eq ..).trans (by kernel_rfl)
noncomputable def laws_szArmS_j1 (x0 : Int) (x1 : Int) (x2 : Sl) : Res := (fun (p : Env × Mem) => evI cx 59 0 1 p.1 p.2) ([(5, (.d (.int .i64 x0))), (1, (.d (.int .i64 x1))), (0, (.d (.sl false 9 x2.1 x2.2)))], [])
theorem laws_szArmS_eq (x0 : Sl) (x1 : Int) : laws_szArmS x0 x1 =
  oite (decide ((w64 (x1 - ((x0.1 : Nat) : Int))) < (0 : Int)))
    (some ((.d (.int .i64 (-1 : Int))), []))
    (laws_szArmS_j1 (0 : Int) (w64 (x1 - ((x0.1 : Nat) : Int))) x0) := (evF_eq ..).trans (by kernel_rfl)
-- a loop's head
theorem laws_szArmS_j1_eq (x0 : Int) (x1 : Int) (x2 : Sl) : laws_szArmS_j1 x0 x1 x2 =
  oite (decide (x0 < ((x2.1 : Nat) : Int)))
    (oat sh_Arm x2.1 x2.2 x0 fun (t0 : T_Arm) =>
    ocall (.m (.one (.int .i64))) [] (laws_szArm t0 x1) fun (r1 : Int) (m2 : Unit) =>
    oite (decide (r1 < (0 : Int)))
      (some ((.d (.int .i64 (-1 : Int))), []))
      (laws_szArmS_j1 (w64 (x0 + (1 : Int))) r1 x2))
    (some ((.d (.int .i64 x1)), [])) := (evI_eq ..).trans (by kernel_rfl)
noncomputable def laws_toByteS_j1 (x0 : Int) (x1 : Sl) (x2 : Sl) : Res := (fun (p : Env × Mem) => evI cx 39 0 1 p.1 p.2) ([(4, (.d (.int .i64 x0))), (0, (.d (.sl false 1 x1.1 x1.2))), (3, (.own 0))], [(.row 1 x2.1 false false x2.2)])
theorem laws_toByteS_eq (x0 : Sl) : laws_toByteS x0 =
  oguard (decide (((0 : Int) ≤ ((x0.1 : Nat) : Int)) ∧ ((((x0.1 : Nat) : Int) = ((x0.1 : Nat) : Int)) ∧ ((((x0.1 : Nat) : Int) * (1 : Int)) ≤ (140737488351232 : Int))))) (
  olet (List.replicate (Int.toNat ((x0.1 : Nat) : Int)) ((D.int .u8 (0 : Int)) :: [])) fun (e0 : (List (List D))) =>
  laws_toByteS_j1 (0 : Int) x0 ((Int.toNat ((x0.1 : Nat) : Int)), e0)) := (evF_eq ..).trans (by kernel_rfl)
-- a loop's head
theorem laws_toByteS_j1_eq (x0 : Int) (x1 : Sl) (x2 : Sl) : laws_toByteS_j1 x0 x1 x2 =
  oite (decide (x0 < ((x1.1 : Nat) : Int)))
    (oat [(.int .u8)] x1.1 x1.2 x0 fun (t1 : (Int × Unit)) =>
    oguard (decide (((0 : Int) ≤ x0) ∧ (x0 < ((x2.1 : Nat) : Int)))) (
    olet (List.set x2.2 (Int.toNat x0) (putD (List.getD x2.2 (Int.toNat x0) []) 0 [(D.int .u8 t1.1)])) fun (e2 : (List (List D))) =>
    laws_toByteS_j1 (w64 (x0 + (1 : Int))) x1 (x2.1, e2)))
    (some ((.d (.sl false 1 x2.1 x2.2)), [])) := (evI_eq ..).trans (by kernel_rfl)
noncomputable def laws_toExprS_j1 (x0 : Int) (x1 : Sl) (x2 : Sl) : Res := (fun (p : Env × Mem) => evI cx 61 0 1 p.1 p.2) ([(4, (.d (.int .i64 x0))), (0, (.d (.sl false 7 x1.1 x1.2))), (3, (.own 0))], [(.row 7 x2.1 false false x2.2)])
theorem laws_toExprS_eq (x0 : Sl) : laws_toExprS x0 =
  oguard (decide (((0 : Int) ≤ ((x0.1 : Nat) : Int)) ∧ ((((x0.1 : Nat) : Int) = ((x0.1 : Nat) : Int)) ∧ ((((x0.1 : Nat) : Int) * (136 : Int)) ≤ (140737488351232 : Int))))) (
  olet (List.replicate (Int.toNat ((x0.1 : Nat) : Int)) (vDs (LS.encs sh_Expr ((0 : Int), (0 : Int), (0, []), (0, []), (0, []), (0, []), (0, []), ())))) fun (e0 : (List (List D))) =>
  laws_toExprS_j1 (0 : Int) x0 ((Int.toNat ((x0.1 : Nat) : Int)), e0)) := (evF_eq ..).trans (by kernel_rfl)
-- a loop's head
theorem laws_toExprS_j1_eq (x0 : Int) (x1 : Sl) (x2 : Sl) : laws_toExprS_j1 x0 x1 x2 =
  oite (decide (x0 < ((x1.1 : Nat) : Int)))
    (oat sh_Expr x1.1 x1.2 x0 fun (t1 : T_Expr) =>
    ocall (.m (.agg sh_Expr)) [] (laws_toExpr t1) fun (r2 : T_Expr) (m3 : Unit) =>
    oguard (decide (((0 : Int) ≤ x0) ∧ (x0 < ((x2.1 : Nat) : Int)))) (
    olet (List.set x2.2 (Int.toNat x0) (putD (List.getD x2.2 (Int.toNat x0) []) 0 (vDs (LS.encs sh_Expr r2)))) fun (e4 : (List (List D))) =>
    laws_toExprS_j1 (w64 (x0 + (1 : Int))) x1 (x2.1, e4)))
    (some ((.d (.sl false 7 x2.1 x2.2)), [])) := (evI_eq ..).trans (by kernel_rfl)
noncomputable def laws_toArmS_j1 (x0 : Int) (x1 : Sl) (x2 : Sl) : Res := (fun (p : Env × Mem) => evI cx 62 0 1 p.1 p.2) ([(4, (.d (.int .i64 x0))), (0, (.d (.sl false 9 x1.1 x1.2))), (3, (.own 0))], [(.row 9 x2.1 false false x2.2)])
theorem laws_toArmS_eq (x0 : Sl) : laws_toArmS x0 =
  oguard (decide (((0 : Int) ≤ ((x0.1 : Nat) : Int)) ∧ ((((x0.1 : Nat) : Int) = ((x0.1 : Nat) : Int)) ∧ ((((x0.1 : Nat) : Int) * (184 : Int)) ≤ (140737488351232 : Int))))) (
  olet (List.replicate (Int.toNat ((x0.1 : Nat) : Int)) (vDs (LS.encs sh_Arm ((0, []), (0, []), (0 : Int), (0 : Int), (0, []), (0, []), (0, []), (0, []), (0, []), ())))) fun (e0 : (List (List D))) =>
  laws_toArmS_j1 (0 : Int) x0 ((Int.toNat ((x0.1 : Nat) : Int)), e0)) := (evF_eq ..).trans (by kernel_rfl)
-- a loop's head
theorem laws_toArmS_j1_eq (x0 : Int) (x1 : Sl) (x2 : Sl) : laws_toArmS_j1 x0 x1 x2 =
  oite (decide (x0 < ((x1.1 : Nat) : Int)))
    (oat sh_Arm x1.1 x1.2 x0 fun (t1 : T_Arm) =>
    ocall (.m (.agg sh_Arm)) [] (laws_toArm t1) fun (r2 : T_Arm) (m3 : Unit) =>
    oguard (decide (((0 : Int) ≤ x0) ∧ (x0 < ((x2.1 : Nat) : Int)))) (
    olet (List.set x2.2 (Int.toNat x0) (putD (List.getD x2.2 (Int.toNat x0) []) 0 (vDs (LS.encs sh_Arm r2)))) fun (e4 : (List (List D))) =>
    laws_toArmS_j1 (w64 (x0 + (1 : Int))) x1 (x2.1, e4)))
    (some ((.d (.sl false 9 x2.1 x2.2)), [])) := (evI_eq ..).trans (by kernel_rfl)
noncomputable def spec_l5expr_j2 (x0 : Int) (x1 : Bool) (x2 : Bool) (x3 : Bool) (x4 : T_Expr) : Res := (fun (p : Env × Mem) => evI cx 60 0 2 p.1 p.2) ([(1, (.d (.int .i64 x0))), (2, (.ptr 0 0)), (7, (.d (.bool x1))), (6, (.d (.bool x2))), (27, (.d (.bool x3)))], [(.box (LS.encs sh_Expr x4))])
noncomputable def spec_l5expr_j1 (x0 : Int) (x1 : Bool) (x2 : Bool) (x3 : T_Expr) : Res := (fun (p : Env × Mem) => evI cx 60 0 1 p.1 p.2) ([(1, (.d (.int .i64 x0))), (2, (.ptr 0 0)), (7, (.d (.bool x1))), (6, (.d (.bool x2)))], [(.box (LS.encs sh_Expr x3))])
noncomputable def spec_l5expr_j4 (x0 : Int) (x1 : Bool) (x2 : Bool) (x3 : Bool) (x4 : T_Expr) : Res := (fun (p : Env × Mem) => evI cx 60 0 4 p.1 p.2) ([(1, (.d (.int .i64 x0))), (2, (.ptr 0 0)), (7, (.d (.bool x1))), (6, (.d (.bool x2))), (47, (.d (.bool x3)))], [(.box (LS.encs sh_Expr x4))])
noncomputable def spec_l5expr_j3 (x0 : Int) (x1 : Bool) (x2 : Bool) (x3 : T_Expr) : Res := (fun (p : Env × Mem) => evI cx 60 0 3 p.1 p.2) ([(1, (.d (.int .i64 x0))), (2, (.ptr 0 0)), (7, (.d (.bool x1))), (6, (.d (.bool x2)))], [(.box (LS.encs sh_Expr x3))])
noncomputable def spec_l5expr_j6 (x0 : Int) (x1 : Bool) (x2 : Bool) (x3 : Bool) (x4 : T_Expr) : Res := (fun (p : Env × Mem) => evI cx 60 0 6 p.1 p.2) ([(1, (.d (.int .i64 x0))), (2, (.ptr 0 0)), (7, (.d (.bool x1))), (6, (.d (.bool x2))), (59, (.d (.bool x3)))], [(.box (LS.encs sh_Expr x4))])
noncomputable def spec_l5expr_j5 (x0 : Int) (x1 : Bool) (x2 : Bool) (x3 : T_Expr) : Res := (fun (p : Env × Mem) => evI cx 60 0 5 p.1 p.2) ([(1, (.d (.int .i64 x0))), (2, (.ptr 0 0)), (7, (.d (.bool x1))), (6, (.d (.bool x2)))], [(.box (LS.encs sh_Expr x3))])
noncomputable def spec_l5expr_j8 (x0 : Int) (x1 : Bool) (x2 : Bool) (x3 : Bool) (x4 : T_Expr) : Res := (fun (p : Env × Mem) => evI cx 60 0 8 p.1 p.2) ([(1, (.d (.int .i64 x0))), (2, (.ptr 0 0)), (7, (.d (.bool x1))), (6, (.d (.bool x2))), (74, (.d (.bool x3)))], [(.box (LS.encs sh_Expr x4))])
noncomputable def spec_l5expr_j7 (x0 : Int) (x1 : Bool) (x2 : Bool) (x3 : T_Expr) : Res := (fun (p : Env × Mem) => evI cx 60 0 7 p.1 p.2) ([(1, (.d (.int .i64 x0))), (2, (.ptr 0 0)), (7, (.d (.bool x1))), (6, (.d (.bool x2)))], [(.box (LS.encs sh_Expr x3))])
noncomputable def spec_l5expr_j10 (x0 : Int) (x1 : Bool) (x2 : T_Expr) : Res := (fun (p : Env × Mem) => evI cx 60 0 10 p.1 p.2) ([(1, (.d (.int .i64 x0))), (2, (.ptr 0 0)), (110, (.d (.bool x1)))], [(.box (LS.encs sh_Expr x2))])
noncomputable def spec_l5expr_j9 (x0 : Int) (x1 : T_Expr) : Res := (fun (p : Env × Mem) => evI cx 60 0 9 p.1 p.2) ([(1, (.d (.int .i64 x0))), (2, (.ptr 0 0))], [(.box (LS.encs sh_Expr x1))])
noncomputable def spec_l5expr_j12 (x0 : Int) (x1 : Bool) (x2 : T_Expr) : Res := (fun (p : Env × Mem) => evI cx 60 0 12 p.1 p.2) ([(1, (.d (.int .i64 x0))), (2, (.ptr 0 0)), (139, (.d (.bool x1)))], [(.box (LS.encs sh_Expr x2))])
noncomputable def spec_l5expr_j11 (x0 : Int) (x1 : T_Expr) : Res := (fun (p : Env × Mem) => evI cx 60 0 11 p.1 p.2) ([(1, (.d (.int .i64 x0))), (2, (.ptr 0 0))], [(.box (LS.encs sh_Expr x1))])
noncomputable def spec_l5expr_j14 (x0 : Int) (x1 : Bool) (x2 : T_Expr) : Res := (fun (p : Env × Mem) => evI cx 60 0 14 p.1 p.2) ([(1, (.d (.int .i64 x0))), (2, (.ptr 0 0)), (159, (.d (.bool x1)))], [(.box (LS.encs sh_Expr x2))])
noncomputable def spec_l5expr_j13 (x0 : Int) (x1 : T_Expr) : Res := (fun (p : Env × Mem) => evI cx 60 0 13 p.1 p.2) ([(1, (.d (.int .i64 x0))), (2, (.ptr 0 0))], [(.box (LS.encs sh_Expr x1))])
noncomputable def spec_l5expr_j15 (x0 : Int) (x1 : Int) (x2 : Int) (x3 : T_Expr) : Res := (fun (p : Env × Mem) => evI cx 60 0 15 p.1 p.2) ([(9, (.d (.int .i64 x0))), (8, (.d (.int .i64 x1))), (1, (.d (.int .i64 x2))), (2, (.ptr 0 0))], [(.box (LS.encs sh_Expr x3))])
noncomputable def spec_l5expr_j17 (x0 : Int) (x1 : Int) (x2 : Bool) (x3 : T_Expr) : Res := (fun (p : Env × Mem) => evI cx 60 0 17 p.1 p.2) ([(8, (.d (.int .i64 x0))), (1, (.d (.int .i64 x1))), (2, (.ptr 0 0)), (199, (.d (.bool x2)))], [(.box (LS.encs sh_Expr x3))])
noncomputable def spec_l5expr_j16 (x0 : Int) (x1 : Int) (x2 : T_Expr) : Res := (fun (p : Env × Mem) => evI cx 60 0 16 p.1 p.2) ([(8, (.d (.int .i64 x0))), (1, (.d (.int .i64 x1))), (2, (.ptr 0 0))], [(.box (LS.encs sh_Expr x2))])
noncomputable def spec_l5expr_j18 (x0 : Int) (x1 : Int) (x2 : Int) (x3 : T_Expr) : Res := (fun (p : Env × Mem) => evI cx 60 0 18 p.1 p.2) ([(11, (.d (.int .i64 x0))), (8, (.d (.int .i64 x1))), (1, (.d (.int .i64 x2))), (2, (.ptr 0 0))], [(.box (LS.encs sh_Expr x3))])
theorem spec_l5expr_eq (x0 : T_Expr) (x1 : Int) : spec_l5expr x0 x1 =
  ocall (.tup [(.one (.int .i64)), (.one .bool), (.one .bool)]) [] (spec_l5shape x0) fun (r0 : (Int × (Bool × (Bool × Unit)))) (m1 : Unit) =>
  oite (!(r0.1 == ((x0.2.2.2.2.2.1.1 : Nat) : Int)))
    (spec_l5expr_j2 x1 r0.2.2.1 r0.2.1 true x0)
    (spec_l5expr_j2 x1 r0.2.2.1 r0.2.1 (decide (x1 > (40 : Int))) x0) := (evF_eq ..).trans (by kernel_rfl)
theorem spec_l5expr_j2_eq (x0 : Int) (x1 : Bool) (x2 : Bool) (x3 : Bool) (x4 : T_Expr) : spec_l5expr_j2 x0 x1 x2 x3 x4 =
  oite x3
    (some ((.d (.int .i64 (-1 : Int))), []))
    (spec_l5expr_j1 x0 x1 x2 x4) := (evI_eq ..).trans (by kernel_rfl)
theorem spec_l5expr_j1_eq (x0 : Int) (x1 : Bool) (x2 : Bool) (x3 : T_Expr) : spec_l5expr_j1 x0 x1 x2 x3 =
  oite (x3.1 == (5 : Int))
    (oat sh_Expr x3.2.2.2.2.2.1.1 x3.2.2.2.2.2.1.2 (0 : Int) fun (t2 : T_Expr) =>
    oite (t2.1 == (15 : Int))
      (oat sh_Expr x3.2.2.2.2.2.1.1 x3.2.2.2.2.2.1.2 (0 : Int) fun (t3 : T_Expr) =>
      spec_l5expr_j4 x0 x1 x2 (((t3.2.2.2.2.2.1.1 : Nat) : Int) == (0 : Int)) x3)
      (spec_l5expr_j4 x0 x1 x2 false x3))
    (spec_l5expr_j4 x0 x1 x2 false x3) := (evI_eq ..).trans (by kernel_rfl)
theorem spec_l5expr_j4_eq (x0 : Int) (x1 : Bool) (x2 : Bool) (x3 : Bool) (x4 : T_Expr) : spec_l5expr_j4 x0 x1 x2 x3 x4 =
  oite x3
    (some ((.d (.int .i64 (-1 : Int))), []))
    (spec_l5expr_j3 x0 x1 x2 x4) := (evI_eq ..).trans (by kernel_rfl)
theorem spec_l5expr_j3_eq (x0 : Int) (x1 : Bool) (x2 : Bool) (x3 : T_Expr) : spec_l5expr_j3 x0 x1 x2 x3 =
  oite x2
    (oite (!(x3.1 == (15 : Int)))
      (ocall (.m (.one .bool)) [] (spec_l5name x3.2.2.1) fun (r4 : Bool) (m5 : Unit) =>
      spec_l5expr_j6 x0 x1 x2 (!r4) x3)
      (spec_l5expr_j6 x0 x1 x2 false x3))
    (spec_l5expr_j6 x0 x1 x2 false x3) := (evI_eq ..).trans (by kernel_rfl)
theorem spec_l5expr_j6_eq (x0 : Int) (x1 : Bool) (x2 : Bool) (x3 : Bool) (x4 : T_Expr) : spec_l5expr_j6 x0 x1 x2 x3 x4 =
  oite x3
    (some ((.d (.int .i64 (-1 : Int))), []))
    (spec_l5expr_j5 x0 x1 x2 x4) := (evI_eq ..).trans (by kernel_rfl)
theorem spec_l5expr_j5_eq (x0 : Int) (x1 : Bool) (x2 : Bool) (x3 : T_Expr) : spec_l5expr_j5 x0 x1 x2 x3 =
  oite (x3.1 == (15 : Int))
    (ocall (.m (.one .bool)) [] (spec_l5word x3.2.2.1 true) fun (r6 : Bool) (m7 : Unit) =>
    oite (!r6)
      (spec_l5expr_j8 x0 x1 x2 true x3)
      (spec_l5expr_j8 x0 x1 x2 (decide (((x3.2.2.2.2.2.1.1 : Nat) : Int) > (3 : Int))) x3))
    (spec_l5expr_j8 x0 x1 x2 false x3) := (evI_eq ..).trans (by kernel_rfl)
theorem spec_l5expr_j8_eq (x0 : Int) (x1 : Bool) (x2 : Bool) (x3 : Bool) (x4 : T_Expr) : spec_l5expr_j8 x0 x1 x2 x3 x4 =
  oite x3
    (some ((.d (.int .i64 (-1 : Int))), []))
    (spec_l5expr_j7 x0 x1 x2 x4) := (evI_eq ..).trans (by kernel_rfl)
theorem spec_l5expr_j7_eq (x0 : Int) (x1 : Bool) (x2 : Bool) (x3 : T_Expr) : spec_l5expr_j7 x0 x1 x2 x3 =
  oite (!x2)
    (oite (decide (((x3.2.2.1.1 : Nat) : Int) > (0 : Int)))
      (spec_l5expr_j10 x0 true x3)
      (oite x1
        (ocall (.m (.one .bool)) [] (spec_l5name x3.2.2.2.1) fun (r8 : Bool) (m9 : Unit) =>
        oite (!r8)
          (spec_l5expr_j10 x0 true x3)
          (ostr x3.2.2.2.1.2 fun (s10 : ByteArray) =>
          ostr x3.2.2.1.2 fun (s11 : ByteArray) =>
          oite ((ByteArray.toList s10) == (ByteArray.toList s11))
            (spec_l5expr_j10 x0 true x3)
            (oite (!x1)
              (spec_l5expr_j10 x0 (decide (((x3.2.2.2.1.1 : Nat) : Int) > (0 : Int))) x3)
              (spec_l5expr_j10 x0 false x3))))
        (oite (!x1)
          (spec_l5expr_j10 x0 (decide (((x3.2.2.2.1.1 : Nat) : Int) > (0 : Int))) x3)
          (spec_l5expr_j10 x0 false x3))))
    (oite x1
      (ocall (.m (.one .bool)) [] (spec_l5name x3.2.2.2.1) fun (r12 : Bool) (m13 : Unit) =>
      oite (!r12)
        (spec_l5expr_j10 x0 true x3)
        (ostr x3.2.2.2.1.2 fun (s14 : ByteArray) =>
        ostr x3.2.2.1.2 fun (s15 : ByteArray) =>
        oite ((ByteArray.toList s14) == (ByteArray.toList s15))
          (spec_l5expr_j10 x0 true x3)
          (oite (!x1)
            (spec_l5expr_j10 x0 (decide (((x3.2.2.2.1.1 : Nat) : Int) > (0 : Int))) x3)
            (spec_l5expr_j10 x0 false x3))))
      (oite (!x1)
        (spec_l5expr_j10 x0 (decide (((x3.2.2.2.1.1 : Nat) : Int) > (0 : Int))) x3)
        (spec_l5expr_j10 x0 false x3))) := (evI_eq ..).trans (by kernel_rfl)
theorem spec_l5expr_j10_eq (x0 : Int) (x1 : Bool) (x2 : T_Expr) : spec_l5expr_j10 x0 x1 x2 =
  oite x1
    (some ((.d (.int .i64 (-1 : Int))), []))
    (spec_l5expr_j9 x0 x2) := (evI_eq ..).trans (by kernel_rfl)
theorem spec_l5expr_j9_eq (x0 : Int) (x1 : T_Expr) : spec_l5expr_j9 x0 x1 =
  oite (x1.1 == (1 : Int))
    (ocall (.m (.one .bool)) [] (spec_l5intOk x1.2.1) fun (r16 : Bool) (m17 : Unit) =>
    oite (!r16)
      (spec_l5expr_j12 x0 true x1)
      (oite (!(x1.1 == (1 : Int)))
        (oite (!(x1.1 == (19 : Int)))
          (oite (!(x1.1 == (20 : Int)))
            (spec_l5expr_j12 x0 (!(x1.2.1 == (0 : Int))) x1)
            (spec_l5expr_j12 x0 false x1))
          (spec_l5expr_j12 x0 false x1))
        (spec_l5expr_j12 x0 false x1)))
    (oite (!(x1.1 == (1 : Int)))
      (oite (!(x1.1 == (19 : Int)))
        (oite (!(x1.1 == (20 : Int)))
          (spec_l5expr_j12 x0 (!(x1.2.1 == (0 : Int))) x1)
          (spec_l5expr_j12 x0 false x1))
        (spec_l5expr_j12 x0 false x1))
      (spec_l5expr_j12 x0 false x1)) := (evI_eq ..).trans (by kernel_rfl)
theorem spec_l5expr_j12_eq (x0 : Int) (x1 : Bool) (x2 : T_Expr) : spec_l5expr_j12 x0 x1 x2 =
  oite x1
    (some ((.d (.int .i64 (-1 : Int))), []))
    (spec_l5expr_j11 x0 x2) := (evI_eq ..).trans (by kernel_rfl)
theorem spec_l5expr_j11_eq (x0 : Int) (x1 : T_Expr) : spec_l5expr_j11 x0 x1 =
  oite (x1.1 == (2 : Int))
    (ocall (.m (.one .bool)) [] (spec_l5lit x1.2.2.2.2.1) fun (r18 : Bool) (m19 : Unit) =>
    oite (!r18)
      (spec_l5expr_j14 x0 true x1)
      (oite (!(x1.1 == (2 : Int)))
        (spec_l5expr_j14 x0 (decide (((x1.2.2.2.2.1.1 : Nat) : Int) > (0 : Int))) x1)
        (spec_l5expr_j14 x0 false x1)))
    (oite (!(x1.1 == (2 : Int)))
      (spec_l5expr_j14 x0 (decide (((x1.2.2.2.2.1.1 : Nat) : Int) > (0 : Int))) x1)
      (spec_l5expr_j14 x0 false x1)) := (evI_eq ..).trans (by kernel_rfl)
theorem spec_l5expr_j14_eq (x0 : Int) (x1 : Bool) (x2 : T_Expr) : spec_l5expr_j14 x0 x1 x2 =
  oite x1
    (some ((.d (.int .i64 (-1 : Int))), []))
    (spec_l5expr_j13 x0 x2) := (evI_eq ..).trans (by kernel_rfl)
theorem spec_l5expr_j13_eq (x0 : Int) (x1 : T_Expr) : spec_l5expr_j13 x0 x1 =
  spec_l5expr_j15 (0 : Int) (1 : Int) x0 x1 := (evI_eq ..).trans (by kernel_rfl)
-- a loop's head
theorem spec_l5expr_j15_eq (x0 : Int) (x1 : Int) (x2 : Int) (x3 : T_Expr) : spec_l5expr_j15 x0 x1 x2 x3 =
  oite (decide (x0 < ((x3.2.2.2.2.2.1.1 : Nat) : Int)))
    (oat sh_Expr x3.2.2.2.2.2.1.1 x3.2.2.2.2.2.1.2 x0 fun (t20 : T_Expr) =>
    ocall (.m (.one (.int .i64))) [] (spec_l5expr t20 (w64 (x2 + (1 : Int)))) fun (r21 : Int) (m22 : Unit) =>
    oite (decide (r21 < (0 : Int)))
      (some ((.d (.int .i64 (-1 : Int))), []))
      (oite (decide ((w64 (x1 + r21)) > (300 : Int)))
        (some ((.d (.int .i64 (-1 : Int))), []))
        (spec_l5expr_j15 (w64 (x0 + (1 : Int))) (w64 (x1 + r21)) x2 x3)))
    (oite (!(x3.1 == (16 : Int)))
      (oite (decide (((x3.2.2.2.2.2.2.1.1 : Nat) : Int) > (0 : Int)))
        (some ((.d (.int .i64 (-1 : Int))), []))
        (some ((.d (.int .i64 x1)), [])))
      (oite (decide (((x3.2.2.2.2.2.2.1.1 : Nat) : Int) < (1 : Int)))
        (spec_l5expr_j17 x1 x2 true x3)
        (spec_l5expr_j17 x1 x2 (decide (((x3.2.2.2.2.2.2.1.1 : Nat) : Int) > (6 : Int))) x3))) := (evI_eq ..).trans (by kernel_rfl)
theorem spec_l5expr_j17_eq (x0 : Int) (x1 : Int) (x2 : Bool) (x3 : T_Expr) : spec_l5expr_j17 x0 x1 x2 x3 =
  oite x2
    (some ((.d (.int .i64 (-1 : Int))), []))
    (spec_l5expr_j16 x0 x1 x3) := (evI_eq ..).trans (by kernel_rfl)
theorem spec_l5expr_j16_eq (x0 : Int) (x1 : Int) (x2 : T_Expr) : spec_l5expr_j16 x0 x1 x2 =
  spec_l5expr_j18 (0 : Int) x0 x1 x2 := (evI_eq ..).trans (by kernel_rfl)
-- a loop's head
theorem spec_l5expr_j18_eq (x0 : Int) (x1 : Int) (x2 : Int) (x3 : T_Expr) : spec_l5expr_j18 x0 x1 x2 x3 =
  oite (decide (x0 < ((x3.2.2.2.2.2.2.1.1 : Nat) : Int)))
    (oat sh_Arm x3.2.2.2.2.2.2.1.1 x3.2.2.2.2.2.2.1.2 x0 fun (t23 : T_Arm) =>
    ocall (.m (.one (.int .i64))) [] (spec_l5arm t23 (w64 (x2 + (1 : Int)))) fun (r24 : Int) (m25 : Unit) =>
    oite (decide (r24 < (0 : Int)))
      (some ((.d (.int .i64 (-1 : Int))), []))
      (oite (decide ((w64 (x1 + r24)) > (300 : Int)))
        (some ((.d (.int .i64 (-1 : Int))), []))
        (spec_l5expr_j18 (w64 (x0 + (1 : Int))) (w64 (x1 + r24)) x2 x3)))
    (some ((.d (.int .i64 x1)), [])) := (evI_eq ..).trans (by kernel_rfl)
noncomputable def impl_count_j2 (x0 : Int) (x1 : Bool) (x2 : T_Expr) : Res := (fun (p : Env × Mem) => evI cx 63 1 2 p.1 p.2) ([(1, (.d (.int .i64 x0))), (0, (.ptr 0 0)), (14, (.d (.bool x1)))], [(.box (LS.encs sh_Expr x2))])
noncomputable def impl_count_j1 (x0 : Int) (x1 : T_Expr) : Res := (fun (p : Env × Mem) => evI cx 63 1 1 p.1 p.2) ([(1, (.d (.int .i64 x0))), (0, (.ptr 0 0))], [(.box (LS.encs sh_Expr x1))])
noncomputable def impl_count_j3 (x0 : Int) (x1 : Int) (x2 : Int) (x3 : Int) (x4 : T_Expr) : Res := (fun (p : Env × Mem) => evI cx 63 1 3 p.1 p.2) ([(20, (.d (.int .i64 x0))), (1, (.d (.int .i64 x1))), (0, (.ptr 0 0)), (5, (.d (.int .i64 x2))), (19, (.d (.int .i64 x3)))], [(.box (LS.encs sh_Expr x4))])
noncomputable def impl_count_j4 (x0 : Int) (x1 : Int) (x2 : Int) (x3 : Int) (x4 : T_Expr) : Res := (fun (p : Env × Mem) => evI cx 63 1 4 p.1 p.2) ([(42, (.d (.int .i64 x0))), (1, (.d (.int .i64 x1))), (0, (.ptr 0 0)), (5, (.d (.int .i64 x2))), (41, (.d (.int .i64 x3)))], [(.box (LS.encs sh_Expr x4))])
theorem impl_count_eq (x0 : Int) (x1 : T_Expr) : impl_count x0 x1 =
  oite (decide (x0 > (40 : Int)))
    (impl_count_j2 x0 true x1)
    (ocall (.m (.one .bool)) [(.box sh_Expr)] (impl_Expr_headOk x1) fun (r0 : Bool) (m1 : (T_Expr × Unit)) =>
    impl_count_j2 x0 (!r0) m1.1) := (evF_eq ..).trans (by kernel_rfl)
theorem impl_count_j2_eq (x0 : Int) (x1 : Bool) (x2 : T_Expr) : impl_count_j2 x0 x1 x2 =
  oite x1
    (some ((.d (.int .i64 (301 : Int))), [(.box (LS.encs sh_Expr x2))]))
    (impl_count_j1 x0 x2) := (evI_eq ..).trans (by kernel_rfl)
theorem impl_count_j1_eq (x0 : Int) (x1 : T_Expr) : impl_count_j1 x0 x1 =
  impl_count_j3 (0 : Int) x0 (1 : Int) ((x1.2.2.2.2.2.1.1 : Nat) : Int) x1 := (evI_eq ..).trans (by kernel_rfl)
-- a loop's head
theorem impl_count_j3_eq (x0 : Int) (x1 : Int) (x2 : Int) (x3 : Int) (x4 : T_Expr) : impl_count_j3 x0 x1 x2 x3 x4 =
  oite (decide (x0 < x3))
    (oat sh_Expr x4.2.2.2.2.2.1.1 x4.2.2.2.2.2.1.2 x0 fun (t2 : T_Expr) =>
    ocall (.m (.one (.int .i64))) [] (impl_count_r t2 (w64 (x1 + (1 : Int)))) fun (r3 : Int) (m4 : Unit) =>
    oite (decide ((w64 (x2 + r3)) > (300 : Int)))
      (some ((.d (.int .i64 (301 : Int))), [(.box (LS.encs sh_Expr x4))]))
      (impl_count_j3 (w64 (x0 + (1 : Int))) x1 (w64 (x2 + r3)) x3 x4))
    (impl_count_j4 (0 : Int) x1 x2 ((x4.2.2.2.2.2.2.1.1 : Nat) : Int) x4) := (evI_eq ..).trans (by kernel_rfl)
-- a loop's head
theorem impl_count_j4_eq (x0 : Int) (x1 : Int) (x2 : Int) (x3 : Int) (x4 : T_Expr) : impl_count_j4 x0 x1 x2 x3 x4 =
  oite (decide (x0 < x3))
    (oat sh_Arm x4.2.2.2.2.2.2.1.1 x4.2.2.2.2.2.2.1.2 x0 fun (t5 : T_Arm) =>
    ocall (.m (.one .bool)) [] (impl_armOk t5) fun (r6 : Bool) (m7 : Unit) =>
    oite (!r6)
      (some ((.d (.int .i64 (301 : Int))), [(.box (LS.encs sh_Expr x4))]))
      (oat sh_Arm x4.2.2.2.2.2.2.1.1 x4.2.2.2.2.2.2.1.2 x0 fun (t8 : T_Arm) =>
      ocall (.m (.one (.int .i64))) [] (impl_count_r t8.2.2 (w64 (x1 + (1 : Int)))) fun (r9 : Int) (m10 : Unit) =>
      oite (decide ((w64 (x2 + r9)) > (300 : Int)))
        (some ((.d (.int .i64 (301 : Int))), [(.box (LS.encs sh_Expr x4))]))
        (impl_count_j4 (w64 (x0 + (1 : Int))) x1 (w64 (x2 + r9)) x3 x4)))
    (some ((.d (.int .i64 x2)), [(.box (LS.encs sh_Expr x4))])) := (evI_eq ..).trans (by kernel_rfl)
noncomputable def laws_eqByteS_j1 (x0 : Int) (x1 : Sl) (x2 : Sl) : Res := (fun (p : Env × Mem) => evI cx 33 0 1 p.1 p.2) ([(5, (.d (.int .i64 x0))), (1, (.d (.sl false 1 x1.1 x1.2))), (0, (.d (.sl false 1 x2.1 x2.2)))], [])
theorem laws_eqByteS_eq (x0 : Sl) (x1 : Sl) : laws_eqByteS x0 x1 =
  oite (!(((x0.1 : Nat) : Int) == ((x1.1 : Nat) : Int)))
    (some ((.d (.bool false)), []))
    (laws_eqByteS_j1 (0 : Int) x1 x0) := (evF_eq ..).trans (by kernel_rfl)
-- a loop's head
theorem laws_eqByteS_j1_eq (x0 : Int) (x1 : Sl) (x2 : Sl) : laws_eqByteS_j1 x0 x1 x2 =
  oite (decide (x0 < ((x2.1 : Nat) : Int)))
    (oat [(.int .u8)] x2.1 x2.2 x0 fun (t0 : (Int × Unit)) =>
    oat [(.int .u8)] x1.1 x1.2 x0 fun (t1 : (Int × Unit)) =>
    oite (!(t0.1 == t1.1))
      (some ((.d (.bool false)), []))
      (laws_eqByteS_j1 (w64 (x0 + (1 : Int))) x1 x2))
    (some ((.d (.bool true)), [])) := (evI_eq ..).trans (by kernel_rfl)
noncomputable def laws_eqExprS_j1 (x0 : Int) (x1 : Sl) (x2 : Sl) : Res := (fun (p : Env × Mem) => evI cx 64 0 1 p.1 p.2) ([(5, (.d (.int .i64 x0))), (1, (.d (.sl false 7 x1.1 x1.2))), (0, (.d (.sl false 7 x2.1 x2.2)))], [])
theorem laws_eqExprS_eq (x0 : Sl) (x1 : Sl) : laws_eqExprS x0 x1 =
  oite (!(((x0.1 : Nat) : Int) == ((x1.1 : Nat) : Int)))
    (some ((.d (.bool false)), []))
    (laws_eqExprS_j1 (0 : Int) x1 x0) := (evF_eq ..).trans (by kernel_rfl)
-- a loop's head
theorem laws_eqExprS_j1_eq (x0 : Int) (x1 : Sl) (x2 : Sl) : laws_eqExprS_j1 x0 x1 x2 =
  oite (decide (x0 < ((x2.1 : Nat) : Int)))
    (oat sh_Expr x2.1 x2.2 x0 fun (t0 : T_Expr) =>
    oat sh_Expr x1.1 x1.2 x0 fun (t1 : T_Expr) =>
    ocall (.m (.one .bool)) [] (laws_eqExpr t0 t1) fun (r2 : Bool) (m3 : Unit) =>
    oite (!r2)
      (some ((.d (.bool false)), []))
      (laws_eqExprS_j1 (w64 (x0 + (1 : Int))) x1 x2))
    (some ((.d (.bool true)), [])) := (evI_eq ..).trans (by kernel_rfl)
noncomputable def laws_eqArmS_j1 (x0 : Int) (x1 : Sl) (x2 : Sl) : Res := (fun (p : Env × Mem) => evI cx 65 0 1 p.1 p.2) ([(5, (.d (.int .i64 x0))), (1, (.d (.sl false 9 x1.1 x1.2))), (0, (.d (.sl false 9 x2.1 x2.2)))], [])
theorem laws_eqArmS_eq (x0 : Sl) (x1 : Sl) : laws_eqArmS x0 x1 =
  oite (!(((x0.1 : Nat) : Int) == ((x1.1 : Nat) : Int)))
    (some ((.d (.bool false)), []))
    (laws_eqArmS_j1 (0 : Int) x1 x0) := (evF_eq ..).trans (by kernel_rfl)
-- a loop's head
theorem laws_eqArmS_j1_eq (x0 : Int) (x1 : Sl) (x2 : Sl) : laws_eqArmS_j1 x0 x1 x2 =
  oite (decide (x0 < ((x2.1 : Nat) : Int)))
    (oat sh_Arm x2.1 x2.2 x0 fun (t0 : T_Arm) =>
    oat sh_Arm x1.1 x1.2 x0 fun (t1 : T_Arm) =>
    ocall (.m (.one .bool)) [] (laws_eqArm t0 t1) fun (r2 : Bool) (m3 : Unit) =>
    oite (!r2)
      (some ((.d (.bool false)), []))
      (laws_eqArmS_j1 (w64 (x0 + (1 : Int))) x1 x2))
    (some ((.d (.bool true)), [])) := (evI_eq ..).trans (by kernel_rfl)
theorem laws_szArm_eq (x0 : T_Arm) (x1 : Int) : laws_szArm x0 x1 =
  ocall (.m (.one (.int .i64))) [] (laws_szByteS x0.1 x1) fun (r0 : Int) (m1 : Unit) =>
  oite (decide (r0 < (0 : Int)))
    (some ((.d (.int .i64 (-1 : Int))), []))
    (ocall (.m (.one (.int .i64))) [] (laws_szByteSS x0.2.1 r0) fun (r2 : Int) (m3 : Unit) =>
    oite (decide (r2 < (0 : Int)))
      (some ((.d (.int .i64 (-1 : Int))), []))
      (ocall (.m (.one (.int .i64))) [] (laws_szExpr x0.2.2 r2) fun (r4 : Int) (m5 : Unit) =>
      oite (decide (r4 < (0 : Int)))
        (some ((.d (.int .i64 (-1 : Int))), []))
        (some ((.d (.int .i64 r4)), [])))) := (evF_eq ..).trans (by kernel_rfl)
theorem laws_toArm_eq (x0 : T_Arm) : laws_toArm x0 =
  ocall (.m (.one (.sl 1))) [] (laws_toByteS x0.1) fun (r0 : Sl) (m1 : Unit) =>
  ocall (.m (.one (.sl 1))) [] (laws_toByteSS x0.2.1) fun (r2 : Sl) (m3 : Unit) =>
  ocall (.m (.agg sh_Expr)) [] (laws_toExpr x0.2.2) fun (r4 : T_Expr) (m5 : Unit) =>
  some ((.agg (LS.encs sh_Arm (r0, r2, r4.1, r4.2.1, r4.2.2.1, r4.2.2.2.1, r4.2.2.2.2.1, r4.2.2.2.2.2.1, r4.2.2.2.2.2.2.1, ()))), []) := (evF_eq ..).trans (by kernel_rfl)
noncomputable def spec_l5shape_j1 (x0 : Int) (x1 : Bool) (x2 : T_Expr) : Res := (fun (p : Env × Mem) => evI cx 111 0 1 p.1 p.2) ([(1, (.ptr 0 0)), (6, (.d (.int .i64 x0))), (7, (.d (.bool x1)))], [(.box (LS.encs sh_Expr x2))])
noncomputable def spec_l5shape_j2 (x0 : Int) (x1 : Bool) (x2 : T_Expr) : Res := (fun (p : Env × Mem) => evI cx 111 0 2 p.1 p.2) ([(1, (.ptr 0 0)), (6, (.d (.int .i64 x0))), (15, (.d (.bool x1)))], [(.box (LS.encs sh_Expr x2))])
noncomputable def spec_l5shape_j3 (x0 : Int) (x1 : Bool) (x2 : T_Expr) : Res := (fun (p : Env × Mem) => evI cx 111 0 3 p.1 p.2) ([(1, (.ptr 0 0)), (6, (.d (.int .i64 x0))), (19, (.d (.bool x1)))], [(.box (LS.encs sh_Expr x2))])
noncomputable def spec_l5shape_j4 (x0 : Int) (x1 : Bool) (x2 : T_Expr) : Res := (fun (p : Env × Mem) => evI cx 111 0 4 p.1 p.2) ([(1, (.ptr 0 0)), (6, (.d (.int .i64 x0))), (26, (.d (.bool x1)))], [(.box (LS.encs sh_Expr x2))])
noncomputable def spec_l5shape_j6 (x0 : Bool) (x1 : T_Expr) : Res := (fun (p : Env × Mem) => evI cx 111 0 6 p.1 p.2) ([(1, (.ptr 0 0)), (47, (.d (.bool x0)))], [(.box (LS.encs sh_Expr x1))])
noncomputable def spec_l5shape_j7 (x0 : Int) (x1 : Bool) : Res := (fun (p : Env × Mem) => evI cx 111 0 7 p.1 p.2) ([(54, (.d (.int .i64 x0))), (57, (.d (.bool x1)))], [])
noncomputable def spec_l5shape_j5 (x0 : T_Expr) : Res := (fun (p : Env × Mem) => evI cx 111 0 5 p.1 p.2) ([(1, (.ptr 0 0))], [(.box (LS.encs sh_Expr x0))])
theorem spec_l5shape_eq (x0 : T_Expr) : spec_l5shape x0 =
  oite (x0.1 == (0 : Int))
    (spec_l5shape_j1 x0.1 (x0.1 == (0 : Int)) x0)
    (oite (x0.1 == (1 : Int))
      (spec_l5shape_j1 x0.1 (x0.1 == (1 : Int)) x0)
      (spec_l5shape_j1 x0.1 (x0.1 == (2 : Int)) x0)) := (evF_eq ..).trans (by kernel_rfl)
theorem spec_l5shape_j1_eq (x0 : Int) (x1 : Bool) (x2 : T_Expr) : spec_l5shape_j1 x0 x1 x2 =
  oite x1
    (some ((.tup [(.d (.int .i64 (0 : Int))), (.d (.bool false)), (.d (.bool false))]), []))
    (oite (x0 == (3 : Int))
      (some ((.tup [(.d (.int .i64 (0 : Int))), (.d (.bool true)), (.d (.bool false))]), []))
      (oite (x0 == (4 : Int))
        (some ((.tup [(.d (.int .i64 (1 : Int))), (.d (.bool true)), (.d (.bool false))]), []))
        (oite (x0 == (5 : Int))
          (spec_l5shape_j2 x0 (x0 == (5 : Int)) x2)
          (oite (x0 == (9 : Int))
            (spec_l5shape_j2 x0 (x0 == (9 : Int)) x2)
            (spec_l5shape_j2 x0 (x0 == (14 : Int)) x2))))) := (evI_eq ..).trans (by kernel_rfl)
theorem spec_l5shape_j2_eq (x0 : Int) (x1 : Bool) (x2 : T_Expr) : spec_l5shape_j2 x0 x1 x2 =
  oite x1
    (some ((.tup [(.d (.int .i64 (2 : Int))), (.d (.bool false)), (.d (.bool false))]), []))
    (oite (x0 == (6 : Int))
      (spec_l5shape_j3 x0 (x0 == (6 : Int)) x2)
      (spec_l5shape_j3 x0 (x0 == (18 : Int)) x2)) := (evI_eq ..).trans (by kernel_rfl)
theorem spec_l5shape_j3_eq (x0 : Int) (x1 : Bool) (x2 : T_Expr) : spec_l5shape_j3 x0 x1 x2 =
  oite x1
    (some ((.tup [(.d (.int .i64 (2 : Int))), (.d (.bool true)), (.d (.bool false))]), []))
    (oite (x0 == (7 : Int))
      (some ((.tup [(.d (.int .i64 (2 : Int))), (.d (.bool true)), (.d (.bool true))]), []))
      (oite (x0 == (8 : Int))
        (some ((.tup [(.d (.int .i64 (3 : Int))), (.d (.bool false)), (.d (.bool false))]), []))
        (oite (x0 == (10 : Int))
          (spec_l5shape_j4 x0 (x0 == (10 : Int)) x2)
          (oite (x0 == (11 : Int))
            (spec_l5shape_j4 x0 (x0 == (11 : Int)) x2)
            (oite (x0 == (12 : Int))
              (spec_l5shape_j4 x0 (x0 == (12 : Int)) x2)
              (oite (x0 == (13 : Int))
                (spec_l5shape_j4 x0 (x0 == (13 : Int)) x2)
                (oite (x0 == (17 : Int))
                  (spec_l5shape_j4 x0 (x0 == (17 : Int)) x2)
                  (spec_l5shape_j4 x0 (x0 == (16 : Int)) x2)))))))) := (evI_eq ..).trans (by kernel_rfl)
theorem spec_l5shape_j4_eq (x0 : Int) (x1 : Bool) (x2 : T_Expr) : spec_l5shape_j4 x0 x1 x2 =
  oite x1
    (some ((.tup [(.d (.int .i64 (1 : Int))), (.d (.bool false)), (.d (.bool false))]), []))
    (oite (x0 == (15 : Int))
      (some ((.tup [(.d (.int .i64 ((x2.2.2.2.2.2.1.1 : Nat) : Int))), (.d (.bool true)), (.d (.bool false))]), []))
      (oite (x0 == (19 : Int))
        (oite (decide (x2.2.1 < (0 : Int)))
          (spec_l5shape_j6 true x2)
          (spec_l5shape_j6 (decide (x2.2.1 > (6 : Int))) x2))
        (oite (x0 == (20 : Int))
          (oite (x2.2.1 == (1 : Int))
            (some ((.tup [(.d (.int .i64 (0 : Int))), (.d (.bool false)), (.d (.bool false))]), []))
            (oite (x2.2.1 == (0 : Int))
              (spec_l5shape_j7 x2.2.1 (x2.2.1 == (0 : Int)))
              (oite (x2.2.1 == (2 : Int))
                (spec_l5shape_j7 x2.2.1 (x2.2.1 == (2 : Int)))
                (spec_l5shape_j7 x2.2.1 (x2.2.1 == (3 : Int))))))
          (some ((.tup [(.d (.int .i64 (-1 : Int))), (.d (.bool false)), (.d (.bool false))]), []))))) := (evI_eq ..).trans (by kernel_rfl)
theorem spec_l5shape_j6_eq (x0 : Bool) (x1 : T_Expr) : spec_l5shape_j6 x0 x1 =
  oite x0
    (some ((.tup [(.d (.int .i64 (-1 : Int))), (.d (.bool false)), (.d (.bool false))]), []))
    (spec_l5shape_j5 x1) := (evI_eq ..).trans (by kernel_rfl)
theorem spec_l5shape_j7_eq (x0 : Int) (x1 : Bool) : spec_l5shape_j7 x0 x1 =
  oite x1
    (some ((.tup [(.d (.int .i64 (1 : Int))), (.d (.bool false)), (.d (.bool false))]), []))
    (oite (x0 == (4 : Int))
      (some ((.tup [(.d (.int .i64 (2 : Int))), (.d (.bool false)), (.d (.bool false))]), []))
      (some ((.tup [(.d (.int .i64 (-1 : Int))), (.d (.bool false)), (.d (.bool false))]), []))) := (evI_eq ..).trans (by kernel_rfl)
theorem spec_l5shape_j5_eq (x0 : T_Expr) : spec_l5shape_j5 x0 =
  oite (x0.2.1 == (6 : Int))
    (some ((.tup [(.d (.int .i64 (1 : Int))), (.d (.bool false)), (.d (.bool false))]), []))
    (some ((.tup [(.d (.int .i64 (2 : Int))), (.d (.bool false)), (.d (.bool false))]), [])) := (evI_eq ..).trans (by kernel_rfl)
theorem spec_l5name_eq (x0 : Sl) : spec_l5name x0 =
  ocall (.m (.one .bool)) [] (spec_l5word x0 false) fun (r0 : Bool) (m1 : Unit) =>
  oite r0
    (ocall (.m (.one .bool)) [] (spec_l5key x0) fun (r2 : Bool) (m3 : Unit) =>
    some ((.d (.bool (!r2))), []))
    (some ((.d (.bool false)), [])) := (evF_eq ..).trans (by kernel_rfl)
noncomputable def spec_l5word_j2 (x0 : Sl) (x1 : Bool) (x2 : Bool) : Res := (fun (p : Env × Mem) => evI cx 47 0 2 p.1 p.2) ([(0, (.d (.sl false 1 x0.1 x0.2))), (1, (.d (.bool x1))), (13, (.d (.bool x2)))], [])
noncomputable def spec_l5word_j1 (x0 : Sl) (x1 : Bool) : Res := (fun (p : Env × Mem) => evI cx 47 0 1 p.1 p.2) ([(0, (.d (.sl false 1 x0.1 x0.2))), (1, (.d (.bool x1)))], [])
noncomputable def spec_l5word_j3 (x0 : Int) (x1 : Sl) (x2 : Bool) : Res := (fun (p : Env × Mem) => evI cx 47 0 3 p.1 p.2) ([(5, (.d (.int .i64 x0))), (0, (.d (.sl false 1 x1.1 x1.2))), (1, (.d (.bool x2)))], [])
noncomputable def spec_l5word_j5 (x0 : Sl) (x1 : Bool) (x2 : Int) (x3 : Bool) : Res := (fun (p : Env × Mem) => evI cx 47 0 5 p.1 p.2) ([(0, (.d (.sl false 1 x0.1 x0.2))), (1, (.d (.bool x1))), (5, (.d (.int .i64 x2))), (24, (.d (.bool x3)))], [])
noncomputable def spec_l5word_j4 (x0 : Sl) (x1 : Bool) (x2 : Int) : Res := (fun (p : Env × Mem) => evI cx 47 0 4 p.1 p.2) ([(0, (.d (.sl false 1 x0.1 x0.2))), (1, (.d (.bool x1))), (5, (.d (.int .i64 x2)))], [])
noncomputable def spec_l5word_j6 (x0 : Sl) (x1 : Bool) (x2 : Int) (x3 : Bool) : Res := (fun (p : Env × Mem) => evI cx 47 0 6 p.1 p.2) ([(0, (.d (.sl false 1 x0.1 x0.2))), (1, (.d (.bool x1))), (5, (.d (.int .i64 x2))), (48, (.d (.bool x3)))], [])
theorem spec_l5word_eq (x0 : Sl) (x1 : Bool) : spec_l5word x0 x1 =
  oite (decide (((x0.1 : Nat) : Int) < (1 : Int)))
    (spec_l5word_j2 x0 x1 true)
    (spec_l5word_j2 x0 x1 (decide (((x0.1 : Nat) : Int) > (8 : Int)))) := (evF_eq ..).trans (by kernel_rfl)
theorem spec_l5word_j2_eq (x0 : Sl) (x1 : Bool) (x2 : Bool) : spec_l5word_j2 x0 x1 x2 =
  oite x2
    (some ((.d (.bool false)), []))
    (spec_l5word_j1 x0 x1) := (evI_eq ..).trans (by kernel_rfl)
theorem spec_l5word_j1_eq (x0 : Sl) (x1 : Bool) : spec_l5word_j1 x0 x1 =
  spec_l5word_j3 (0 : Int) x0 x1 := (evI_eq ..).trans (by kernel_rfl)
-- a loop's head
theorem spec_l5word_j3_eq (x0 : Int) (x1 : Sl) (x2 : Bool) : spec_l5word_j3 x0 x1 x2 =
  oite (decide (x0 < ((x1.1 : Nat) : Int)))
    (oite (x0 == (0 : Int))
      (spec_l5word_j5 x1 x2 x0 x2)
      (spec_l5word_j5 x1 x2 x0 false))
    (some ((.d (.bool true)), [])) := (evI_eq ..).trans (by kernel_rfl)
theorem spec_l5word_j5_eq (x0 : Sl) (x1 : Bool) (x2 : Int) (x3 : Bool) : spec_l5word_j5 x0 x1 x2 x3 =
  oite x3
    (oat [(.int .u8)] x0.1 x0.2 x2 fun (t0 : (Int × Unit)) =>
    ocall (.m (.one .bool)) [] (spec_l5upper t0.1) fun (r1 : Bool) (m2 : Unit) =>
    oite (!r1)
      (some ((.d (.bool false)), []))
      (spec_l5word_j3 (w64 (x2 + (1 : Int))) x0 x1))
    (spec_l5word_j4 x0 x1 x2) := (evI_eq ..).trans (by kernel_rfl)
theorem spec_l5word_j4_eq (x0 : Sl) (x1 : Bool) (x2 : Int) : spec_l5word_j4 x0 x1 x2 =
  oat [(.int .u8)] x0.1 x0.2 x2 fun (t3 : (Int × Unit)) =>
  ocall (.m (.one .bool)) [] (spec_l5lower t3.1) fun (r4 : Bool) (m5 : Unit) =>
  oite (!r4)
    (oite (decide (x2 > (0 : Int)))
      (oat [(.int .u8)] x0.1 x0.2 x2 fun (t6 : (Int × Unit)) =>
      ocall (.m (.one .bool)) [] (spec_l5digit t6.1) fun (r7 : Bool) (m8 : Unit) =>
      spec_l5word_j6 x0 x1 x2 (!r7))
      (spec_l5word_j6 x0 x1 x2 true))
    (spec_l5word_j6 x0 x1 x2 false) := (evI_eq ..).trans (by kernel_rfl)
theorem spec_l5word_j6_eq (x0 : Sl) (x1 : Bool) (x2 : Int) (x3 : Bool) : spec_l5word_j6 x0 x1 x2 x3 =
  oite x3
    (some ((.d (.bool false)), []))
    (spec_l5word_j3 (w64 (x2 + (1 : Int))) x0 x1) := (evI_eq ..).trans (by kernel_rfl)
theorem spec_l5intOk_eq (x0 : Int) : spec_l5intOk x0 =
  oite (decide (x0 ≥ (-1073741824 : Int)))
    (some ((.d (.bool (decide (x0 ≤ (1073741823 : Int))))), []))
    (some ((.d (.bool false)), [])) := (evF_eq ..).trans (by kernel_rfl)
noncomputable def spec_l5lit_j1 (x0 : Int) (x1 : Sl) : Res := (fun (p : Env × Mem) => evI cx 88 0 1 p.1 p.2) ([(3, (.d (.int .i64 x0))), (0, (.d (.sl false 1 x1.1 x1.2)))], [])
noncomputable def spec_l5lit_j2 (x0 : Sl) (x1 : Int) (x2 : Bool) : Res := (fun (p : Env × Mem) => evI cx 88 0 2 p.1 p.2) ([(0, (.d (.sl false 1 x0.1 x0.2))), (3, (.d (.int .i64 x1))), (38, (.d (.bool x2)))], [])
theorem spec_l5lit_eq (x0 : Sl) : spec_l5lit x0 =
  oite (decide (((x0.1 : Nat) : Int) > (20 : Int)))
    (some ((.d (.bool false)), []))
    (spec_l5lit_j1 (0 : Int) x0) := (evF_eq ..).trans (by kernel_rfl)
-- a loop's head
theorem spec_l5lit_j1_eq (x0 : Int) (x1 : Sl) : spec_l5lit_j1 x0 x1 =
  oite (decide (x0 < ((x1.1 : Nat) : Int)))
    (oat [(.int .u8)] x1.1 x1.2 x0 fun (t0 : (Int × Unit)) =>
    oite (decide (t0.1 < (32 : Int)))
      (spec_l5lit_j2 x1 x0 true)
      (oat [(.int .u8)] x1.1 x1.2 x0 fun (t1 : (Int × Unit)) =>
      oite (decide (t1.1 > (126 : Int)))
        (spec_l5lit_j2 x1 x0 true)
        (oat [(.int .u8)] x1.1 x1.2 x0 fun (t2 : (Int × Unit)) =>
        oite (t2.1 == (34 : Int))
          (spec_l5lit_j2 x1 x0 true)
          (oat [(.int .u8)] x1.1 x1.2 x0 fun (t3 : (Int × Unit)) =>
          spec_l5lit_j2 x1 x0 (t3.1 == (92 : Int))))))
    (some ((.d (.bool true)), [])) := (evI_eq ..).trans (by kernel_rfl)
theorem spec_l5lit_j2_eq (x0 : Sl) (x1 : Int) (x2 : Bool) : spec_l5lit_j2 x0 x1 x2 =
  oite x2
    (some ((.d (.bool false)), []))
    (spec_l5lit_j1 (w64 (x1 + (1 : Int))) x0) := (evI_eq ..).trans (by kernel_rfl)
noncomputable def spec_l5arm_j2 (x0 : Int) (x1 : Bool) (x2 : T_Arm) : Res := (fun (p : Env × Mem) => evI cx 113 0 2 p.1 p.2) ([(2, (.ptr 0 0)), (1, (.d (.int .i64 x0))), (28, (.d (.bool x1)))], [(.box (LS.encs sh_Arm x2))])
noncomputable def spec_l5arm_j1 (x0 : Int) (x1 : T_Arm) : Res := (fun (p : Env × Mem) => evI cx 113 0 1 p.1 p.2) ([(2, (.ptr 0 0)), (1, (.d (.int .i64 x0)))], [(.box (LS.encs sh_Arm x1))])
noncomputable def spec_l5arm_j3 (x0 : Int) (x1 : Int) (x2 : T_Arm) : Res := (fun (p : Env × Mem) => evI cx 113 0 3 p.1 p.2) ([(2, (.ptr 0 0)), (5, (.d (.int .i64 x0))), (1, (.d (.int .i64 x1)))], [(.box (LS.encs sh_Arm x2))])
noncomputable def spec_l5arm_j4 (x0 : Int) (x1 : Int) (x2 : Int) (x3 : T_Arm) : Res := (fun (p : Env × Mem) => evI cx 113 0 4 p.1 p.2) ([(6, (.d (.int .i64 x0))), (2, (.ptr 0 0)), (5, (.d (.int .i64 x1))), (1, (.d (.int .i64 x2)))], [(.box (LS.encs sh_Arm x3))])
theorem spec_l5arm_eq (x0 : T_Arm) (x1 : Int) : spec_l5arm x0 x1 =
  oite (((x0.1.1 : Nat) : Int) == (0 : Int))
    (oite (decide (((x0.2.1.1 : Nat) : Int) > (0 : Int)))
      (some ((.d (.int .i64 (-1 : Int))), []))
      (ocall (.m (.one (.int .i64))) [] (spec_l5expr x0.2.2 x1) fun (r0 : Int) (m1 : Unit) =>
      some ((.d (.int .i64 r0)), [])))
    (ocall (.m (.one .bool)) [] (spec_l5word x0.1 true) fun (r2 : Bool) (m3 : Unit) =>
    oite (!r2)
      (spec_l5arm_j2 x1 true x0)
      (spec_l5arm_j2 x1 (decide (((x0.2.1.1 : Nat) : Int) > (3 : Int))) x0)) := (evF_eq ..).trans (by kernel_rfl)
theorem spec_l5arm_j2_eq (x0 : Int) (x1 : Bool) (x2 : T_Arm) : spec_l5arm_j2 x0 x1 x2 =
  oite x1
    (some ((.d (.int .i64 (-1 : Int))), []))
    (spec_l5arm_j1 x0 x2) := (evI_eq ..).trans (by kernel_rfl)
theorem spec_l5arm_j1_eq (x0 : Int) (x1 : T_Arm) : spec_l5arm_j1 x0 x1 =
  spec_l5arm_j3 (0 : Int) x0 x1 := (evI_eq ..).trans (by kernel_rfl)
-- a loop's head
theorem spec_l5arm_j3_eq (x0 : Int) (x1 : Int) (x2 : T_Arm) : spec_l5arm_j3 x0 x1 x2 =
  oite (decide (x0 < ((x2.2.1.1 : Nat) : Int)))
    (oat [(.sl 1)] x2.2.1.1 x2.2.1.2 x0 fun (t4 : (Sl × Unit)) =>
    ocall (.m (.one .bool)) [] (spec_l5name t4.1) fun (r5 : Bool) (m6 : Unit) =>
    oite (!r5)
      (some ((.d (.int .i64 (-1 : Int))), []))
      (spec_l5arm_j4 (0 : Int) x0 x1 x2))
    (ocall (.m (.one (.int .i64))) [] (spec_l5expr x2.2.2 x1) fun (r7 : Int) (m8 : Unit) =>
    some ((.d (.int .i64 r7)), [])) := (evI_eq ..).trans (by kernel_rfl)
-- a loop's head
theorem spec_l5arm_j4_eq (x0 : Int) (x1 : Int) (x2 : Int) (x3 : T_Arm) : spec_l5arm_j4 x0 x1 x2 x3 =
  oite (decide (x0 < x1))
    (oat [(.sl 1)] x3.2.1.1 x3.2.1.2 x1 fun (t9 : (Sl × Unit)) =>
    ostr t9.1.2 fun (s10 : ByteArray) =>
    oat [(.sl 1)] x3.2.1.1 x3.2.1.2 x0 fun (t11 : (Sl × Unit)) =>
    ostr t11.1.2 fun (s12 : ByteArray) =>
    oite ((ByteArray.toList s10) == (ByteArray.toList s12))
      (some ((.d (.int .i64 (-1 : Int))), []))
      (spec_l5arm_j4 (w64 (x0 + (1 : Int))) x1 x2 x3))
    (spec_l5arm_j3 (w64 (x1 + (1 : Int))) x2 x3) := (evI_eq ..).trans (by kernel_rfl)
noncomputable def impl_Expr_headOk_j2 (x0 : Bool) (x1 : T_Expr) : Res := (fun (p : Env × Mem) => evI cx 115 1 2 p.1 p.2) ([(0, (.ptr 0 0)), (23, (.d (.bool x0)))], [(.box (LS.encs sh_Expr x1))])
noncomputable def impl_Expr_headOk_j1 (x0 : T_Expr) : Res := (fun (p : Env × Mem) => evI cx 115 1 1 p.1 p.2) ([(0, (.ptr 0 0))], [(.box (LS.encs sh_Expr x0))])
noncomputable def impl_Expr_headOk_j5 (x0 : ByteArray) (x1 : ByteArray) (x2 : Bool) (x3 : T_Expr) : Res := (fun (p : Env × Mem) => evI cx 115 1 5 p.1 p.2) ([(0, (.ptr 0 0)), (4, (.d (.str x0))), (3, (.d (.str x1))), (34, (.d (.bool x2)))], [(.box (LS.encs sh_Expr x3))])
noncomputable def impl_Expr_headOk_j4 (x0 : ByteArray) (x1 : ByteArray) (x2 : Bool) (x3 : T_Expr) : Res := (fun (p : Env × Mem) => evI cx 115 1 4 p.1 p.2) ([(0, (.ptr 0 0)), (4, (.d (.str x0))), (3, (.d (.str x1))), (34, (.d (.bool x2)))], [(.box (LS.encs sh_Expr x3))])
noncomputable def impl_Expr_headOk_j6 (x0 : ByteArray) (x1 : ByteArray) (x2 : Bool) (x3 : T_Expr) : Res := (fun (p : Env × Mem) => evI cx 115 1 6 p.1 p.2) ([(0, (.ptr 0 0)), (4, (.d (.str x0))), (3, (.d (.str x1))), (34, (.d (.bool x2)))], [(.box (LS.encs sh_Expr x3))])
noncomputable def impl_Expr_headOk_j8 (x0 : Bool) (x1 : ByteArray) (x2 : T_Expr) : Res := (fun (p : Env × Mem) => evI cx 115 1 8 p.1 p.2) ([(0, (.ptr 0 0)), (72, (.d (.bool x0))), (4, (.d (.str x1)))], [(.box (LS.encs sh_Expr x2))])
noncomputable def impl_Expr_headOk_j7 (x0 : Bool) (x1 : T_Expr) : Res := (fun (p : Env × Mem) => evI cx 115 1 7 p.1 p.2) ([(0, (.ptr 0 0)), (72, (.d (.bool x0)))], [(.box (LS.encs sh_Expr x1))])
noncomputable def impl_Expr_headOk_j10 (x0 : Bool) (x1 : T_Expr) : Res := (fun (p : Env × Mem) => evI cx 115 1 10 p.1 p.2) ([(0, (.ptr 0 0)), (97, (.d (.bool x0)))], [(.box (LS.encs sh_Expr x1))])
noncomputable def impl_Expr_headOk_j9 (x0 : Bool) (x1 : T_Expr) : Res := (fun (p : Env × Mem) => evI cx 115 1 9 p.1 p.2) ([(0, (.ptr 0 0)), (97, (.d (.bool x0)))], [(.box (LS.encs sh_Expr x1))])
noncomputable def impl_Expr_headOk_j12 (x0 : Bool) (x1 : T_Expr) : Res := (fun (p : Env × Mem) => evI cx 115 1 12 p.1 p.2) ([(0, (.ptr 0 0)), (124, (.d (.bool x0)))], [(.box (LS.encs sh_Expr x1))])
noncomputable def impl_Expr_headOk_j11 (x0 : Bool) (x1 : T_Expr) : Res := (fun (p : Env × Mem) => evI cx 115 1 11 p.1 p.2) ([(0, (.ptr 0 0)), (124, (.d (.bool x0)))], [(.box (LS.encs sh_Expr x1))])
noncomputable def impl_Expr_headOk_j3 (x0 : T_Expr) : Res := (fun (p : Env × Mem) => evI cx 115 1 3 p.1 p.2) ([(0, (.ptr 0 0))], [(.box (LS.encs sh_Expr x0))])
noncomputable def impl_Expr_headOk_j14 (x0 : Bool) (x1 : T_Expr) : Res := (fun (p : Env × Mem) => evI cx 115 1 14 p.1 p.2) ([(0, (.ptr 0 0)), (179, (.d (.bool x0)))], [(.box (LS.encs sh_Expr x1))])
noncomputable def impl_Expr_headOk_j13 (x0 : T_Expr) : Res := (fun (p : Env × Mem) => evI cx 115 1 13 p.1 p.2) ([(0, (.ptr 0 0))], [(.box (LS.encs sh_Expr x0))])
theorem impl_Expr_headOk_eq (x0 : T_Expr) : impl_Expr_headOk x0 =
  ocall (.m (.one .bool)) [] (impl_within x0.1 (0 : Int) (20 : Int)) fun (r0 : Bool) (m1 : Unit) =>
  oite (!r0)
    (impl_Expr_headOk_j2 true x0)
    (ocall (.m (.one .bool)) [] (impl_numberOk x0.1 x0.2.1) fun (r2 : Bool) (m3 : Unit) =>
    impl_Expr_headOk_j2 (!r2) x0) := (evF_eq ..).trans (by kernel_rfl)
theorem impl_Expr_headOk_j2_eq (x0 : Bool) (x1 : T_Expr) : impl_Expr_headOk_j2 x0 x1 =
  oite x0
    (some ((.d (.bool false)), [(.box (LS.encs sh_Expr x1))]))
    (impl_Expr_headOk_j1 x1) := (evI_eq ..).trans (by kernel_rfl)
theorem impl_Expr_headOk_j1_eq (x0 : T_Expr) : impl_Expr_headOk_j1 x0 =
  ostr x0.2.2.1.2 fun (s4 : ByteArray) =>
  ostr x0.2.2.2.1.2 fun (s5 : ByteArray) =>
  ocall (.m (.one .bool)) [] (impl_named x0.1) fun (r6 : Bool) (m7 : Unit) =>
  oite r6
    (ocall (.m (.one .bool)) [] (impl_isName s4) fun (r8 : Bool) (m9 : Unit) =>
    impl_Expr_headOk_j5 s5 s4 (!r8) x0)
    (impl_Expr_headOk_j5 s5 s4 false x0) := (evI_eq ..).trans (by kernel_rfl)
theorem impl_Expr_headOk_j5_eq (x0 : ByteArray) (x1 : ByteArray) (x2 : Bool) (x3 : T_Expr) : impl_Expr_headOk_j5 x0 x1 x2 x3 =
  oite x2
    (impl_Expr_headOk_j4 x0 x1 x2 x3)
    (oite (x3.1 == (15 : Int))
      (ocall (.m (.one .bool)) [] (impl_isCon x1) fun (r10 : Bool) (m11 : Unit) =>
      impl_Expr_headOk_j6 x0 x1 (!r10) x3)
      (impl_Expr_headOk_j6 x0 x1 false x3)) := (evI_eq ..).trans (by kernel_rfl)
theorem impl_Expr_headOk_j4_eq (x0 : ByteArray) (x1 : ByteArray) (x2 : Bool) (x3 : T_Expr) : impl_Expr_headOk_j4 x0 x1 x2 x3 =
  oite x2
    (some ((.d (.bool false)), [(.box (LS.encs sh_Expr x3))]))
    (oite (x3.1 == (7 : Int))
      (ocall (.m (.one .bool)) [] (impl_isName x0) fun (r12 : Bool) (m13 : Unit) =>
      oite (!r12)
        (impl_Expr_headOk_j8 true x0 x3)
        (impl_Expr_headOk_j8 ((ByteArray.toList x0) == (ByteArray.toList x1)) x0 x3))
      (impl_Expr_headOk_j8 false x0 x3)) := (evI_eq ..).trans (by kernel_rfl)
theorem impl_Expr_headOk_j6_eq (x0 : ByteArray) (x1 : ByteArray) (x2 : Bool) (x3 : T_Expr) : impl_Expr_headOk_j6 x0 x1 x2 x3 =
  oite x2
    (impl_Expr_headOk_j4 x0 x1 x2 x3)
    (ocall (.m (.one .bool)) [] (impl_named x3.1) fun (r14 : Bool) (m15 : Unit) =>
    oite (!r14)
      (oite (!(x3.1 == (15 : Int)))
        (impl_Expr_headOk_j4 x0 x1 (!((ByteArray.toList x1) == (ByteArray.toList (ByteArray.mk (Array.mk []))))) x3)
        (impl_Expr_headOk_j4 x0 x1 false x3))
      (impl_Expr_headOk_j4 x0 x1 false x3)) := (evI_eq ..).trans (by kernel_rfl)
theorem impl_Expr_headOk_j8_eq (x0 : Bool) (x1 : ByteArray) (x2 : T_Expr) : impl_Expr_headOk_j8 x0 x1 x2 =
  oite x0
    (impl_Expr_headOk_j7 x0 x2)
    (oite (!(x2.1 == (7 : Int)))
      (impl_Expr_headOk_j7 (!((ByteArray.toList x1) == (ByteArray.toList (ByteArray.mk (Array.mk []))))) x2)
      (impl_Expr_headOk_j7 false x2)) := (evI_eq ..).trans (by kernel_rfl)
theorem impl_Expr_headOk_j7_eq (x0 : Bool) (x1 : T_Expr) : impl_Expr_headOk_j7 x0 x1 =
  oite x0
    (some ((.d (.bool false)), [(.box (LS.encs sh_Expr x1))]))
    (oite (x1.1 == (2 : Int))
      (ocall (.m (.one .bool)) [] (impl_litOk x1.2.2.2.2.1) fun (r16 : Bool) (m17 : Unit) =>
      impl_Expr_headOk_j10 (!r16) x1)
      (impl_Expr_headOk_j10 false x1)) := (evI_eq ..).trans (by kernel_rfl)
theorem impl_Expr_headOk_j10_eq (x0 : Bool) (x1 : T_Expr) : impl_Expr_headOk_j10 x0 x1 =
  oite x0
    (impl_Expr_headOk_j9 x0 x1)
    (oite (!(x1.1 == (2 : Int)))
      (impl_Expr_headOk_j9 (decide (((x1.2.2.2.2.1.1 : Nat) : Int) > (0 : Int))) x1)
      (impl_Expr_headOk_j9 false x1)) := (evI_eq ..).trans (by kernel_rfl)
theorem impl_Expr_headOk_j9_eq (x0 : Bool) (x1 : T_Expr) : impl_Expr_headOk_j9 x0 x1 =
  oite x0
    (some ((.d (.bool false)), [(.box (LS.encs sh_Expr x1))]))
    (oite (x1.1 == (16 : Int))
      (ocall (.m (.one .bool)) [] (impl_within ((x1.2.2.2.2.2.2.1.1 : Nat) : Int) (1 : Int) (6 : Int)) fun (r18 : Bool) (m19 : Unit) =>
      impl_Expr_headOk_j12 (!r18) x1)
      (impl_Expr_headOk_j12 false x1)) := (evI_eq ..).trans (by kernel_rfl)
theorem impl_Expr_headOk_j12_eq (x0 : Bool) (x1 : T_Expr) : impl_Expr_headOk_j12 x0 x1 =
  oite x0
    (impl_Expr_headOk_j11 x0 x1)
    (oite (!(x1.1 == (16 : Int)))
      (impl_Expr_headOk_j11 (decide (((x1.2.2.2.2.2.2.1.1 : Nat) : Int) > (0 : Int))) x1)
      (impl_Expr_headOk_j11 false x1)) := (evI_eq ..).trans (by kernel_rfl)
theorem impl_Expr_headOk_j11_eq (x0 : Bool) (x1 : T_Expr) : impl_Expr_headOk_j11 x0 x1 =
  oite x0
    (some ((.d (.bool false)), [(.box (LS.encs sh_Expr x1))]))
    (impl_Expr_headOk_j3 x1) := (evI_eq ..).trans (by kernel_rfl)
theorem impl_Expr_headOk_j3_eq (x0 : T_Expr) : impl_Expr_headOk_j3 x0 =
  ocall (.m (.one (.int .i64))) [] (impl_kidsOf x0.1 x0.2.1) fun (r20 : Int) (m21 : Unit) =>
  oite (!(r20 == ((x0.2.2.2.2.2.1.1 : Nat) : Int)))
    (oite (decide (r20 ≥ (0 : Int)))
      (impl_Expr_headOk_j14 true x0)
      (impl_Expr_headOk_j14 (decide (((x0.2.2.2.2.2.1.1 : Nat) : Int) > (3 : Int))) x0))
    (impl_Expr_headOk_j14 false x0) := (evI_eq ..).trans (by kernel_rfl)
theorem impl_Expr_headOk_j14_eq (x0 : Bool) (x1 : T_Expr) : impl_Expr_headOk_j14 x0 x1 =
  oite x0
    (some ((.d (.bool false)), [(.box (LS.encs sh_Expr x1))]))
    (impl_Expr_headOk_j13 x1) := (evI_eq ..).trans (by kernel_rfl)
theorem impl_Expr_headOk_j13_eq (x0 : T_Expr) : impl_Expr_headOk_j13 x0 =
  oite (!(x0.1 == (5 : Int)))
    (some ((.d (.bool true)), [(.box (LS.encs sh_Expr x0))]))
    (oat sh_Expr x0.2.2.2.2.2.1.1 x0.2.2.2.2.2.1.2 (0 : Int) fun (t22 : T_Expr) =>
    oite (!(t22.1 == (15 : Int)))
      (some ((.d (.bool true)), [(.box (LS.encs sh_Expr x0))]))
      (oat sh_Expr x0.2.2.2.2.2.1.1 x0.2.2.2.2.2.1.2 (0 : Int) fun (t23 : T_Expr) =>
      some ((.d (.bool (decide (((t23.2.2.2.2.2.1.1 : Nat) : Int) > (0 : Int))))), [(.box (LS.encs sh_Expr x0))]))) := (evI_eq ..).trans (by kernel_rfl)
noncomputable def impl_count_r_j2 (x0 : Int) (x1 : T_Expr) (x2 : Bool) : Res := (fun (p : Env × Mem) => evI cx 63 0 2 p.1 p.2) ([(1, (.d (.int .i64 x0))), (0, (.rp (vDs (LS.encs sh_Expr x1)) 0)), (14, (.d (.bool x2)))], [])
noncomputable def impl_count_r_j1 (x0 : Int) (x1 : T_Expr) : Res := (fun (p : Env × Mem) => evI cx 63 0 1 p.1 p.2) ([(1, (.d (.int .i64 x0))), (0, (.rp (vDs (LS.encs sh_Expr x1)) 0))], [])
noncomputable def impl_count_r_j3 (x0 : Int) (x1 : Int) (x2 : T_Expr) (x3 : Int) (x4 : Int) : Res := (fun (p : Env × Mem) => evI cx 63 0 3 p.1 p.2) ([(20, (.d (.int .i64 x0))), (1, (.d (.int .i64 x1))), (0, (.rp (vDs (LS.encs sh_Expr x2)) 0)), (5, (.d (.int .i64 x3))), (19, (.d (.int .i64 x4)))], [])
noncomputable def impl_count_r_j4 (x0 : Int) (x1 : Int) (x2 : T_Expr) (x3 : Int) (x4 : Int) : Res := (fun (p : Env × Mem) => evI cx 63 0 4 p.1 p.2) ([(42, (.d (.int .i64 x0))), (1, (.d (.int .i64 x1))), (0, (.rp (vDs (LS.encs sh_Expr x2)) 0)), (5, (.d (.int .i64 x3))), (41, (.d (.int .i64 x4)))], [])
theorem impl_count_r_eq (x0 : T_Expr) (x1 : Int) : impl_count_r x0 x1 =
  oite (decide (x1 > (40 : Int)))
    (impl_count_r_j2 x1 x0 true)
    (ocall (.m (.one .bool)) [] (impl_Expr_headOk_r x0) fun (r0 : Bool) (m1 : Unit) =>
    impl_count_r_j2 x1 x0 (!r0)) := (evF_eq ..).trans (by kernel_rfl)
theorem impl_count_r_j2_eq (x0 : Int) (x1 : T_Expr) (x2 : Bool) : impl_count_r_j2 x0 x1 x2 =
  oite x2
    (some ((.d (.int .i64 (301 : Int))), []))
    (impl_count_r_j1 x0 x1) := (evI_eq ..).trans (by kernel_rfl)
theorem impl_count_r_j1_eq (x0 : Int) (x1 : T_Expr) : impl_count_r_j1 x0 x1 =
  impl_count_r_j3 (0 : Int) x0 x1 (1 : Int) ((x1.2.2.2.2.2.1.1 : Nat) : Int) := (evI_eq ..).trans (by kernel_rfl)
-- a loop's head
theorem impl_count_r_j3_eq (x0 : Int) (x1 : Int) (x2 : T_Expr) (x3 : Int) (x4 : Int) : impl_count_r_j3 x0 x1 x2 x3 x4 =
  oite (decide (x0 < x4))
    (oat sh_Expr x2.2.2.2.2.2.1.1 x2.2.2.2.2.2.1.2 x0 fun (t2 : T_Expr) =>
    ocall (.m (.one (.int .i64))) [] (impl_count_r t2 (w64 (x1 + (1 : Int)))) fun (r3 : Int) (m4 : Unit) =>
    oite (decide ((w64 (x3 + r3)) > (300 : Int)))
      (some ((.d (.int .i64 (301 : Int))), []))
      (impl_count_r_j3 (w64 (x0 + (1 : Int))) x1 x2 (w64 (x3 + r3)) x4))
    (impl_count_r_j4 (0 : Int) x1 x2 x3 ((x2.2.2.2.2.2.2.1.1 : Nat) : Int)) := (evI_eq ..).trans (by kernel_rfl)
-- a loop's head
theorem impl_count_r_j4_eq (x0 : Int) (x1 : Int) (x2 : T_Expr) (x3 : Int) (x4 : Int) : impl_count_r_j4 x0 x1 x2 x3 x4 =
  oite (decide (x0 < x4))
    (oat sh_Arm x2.2.2.2.2.2.2.1.1 x2.2.2.2.2.2.2.1.2 x0 fun (t5 : T_Arm) =>
    ocall (.m (.one .bool)) [] (impl_armOk t5) fun (r6 : Bool) (m7 : Unit) =>
    oite (!r6)
      (some ((.d (.int .i64 (301 : Int))), []))
      (oat sh_Arm x2.2.2.2.2.2.2.1.1 x2.2.2.2.2.2.2.1.2 x0 fun (t8 : T_Arm) =>
      ocall (.m (.one (.int .i64))) [] (impl_count_r t8.2.2 (w64 (x1 + (1 : Int)))) fun (r9 : Int) (m10 : Unit) =>
      oite (decide ((w64 (x3 + r9)) > (300 : Int)))
        (some ((.d (.int .i64 (301 : Int))), []))
        (impl_count_r_j4 (w64 (x0 + (1 : Int))) x1 x2 (w64 (x3 + r9)) x4)))
    (some ((.d (.int .i64 x3)), [])) := (evI_eq ..).trans (by kernel_rfl)
noncomputable def impl_armOk_j2 (x0 : Bool) (x1 : T_Arm) : Res := (fun (p : Env × Mem) => evI cx 116 0 2 p.1 p.2) ([(1, (.ptr 0 0)), (23, (.d (.bool x0)))], [(.box (LS.encs sh_Arm x1))])
noncomputable def impl_armOk_j1 (x0 : T_Arm) : Res := (fun (p : Env × Mem) => evI cx 116 0 1 p.1 p.2) ([(1, (.ptr 0 0))], [(.box (LS.encs sh_Arm x0))])
noncomputable def impl_armOk_j3 (x0 : Int) (x1 : Sl) (x2 : Int) (x3 : T_Arm) : Res := (fun (p : Env × Mem) => evI cx 116 0 3 p.1 p.2) ([(27, (.d (.int .i64 x0))), (1, (.ptr 0 0)), (25, (.d (.sl false 1 x1.1 x1.2))), (26, (.d (.int .i64 x2)))], [(.box (LS.encs sh_Arm x3))])
noncomputable def impl_armOk_j4 (x0 : Sl) (x1 : Int) (x2 : Int) (x3 : Bool) (x4 : T_Arm) : Res := (fun (p : Env × Mem) => evI cx 116 0 4 p.1 p.2) ([(1, (.ptr 0 0)), (25, (.d (.sl false 1 x0.1 x0.2))), (26, (.d (.int .i64 x1))), (27, (.d (.int .i64 x2))), (43, (.d (.bool x3)))], [(.box (LS.encs sh_Arm x4))])
theorem impl_armOk_eq (x0 : T_Arm) : impl_armOk x0 =
  oite (((x0.1.1 : Nat) : Int) == (0 : Int))
    (some ((.d (.bool (((x0.2.1.1 : Nat) : Int) == (0 : Int)))), []))
    (ostr x0.1.2 fun (s0 : ByteArray) =>
    ocall (.m (.one .bool)) [] (impl_isCon s0) fun (r1 : Bool) (m2 : Unit) =>
    oite (!r1)
      (impl_armOk_j2 true x0)
      (impl_armOk_j2 (decide (((x0.2.1.1 : Nat) : Int) > (3 : Int))) x0)) := (evF_eq ..).trans (by kernel_rfl)
theorem impl_armOk_j2_eq (x0 : Bool) (x1 : T_Arm) : impl_armOk_j2 x0 x1 =
  oite x0
    (some ((.d (.bool false)), []))
    (impl_armOk_j1 x1) := (evI_eq ..).trans (by kernel_rfl)
theorem impl_armOk_j1_eq (x0 : T_Arm) : impl_armOk_j1 x0 =
  impl_armOk_j3 (0 : Int) x0.2.1 ((x0.2.1.1 : Nat) : Int) x0 := (evI_eq ..).trans (by kernel_rfl)
-- a loop's head
theorem impl_armOk_j3_eq (x0 : Int) (x1 : Sl) (x2 : Int) (x3 : T_Arm) : impl_armOk_j3 x0 x1 x2 x3 =
  oite (decide (x0 < x2))
    (oat [(.sl 1)] x1.1 x1.2 x0 fun (t3 : (Sl × Unit)) =>
    ostr t3.1.2 fun (s4 : ByteArray) =>
    ocall (.m (.one .bool)) [] (impl_isName s4) fun (r5 : Bool) (m6 : Unit) =>
    oite (!r5)
      (impl_armOk_j4 x1 x2 x0 true x3)
      (oguard (decide (((0 : Int) ≤ x0) ∧ (x0 ≤ ((x3.2.1.1 : Nat) : Int)))) (
      olet (List.take (Int.toNat x0) x3.2.1.2) fun (e7 : (List (List D))) =>
      ocall (.m (.one .bool)) [(.box [(.sl 1)])] (slices_ContainsFunc_byte_byte_Fimpl_armOk_1c ((Int.toNat x0), e7) t3.1) fun (r8 : Bool) (m9 : ((Sl × Unit) × Unit)) =>
      impl_armOk_j4 x1 x2 x0 r8 x3)))
    (some ((.d (.bool true)), [])) := (evI_eq ..).trans (by kernel_rfl)
theorem impl_armOk_j4_eq (x0 : Sl) (x1 : Int) (x2 : Int) (x3 : Bool) (x4 : T_Arm) : impl_armOk_j4 x0 x1 x2 x3 x4 =
  oite x3
    (some ((.d (.bool false)), []))
    (impl_armOk_j3 (w64 (x2 + (1 : Int))) x0 x1 x4) := (evI_eq ..).trans (by kernel_rfl)
theorem laws_eqArm_eq (x0 : T_Arm) (x1 : T_Arm) : laws_eqArm x0 x1 =
  ocall (.m (.one .bool)) [] (laws_eqByteS x0.1 x1.1) fun (r0 : Bool) (m1 : Unit) =>
  oite (!r0)
    (some ((.d (.bool false)), []))
    (ocall (.m (.one .bool)) [] (laws_eqByteSS x0.2.1 x1.2.1) fun (r2 : Bool) (m3 : Unit) =>
    oite (!r2)
      (some ((.d (.bool false)), []))
      (ocall (.m (.one .bool)) [] (laws_eqExpr x0.2.2 x1.2.2) fun (r4 : Bool) (m5 : Unit) =>
      oite (!r4)
        (some ((.d (.bool false)), []))
        (some ((.d (.bool true)), [])))) := (evF_eq ..).trans (by kernel_rfl)
noncomputable def laws_szByteSS_j1 (x0 : Int) (x1 : Int) (x2 : Sl) : Res := (fun (p : Env × Mem) => evI cx 147 0 1 p.1 p.2) ([(5, (.d (.int .i64 x0))), (1, (.d (.int .i64 x1))), (0, (.d (.sl false 1 x2.1 x2.2)))], [])
theorem laws_szByteSS_eq (x0 : Sl) (x1 : Int) : laws_szByteSS x0 x1 =
  oite (decide ((w64 (x1 - ((x0.1 : Nat) : Int))) < (0 : Int)))
    (some ((.d (.int .i64 (-1 : Int))), []))
    (laws_szByteSS_j1 (0 : Int) (w64 (x1 - ((x0.1 : Nat) : Int))) x0) := (evF_eq ..).trans (by kernel_rfl)
-- a loop's head
theorem laws_szByteSS_j1_eq (x0 : Int) (x1 : Int) (x2 : Sl) : laws_szByteSS_j1 x0 x1 x2 =
  oite (decide (x0 < ((x2.1 : Nat) : Int)))
    (oat [(.sl 1)] x2.1 x2.2 x0 fun (t0 : (Sl × Unit)) =>
    ocall (.m (.one (.int .i64))) [] (laws_szByteS t0.1 x1) fun (r1 : Int) (m2 : Unit) =>
    oite (decide (r1 < (0 : Int)))
      (some ((.d (.int .i64 (-1 : Int))), []))
      (laws_szByteSS_j1 (w64 (x0 + (1 : Int))) r1 x2))
    (some ((.d (.int .i64 x1)), [])) := (evI_eq ..).trans (by kernel_rfl)
noncomputable def laws_toByteSS_j1 (x0 : Int) (x1 : Sl) (x2 : Sl) : Res := (fun (p : Env × Mem) => evI cx 148 0 1 p.1 p.2) ([(4, (.d (.int .i64 x0))), (0, (.d (.sl false 1 x1.1 x1.2))), (3, (.own 0))], [(.row 1 x2.1 false false x2.2)])
theorem laws_toByteSS_eq (x0 : Sl) : laws_toByteSS x0 =
  oguard (decide (((0 : Int) ≤ ((x0.1 : Nat) : Int)) ∧ ((((x0.1 : Nat) : Int) = ((x0.1 : Nat) : Int)) ∧ ((((x0.1 : Nat) : Int) * (24 : Int)) ≤ (140737488351232 : Int))))) (
  olet (List.replicate (Int.toNat ((x0.1 : Nat) : Int)) ((D.sl false 1 0 []) :: [])) fun (e0 : (List (List D))) =>
  laws_toByteSS_j1 (0 : Int) x0 ((Int.toNat ((x0.1 : Nat) : Int)), e0)) := (evF_eq ..).trans (by kernel_rfl)
-- a loop's head
theorem laws_toByteSS_j1_eq (x0 : Int) (x1 : Sl) (x2 : Sl) : laws_toByteSS_j1 x0 x1 x2 =
  oite (decide (x0 < ((x1.1 : Nat) : Int)))
    (oat [(.sl 1)] x1.1 x1.2 x0 fun (t1 : (Sl × Unit)) =>
    ocall (.m (.one (.sl 1))) [] (laws_toByteS t1.1) fun (r2 : Sl) (m3 : Unit) =>
    oguard (decide (((0 : Int) ≤ x0) ∧ (x0 < ((x2.1 : Nat) : Int)))) (
    olet (List.set x2.2 (Int.toNat x0) (putD (List.getD x2.2 (Int.toNat x0) []) 0 [(D.sl false 1 r2.1 r2.2)])) fun (e4 : (List (List D))) =>
    laws_toByteSS_j1 (w64 (x0 + (1 : Int))) x1 (x2.1, e4)))
    (some ((.d (.sl false 1 x2.1 x2.2)), [])) := (evI_eq ..).trans (by kernel_rfl)
noncomputable def spec_l5key_j1 (x0 : Int) (x1 : Sl) (x2 : Sl) : Res := (fun (p : Env × Mem) => evI cx 95 0 1 p.1 p.2) ([(4, (.d (.int .i64 x0))), (3, (.d (.sl false 1 x1.1 x1.2))), (0, (.d (.sl false 1 x2.1 x2.2)))], [])
theorem spec_l5key_eq (x0 : Sl) : spec_l5key x0 =
  ocall (.m (.one (.sl 1))) [] (spec_l5keys) fun (r0 : Sl) (m1 : Unit) =>
  spec_l5key_j1 (0 : Int) r0 x0 := (evF_eq ..).trans (by kernel_rfl)
-- a loop's head
theorem spec_l5key_j1_eq (x0 : Int) (x1 : Sl) (x2 : Sl) : spec_l5key_j1 x0 x1 x2 =
  oite (decide (x0 < ((x1.1 : Nat) : Int)))
    (oat [.str] x1.1 x1.2 x0 fun (t2 : (ByteArray × Unit)) =>
    ocall (.m (.one .bool)) [] (spec_l5is x2 t2.1) fun (r3 : Bool) (m4 : Unit) =>
    oite r3
      (some ((.d (.bool true)), []))
      (spec_l5key_j1 (w64 (x0 + (1 : Int))) x1 x2))
    (some ((.d (.bool false)), [])) := (evI_eq ..).trans (by kernel_rfl)
theorem spec_l5upper_eq (x0 : Int) : spec_l5upper x0 =
  oite (decide (x0 ≥ (65 : Int)))
    (some ((.d (.bool (decide (x0 ≤ (90 : Int))))), []))
    (some ((.d (.bool false)), [])) := (evF_eq ..).trans (by kernel_rfl)
theorem spec_l5lower_eq (x0 : Int) : spec_l5lower x0 =
  oite (decide (x0 ≥ (97 : Int)))
    (some ((.d (.bool (decide (x0 ≤ (122 : Int))))), []))
    (some ((.d (.bool false)), [])) := (evF_eq ..).trans (by kernel_rfl)
theorem spec_l5digit_eq (x0 : Int) : spec_l5digit x0 =
  oite (decide (x0 ≥ (48 : Int)))
    (some ((.d (.bool (decide (x0 ≤ (57 : Int))))), []))
    (some ((.d (.bool false)), [])) := (evF_eq ..).trans (by kernel_rfl)
theorem impl_within_eq (x0 : Int) (x1 : Int) (x2 : Int) : impl_within x0 x1 x2 =
  oite (decide (x0 ≥ x1))
    (some ((.d (.bool (decide (x0 ≤ x2)))), []))
    (some ((.d (.bool false)), [])) := (evF_eq ..).trans (by kernel_rfl)
theorem impl_numberOk_eq (x0 : Int) (x1 : Int) : impl_numberOk x0 x1 =
  oite (x0 == (1 : Int))
    (ocall (.m (.one .bool)) [] (impl_wholeOk x1) fun (r0 : Bool) (m1 : Unit) =>
    some ((.d (.bool r0)), []))
    (oite (x0 == (19 : Int))
      (ocall (.m (.one .bool)) [] (impl_within x1 (0 : Int) (6 : Int)) fun (r2 : Bool) (m3 : Unit) =>
      some ((.d (.bool r2)), []))
      (oite (x0 == (20 : Int))
        (ocall (.m (.one .bool)) [] (impl_within x1 (0 : Int) (4 : Int)) fun (r4 : Bool) (m5 : Unit) =>
        some ((.d (.bool r4)), []))
        (some ((.d (.bool (x1 == (0 : Int)))), [])))) := (evF_eq ..).trans (by kernel_rfl)
theorem impl_named_eq (x0 : Int) : impl_named x0 =
  ocall (.m (.one .bool)) [] (slices_Contains_int_int (5, (((D.int .i64 (3 : Int)) :: []) :: (((D.int .i64 (4 : Int)) :: []) :: (((D.int .i64 (6 : Int)) :: []) :: (((D.int .i64 (7 : Int)) :: []) :: (((D.int .i64 (18 : Int)) :: []) :: [])))))) x0) fun (r0 : Bool) (m1 : Unit) =>
  some ((.d (.bool r0)), []) := (evF_eq ..).trans (by kernel_rfl)
theorem impl_isName_eq (x0 : ByteArray) : impl_isName x0 =
  ocall (.m (.one .bool)) [] (impl_wordLike_Fimpl_isSmall x0) fun (r0 : Bool) (m1 : Unit) =>
  oite r0
    (ocall (.m (.one .bool)) [] (impl_isKey x0) fun (r2 : Bool) (m3 : Unit) =>
    some ((.d (.bool (!r2))), []))
    (some ((.d (.bool false)), [])) := (evF_eq ..).trans (by kernel_rfl)
theorem impl_isCon_eq (x0 : ByteArray) : impl_isCon x0 =
  ocall (.m (.one .bool)) [] (impl_wordLike_Fimpl_isGreat x0) fun (r0 : Bool) (m1 : Unit) =>
  some ((.d (.bool r0)), []) := (evF_eq ..).trans (by kernel_rfl)
theorem impl_litOk_eq (x0 : Sl) : impl_litOk x0 =
  oite (decide (((x0.1 : Nat) : Int) ≤ (20 : Int)))
    (ocall (.m (.one .bool)) [] (slices_ContainsFunc_byte_byte_2_Fimpl_litOk_1 x0) fun (r0 : Bool) (m1 : Unit) =>
    some ((.d (.bool (!r0))), []))
    (some ((.d (.bool false)), [])) := (evF_eq ..).trans (by kernel_rfl)
noncomputable def impl_kidsOf_j1 (x0 : Int) (x1 : Int) (x2 : Bool) : Res := (fun (p : Env × Mem) => evI cx 151 0 1 p.1 p.2) ([(1, (.d (.int .i64 x0))), (5, (.d (.int .i64 x1))), (6, (.d (.bool x2)))], [])
noncomputable def impl_kidsOf_j2 (x0 : Int) (x1 : Int) (x2 : Bool) : Res := (fun (p : Env × Mem) => evI cx 151 0 2 p.1 p.2) ([(1, (.d (.int .i64 x0))), (5, (.d (.int .i64 x1))), (14, (.d (.bool x2)))], [])
theorem impl_kidsOf_eq (x0 : Int) (x1 : Int) : impl_kidsOf x0 x1 =
  oite (x0 == (4 : Int))
    (impl_kidsOf_j1 x1 x0 (x0 == (4 : Int)))
    (oite (x0 == (10 : Int))
      (impl_kidsOf_j1 x1 x0 (x0 == (10 : Int)))
      (oite (x0 == (11 : Int))
        (impl_kidsOf_j1 x1 x0 (x0 == (11 : Int)))
        (oite (x0 == (12 : Int))
          (impl_kidsOf_j1 x1 x0 (x0 == (12 : Int)))
          (oite (x0 == (13 : Int))
            (impl_kidsOf_j1 x1 x0 (x0 == (13 : Int)))
            (oite (x0 == (17 : Int))
              (impl_kidsOf_j1 x1 x0 (x0 == (17 : Int)))
              (impl_kidsOf_j1 x1 x0 (x0 == (16 : Int)))))))) := (evF_eq ..).trans (by kernel_rfl)
theorem impl_kidsOf_j1_eq (x0 : Int) (x1 : Int) (x2 : Bool) : impl_kidsOf_j1 x0 x1 x2 =
  oite x2
    (some ((.d (.int .i64 (1 : Int))), []))
    (oite (x1 == (5 : Int))
      (impl_kidsOf_j2 x0 x1 (x1 == (5 : Int)))
      (oite (x1 == (6 : Int))
        (impl_kidsOf_j2 x0 x1 (x1 == (6 : Int)))
        (oite (x1 == (7 : Int))
          (impl_kidsOf_j2 x0 x1 (x1 == (7 : Int)))
          (oite (x1 == (9 : Int))
            (impl_kidsOf_j2 x0 x1 (x1 == (9 : Int)))
            (oite (x1 == (14 : Int))
              (impl_kidsOf_j2 x0 x1 (x1 == (14 : Int)))
              (impl_kidsOf_j2 x0 x1 (x1 == (18 : Int)))))))) := (evI_eq ..).trans (by kernel_rfl)
theorem impl_kidsOf_j2_eq (x0 : Int) (x1 : Int) (x2 : Bool) : impl_kidsOf_j2 x0 x1 x2 =
  oite x2
    (some ((.d (.int .i64 (2 : Int))), []))
    (oite (x1 == (8 : Int))
      (some ((.d (.int .i64 (3 : Int))), []))
      (oite (x1 == (15 : Int))
        (some ((.d (.int .i64 (-1 : Int))), []))
        (oite (x1 == (19 : Int))
          (oite (x0 == (6 : Int))
            (some ((.d (.int .i64 (1 : Int))), []))
            (some ((.d (.int .i64 (2 : Int))), [])))
          (oite (x1 == (20 : Int))
            (oat [(.int .i64)] 5 (((D.int .i64 (1 : Int)) :: []) :: (((D.int .i64 (0 : Int)) :: []) :: (((D.int .i64 (1 : Int)) :: []) :: (((D.int .i64 (1 : Int)) :: []) :: (((D.int .i64 (2 : Int)) :: []) :: []))))) x0 fun (t0 : (Int × Unit)) =>
            some ((.d (.int .i64 t0.1)), []))
            (some ((.d (.int .i64 (0 : Int))), [])))))) := (evI_eq ..).trans (by kernel_rfl)
noncomputable def impl_Expr_headOk_r_j2 (x0 : T_Expr) (x1 : Bool) : Res := (fun (p : Env × Mem) => evI cx 115 0 2 p.1 p.2) ([(0, (.rp (vDs (LS.encs sh_Expr x0)) 0)), (23, (.d (.bool x1)))], [])
noncomputable def impl_Expr_headOk_r_j1 (x0 : T_Expr) : Res := (fun (p : Env × Mem) => evI cx 115 0 1 p.1 p.2) ([(0, (.rp (vDs (LS.encs sh_Expr x0)) 0))], [])
noncomputable def impl_Expr_headOk_r_j5 (x0 : T_Expr) (x1 : ByteArray) (x2 : ByteArray) (x3 : Bool) : Res := (fun (p : Env × Mem) => evI cx 115 0 5 p.1 p.2) ([(0, (.rp (vDs (LS.encs sh_Expr x0)) 0)), (4, (.d (.str x1))), (3, (.d (.str x2))), (34, (.d (.bool x3)))], [])
noncomputable def impl_Expr_headOk_r_j4 (x0 : T_Expr) (x1 : ByteArray) (x2 : ByteArray) (x3 : Bool) : Res := (fun (p : Env × Mem) => evI cx 115 0 4 p.1 p.2) ([(0, (.rp (vDs (LS.encs sh_Expr x0)) 0)), (4, (.d (.str x1))), (3, (.d (.str x2))), (34, (.d (.bool x3)))], [])
noncomputable def impl_Expr_headOk_r_j6 (x0 : T_Expr) (x1 : ByteArray) (x2 : ByteArray) (x3 : Bool) : Res := (fun (p : Env × Mem) => evI cx 115 0 6 p.1 p.2) ([(0, (.rp (vDs (LS.encs sh_Expr x0)) 0)), (4, (.d (.str x1))), (3, (.d (.str x2))), (34, (.d (.bool x3)))], [])
noncomputable def impl_Expr_headOk_r_j8 (x0 : T_Expr) (x1 : Bool) (x2 : ByteArray) : Res := (fun (p : Env × Mem) => evI cx 115 0 8 p.1 p.2) ([(0, (.rp (vDs (LS.encs sh_Expr x0)) 0)), (72, (.d (.bool x1))), (4, (.d (.str x2)))], [])
noncomputable def impl_Expr_headOk_r_j7 (x0 : T_Expr) (x1 : Bool) : Res := (fun (p : Env × Mem) => evI cx 115 0 7 p.1 p.2) ([(0, (.rp (vDs (LS.encs sh_Expr x0)) 0)), (72, (.d (.bool x1)))], [])
noncomputable def impl_Expr_headOk_r_j10 (x0 : T_Expr) (x1 : Bool) : Res := (fun (p : Env × Mem) => evI cx 115 0 10 p.1 p.2) ([(0, (.rp (vDs (LS.encs sh_Expr x0)) 0)), (97, (.d (.bool x1)))], [])
noncomputable def impl_Expr_headOk_r_j9 (x0 : T_Expr) (x1 : Bool) : Res := (fun (p : Env × Mem) => evI cx 115 0 9 p.1 p.2) ([(0, (.rp (vDs (LS.encs sh_Expr x0)) 0)), (97, (.d (.bool x1)))], [])
noncomputable def impl_Expr_headOk_r_j12 (x0 : T_Expr) (x1 : Bool) : Res := (fun (p : Env × Mem) => evI cx 115 0 12 p.1 p.2) ([(0, (.rp (vDs (LS.encs sh_Expr x0)) 0)), (124, (.d (.bool x1)))], [])
noncomputable def impl_Expr_headOk_r_j11 (x0 : T_Expr) (x1 : Bool) : Res := (fun (p : Env × Mem) => evI cx 115 0 11 p.1 p.2) ([(0, (.rp (vDs (LS.encs sh_Expr x0)) 0)), (124, (.d (.bool x1)))], [])
noncomputable def impl_Expr_headOk_r_j3 (x0 : T_Expr) : Res := (fun (p : Env × Mem) => evI cx 115 0 3 p.1 p.2) ([(0, (.rp (vDs (LS.encs sh_Expr x0)) 0))], [])
noncomputable def impl_Expr_headOk_r_j14 (x0 : T_Expr) (x1 : Bool) : Res := (fun (p : Env × Mem) => evI cx 115 0 14 p.1 p.2) ([(0, (.rp (vDs (LS.encs sh_Expr x0)) 0)), (179, (.d (.bool x1)))], [])
noncomputable def impl_Expr_headOk_r_j13 (x0 : T_Expr) : Res := (fun (p : Env × Mem) => evI cx 115 0 13 p.1 p.2) ([(0, (.rp (vDs (LS.encs sh_Expr x0)) 0))], [])
theorem impl_Expr_headOk_r_eq (x0 : T_Expr) : impl_Expr_headOk_r x0 =
  ocall (.m (.one .bool)) [] (impl_within x0.1 (0 : Int) (20 : Int)) fun (r0 : Bool) (m1 : Unit) =>
  oite (!r0)
    (impl_Expr_headOk_r_j2 x0 true)
    (ocall (.m (.one .bool)) [] (impl_numberOk x0.1 x0.2.1) fun (r2 : Bool) (m3 : Unit) =>
    impl_Expr_headOk_r_j2 x0 (!r2)) := (evF_eq ..).trans (by kernel_rfl)
theorem impl_Expr_headOk_r_j2_eq (x0 : T_Expr) (x1 : Bool) : impl_Expr_headOk_r_j2 x0 x1 =
  oite x1
    (some ((.d (.bool false)), []))
    (impl_Expr_headOk_r_j1 x0) := (evI_eq ..).trans (by kernel_rfl)
theorem impl_Expr_headOk_r_j1_eq (x0 : T_Expr) : impl_Expr_headOk_r_j1 x0 =
  ostr x0.2.2.1.2 fun (s4 : ByteArray) =>
  ostr x0.2.2.2.1.2 fun (s5 : ByteArray) =>
  ocall (.m (.one .bool)) [] (impl_named x0.1) fun (r6 : Bool) (m7 : Unit) =>
  oite r6
    (ocall (.m (.one .bool)) [] (impl_isName s4) fun (r8 : Bool) (m9 : Unit) =>
    impl_Expr_headOk_r_j5 x0 s5 s4 (!r8))
    (impl_Expr_headOk_r_j5 x0 s5 s4 false) := (evI_eq ..).trans (by kernel_rfl)
theorem impl_Expr_headOk_r_j5_eq (x0 : T_Expr) (x1 : ByteArray) (x2 : ByteArray) (x3 : Bool) : impl_Expr_headOk_r_j5 x0 x1 x2 x3 =
  oite x3
    (impl_Expr_headOk_r_j4 x0 x1 x2 x3)
    (oite (x0.1 == (15 : Int))
      (ocall (.m (.one .bool)) [] (impl_isCon x2) fun (r10 : Bool) (m11 : Unit) =>
      impl_Expr_headOk_r_j6 x0 x1 x2 (!r10))
      (impl_Expr_headOk_r_j6 x0 x1 x2 false)) := (evI_eq ..).trans (by kernel_rfl)
theorem impl_Expr_headOk_r_j4_eq (x0 : T_Expr) (x1 : ByteArray) (x2 : ByteArray) (x3 : Bool) : impl_Expr_headOk_r_j4 x0 x1 x2 x3 =
  oite x3
    (some ((.d (.bool false)), []))
    (oite (x0.1 == (7 : Int))
      (ocall (.m (.one .bool)) [] (impl_isName x1) fun (r12 : Bool) (m13 : Unit) =>
      oite (!r12)
        (impl_Expr_headOk_r_j8 x0 true x1)
        (impl_Expr_headOk_r_j8 x0 ((ByteArray.toList x1) == (ByteArray.toList x2)) x1))
      (impl_Expr_headOk_r_j8 x0 false x1)) := (evI_eq ..).trans (by kernel_rfl)
theorem impl_Expr_headOk_r_j6_eq (x0 : T_Expr) (x1 : ByteArray) (x2 : ByteArray) (x3 : Bool) : impl_Expr_headOk_r_j6 x0 x1 x2 x3 =
  oite x3
    (impl_Expr_headOk_r_j4 x0 x1 x2 x3)
    (ocall (.m (.one .bool)) [] (impl_named x0.1) fun (r14 : Bool) (m15 : Unit) =>
    oite (!r14)
      (oite (!(x0.1 == (15 : Int)))
        (impl_Expr_headOk_r_j4 x0 x1 x2 (!((ByteArray.toList x2) == (ByteArray.toList (ByteArray.mk (Array.mk []))))))
        (impl_Expr_headOk_r_j4 x0 x1 x2 false))
      (impl_Expr_headOk_r_j4 x0 x1 x2 false)) := (evI_eq ..).trans (by kernel_rfl)
theorem impl_Expr_headOk_r_j8_eq (x0 : T_Expr) (x1 : Bool) (x2 : ByteArray) : impl_Expr_headOk_r_j8 x0 x1 x2 =
  oite x1
    (impl_Expr_headOk_r_j7 x0 x1)
    (oite (!(x0.1 == (7 : Int)))
      (impl_Expr_headOk_r_j7 x0 (!((ByteArray.toList x2) == (ByteArray.toList (ByteArray.mk (Array.mk []))))))
      (impl_Expr_headOk_r_j7 x0 false)) := (evI_eq ..).trans (by kernel_rfl)
theorem impl_Expr_headOk_r_j7_eq (x0 : T_Expr) (x1 : Bool) : impl_Expr_headOk_r_j7 x0 x1 =
  oite x1
    (some ((.d (.bool false)), []))
    (oite (x0.1 == (2 : Int))
      (ocall (.m (.one .bool)) [] (impl_litOk x0.2.2.2.2.1) fun (r16 : Bool) (m17 : Unit) =>
      impl_Expr_headOk_r_j10 x0 (!r16))
      (impl_Expr_headOk_r_j10 x0 false)) := (evI_eq ..).trans (by kernel_rfl)
theorem impl_Expr_headOk_r_j10_eq (x0 : T_Expr) (x1 : Bool) : impl_Expr_headOk_r_j10 x0 x1 =
  oite x1
    (impl_Expr_headOk_r_j9 x0 x1)
    (oite (!(x0.1 == (2 : Int)))
      (impl_Expr_headOk_r_j9 x0 (decide (((x0.2.2.2.2.1.1 : Nat) : Int) > (0 : Int))))
      (impl_Expr_headOk_r_j9 x0 false)) := (evI_eq ..).trans (by kernel_rfl)
theorem impl_Expr_headOk_r_j9_eq (x0 : T_Expr) (x1 : Bool) : impl_Expr_headOk_r_j9 x0 x1 =
  oite x1
    (some ((.d (.bool false)), []))
    (oite (x0.1 == (16 : Int))
      (ocall (.m (.one .bool)) [] (impl_within ((x0.2.2.2.2.2.2.1.1 : Nat) : Int) (1 : Int) (6 : Int)) fun (r18 : Bool) (m19 : Unit) =>
      impl_Expr_headOk_r_j12 x0 (!r18))
      (impl_Expr_headOk_r_j12 x0 false)) := (evI_eq ..).trans (by kernel_rfl)
theorem impl_Expr_headOk_r_j12_eq (x0 : T_Expr) (x1 : Bool) : impl_Expr_headOk_r_j12 x0 x1 =
  oite x1
    (impl_Expr_headOk_r_j11 x0 x1)
    (oite (!(x0.1 == (16 : Int)))
      (impl_Expr_headOk_r_j11 x0 (decide (((x0.2.2.2.2.2.2.1.1 : Nat) : Int) > (0 : Int))))
      (impl_Expr_headOk_r_j11 x0 false)) := (evI_eq ..).trans (by kernel_rfl)
theorem impl_Expr_headOk_r_j11_eq (x0 : T_Expr) (x1 : Bool) : impl_Expr_headOk_r_j11 x0 x1 =
  oite x1
    (some ((.d (.bool false)), []))
    (impl_Expr_headOk_r_j3 x0) := (evI_eq ..).trans (by kernel_rfl)
theorem impl_Expr_headOk_r_j3_eq (x0 : T_Expr) : impl_Expr_headOk_r_j3 x0 =
  ocall (.m (.one (.int .i64))) [] (impl_kidsOf x0.1 x0.2.1) fun (r20 : Int) (m21 : Unit) =>
  oite (!(r20 == ((x0.2.2.2.2.2.1.1 : Nat) : Int)))
    (oite (decide (r20 ≥ (0 : Int)))
      (impl_Expr_headOk_r_j14 x0 true)
      (impl_Expr_headOk_r_j14 x0 (decide (((x0.2.2.2.2.2.1.1 : Nat) : Int) > (3 : Int)))))
    (impl_Expr_headOk_r_j14 x0 false) := (evI_eq ..).trans (by kernel_rfl)
theorem impl_Expr_headOk_r_j14_eq (x0 : T_Expr) (x1 : Bool) : impl_Expr_headOk_r_j14 x0 x1 =
  oite x1
    (some ((.d (.bool false)), []))
    (impl_Expr_headOk_r_j13 x0) := (evI_eq ..).trans (by kernel_rfl)
theorem impl_Expr_headOk_r_j13_eq (x0 : T_Expr) : impl_Expr_headOk_r_j13 x0 =
  oite (!(x0.1 == (5 : Int)))
    (some ((.d (.bool true)), []))
    (oat sh_Expr x0.2.2.2.2.2.1.1 x0.2.2.2.2.2.1.2 (0 : Int) fun (t22 : T_Expr) =>
    oite (!(t22.1 == (15 : Int)))
      (some ((.d (.bool true)), []))
      (oat sh_Expr x0.2.2.2.2.2.1.1 x0.2.2.2.2.2.1.2 (0 : Int) fun (t23 : T_Expr) =>
      some ((.d (.bool (decide (((t23.2.2.2.2.2.1.1 : Nat) : Int) > (0 : Int))))), []))) := (evI_eq ..).trans (by kernel_rfl)
theorem slices_ContainsFunc_byte_byte_Fimpl_armOk_1c_eq (x0 : Sl) (x1 : Sl) : slices_ContainsFunc_byte_byte_Fimpl_armOk_1c x0 x1 =
  ocall (.m (.one (.int .i64))) [(.box [(.sl 1)])] (slices_IndexFunc_byte_byte_Fimpl_armOk_1c x0 x1) fun (r0 : Int) (m1 : ((Sl × Unit) × Unit)) =>
  some ((.d (.bool (decide (r0 ≥ (0 : Int))))), [(.box [(.d (.sl false 1 m1.1.1.1 m1.1.1.2))])]) := (evF_eq ..).trans (by kernel_rfl)
noncomputable def laws_eqByteSS_j1 (x0 : Int) (x1 : Sl) (x2 : Sl) : Res := (fun (p : Env × Mem) => evI cx 155 0 1 p.1 p.2) ([(5, (.d (.int .i64 x0))), (1, (.d (.sl false 1 x1.1 x1.2))), (0, (.d (.sl false 1 x2.1 x2.2)))], [])
theorem laws_eqByteSS_eq (x0 : Sl) (x1 : Sl) : laws_eqByteSS x0 x1 =
  oite (!(((x0.1 : Nat) : Int) == ((x1.1 : Nat) : Int)))
    (some ((.d (.bool false)), []))
    (laws_eqByteSS_j1 (0 : Int) x1 x0) := (evF_eq ..).trans (by kernel_rfl)
-- a loop's head
theorem laws_eqByteSS_j1_eq (x0 : Int) (x1 : Sl) (x2 : Sl) : laws_eqByteSS_j1 x0 x1 x2 =
  oite (decide (x0 < ((x2.1 : Nat) : Int)))
    (oat [(.sl 1)] x2.1 x2.2 x0 fun (t0 : (Sl × Unit)) =>
    oat [(.sl 1)] x1.1 x1.2 x0 fun (t1 : (Sl × Unit)) =>
    ocall (.m (.one .bool)) [] (laws_eqByteS t0.1 t1.1) fun (r2 : Bool) (m3 : Unit) =>
    oite (!r2)
      (some ((.d (.bool false)), []))
      (laws_eqByteSS_j1 (w64 (x0 + (1 : Int))) x1 x2))
    (some ((.d (.bool true)), [])) := (evI_eq ..).trans (by kernel_rfl)
theorem spec_l5keys_eq : spec_l5keys =
  some ((.d (.sl false 1 30 (((D.str (ByteArray.mk (Array.mk (102 :: (110 :: []))))) :: []) :: (((D.str (ByteArray.mk (Array.mk (108 :: (101 :: (116 :: [])))))) :: []) :: (((D.str (ByteArray.mk (Array.mk (114 :: (101 :: (99 :: [])))))) :: []) :: (((D.str (ByteArray.mk (Array.mk (105 :: (102 :: []))))) :: []) :: (((D.str (ByteArray.mk (Array.mk (112 :: (97 :: (105 :: (114 :: []))))))) :: []) :: (((D.str (ByteArray.mk (Array.mk (102 :: (115 :: (116 :: [])))))) :: []) :: (((D.str (ByteArray.mk (Array.mk (115 :: (110 :: (100 :: [])))))) :: []) :: (((D.str (ByteArray.mk (Array.mk (114 :: (101 :: (102 :: [])))))) :: []) :: (((D.str (ByteArray.mk (Array.mk (114 :: (101 :: (97 :: (100 :: []))))))) :: []) :: (((D.str (ByteArray.mk (Array.mk (119 :: (114 :: (105 :: (116 :: (101 :: [])))))))) :: []) :: (((D.str (ByteArray.mk (Array.mk (109 :: (97 :: (116 :: (99 :: (104 :: [])))))))) :: []) :: (((D.str (ByteArray.mk (Array.mk (114 :: (97 :: (105 :: (115 :: (101 :: [])))))))) :: []) :: (((D.str (ByteArray.mk (Array.mk (116 :: (114 :: (121 :: [])))))) :: []) :: (((D.str (ByteArray.mk (Array.mk (97 :: (100 :: (100 :: [])))))) :: []) :: (((D.str (ByteArray.mk (Array.mk (115 :: (117 :: (98 :: [])))))) :: []) :: (((D.str (ByteArray.mk (Array.mk (109 :: (117 :: (108 :: [])))))) :: []) :: (((D.str (ByteArray.mk (Array.mk (108 :: (101 :: (115 :: (115 :: []))))))) :: []) :: (((D.str (ByteArray.mk (Array.mk (115 :: (97 :: (109 :: (101 :: []))))))) :: []) :: (((D.str (ByteArray.mk (Array.mk (99 :: (97 :: (116 :: [])))))) :: []) :: (((D.str (ByteArray.mk (Array.mk (108 :: (101 :: (110 :: [])))))) :: []) :: (((D.str (ByteArray.mk (Array.mk (112 :: (114 :: (105 :: (110 :: (116 :: [])))))))) :: []) :: (((D.str (ByteArray.mk (Array.mk (116 :: (105 :: (99 :: (107 :: []))))))) :: []) :: (((D.str (ByteArray.mk (Array.mk (100 :: (114 :: (97 :: (119 :: []))))))) :: []) :: (((D.str (ByteArray.mk (Array.mk (103 :: (101 :: (116 :: [])))))) :: []) :: (((D.str (ByteArray.mk (Array.mk (112 :: (117 :: (116 :: [])))))) :: []) :: (((D.str (ByteArray.mk (Array.mk (100 :: (97 :: (116 :: (97 :: []))))))) :: []) :: (((D.str (ByteArray.mk (Array.mk (117 :: (110 :: (105 :: (116 :: []))))))) :: []) :: (((D.str (ByteArray.mk (Array.mk (105 :: (110 :: (116 :: [])))))) :: []) :: (((D.str (ByteArray.mk (Array.mk (116 :: (101 :: (120 :: (116 :: []))))))) :: []) :: (((D.str (ByteArray.mk (Array.mk (102 :: (117 :: (110 :: [])))))) :: []) :: [])))))))))))))))))))))))))))))))), []) := (evF_eq ..).trans (by kernel_rfl)
theorem spec_l5is_eq (x0 : Sl) (x1 : ByteArray) : spec_l5is x0 x1 =
  ostr x0.2 fun (s0 : ByteArray) =>
  some ((.d (.bool ((ByteArray.toList s0) == (ByteArray.toList x1)))), []) := (evF_eq ..).trans (by kernel_rfl)
theorem impl_wholeOk_eq (x0 : Int) : impl_wholeOk x0 =
  ocall (.m (.one .bool)) [] (impl_within x0 (-1073741824 : Int) (1073741823 : Int)) fun (r0 : Bool) (m1 : Unit) =>
  some ((.d (.bool r0)), []) := (evF_eq ..).trans (by kernel_rfl)
theorem slices_Contains_int_int_eq (x0 : Sl) (x1 : Int) : slices_Contains_int_int x0 x1 =
  ocall (.m (.one (.int .i64))) [] (slices_Index_int_int x0 x1) fun (r0 : Int) (m1 : Unit) =>
  some ((.d (.bool (decide (r0 ≥ (0 : Int))))), []) := (evF_eq ..).trans (by kernel_rfl)
noncomputable def impl_wordLike_Fimpl_isSmall_j1 (x0 : Int) (x1 : ByteArray) (x2 : Int) : Res := (fun (p : Env × Mem) => evI cx 100 0 1 p.1 p.2) ([(8, (.d (.int .i64 x0))), (0, (.d (.str x1))), (1, (.fn 101 [])), (7, (.d (.int .i64 x2)))], [])
noncomputable def impl_wordLike_Fimpl_isSmall_j2 (x0 : ByteArray) (x1 : Int) (x2 : Int) (x3 : Bool) : Res := (fun (p : Env × Mem) => evI cx 100 0 2 p.1 p.2) ([(0, (.d (.str x0))), (1, (.fn 101 [])), (7, (.d (.int .i64 x1))), (8, (.d (.int .i64 x2))), (38, (.d (.bool x3)))], [])
theorem impl_wordLike_Fimpl_isSmall_eq (x0 : ByteArray) : impl_wordLike_Fimpl_isSmall x0 =
  impl_wordLike_Fimpl_isSmall_j1 (0 : Int) x0 (((ByteArray.size x0) : Nat) : Int) := (evF_eq ..).trans (by kernel_rfl)
-- a loop's head
theorem impl_wordLike_Fimpl_isSmall_j1_eq (x0 : Int) (x1 : ByteArray) (x2 : Int) : impl_wordLike_Fimpl_isSmall_j1 x0 x1 x2 =
  oite (decide (x0 < x2))
    (oite (x0 == (0 : Int))
      (oguard (decide (((0 : Int) ≤ x0) ∧ (x0 < (((ByteArray.size x1) : Nat) : Int)))) (
      ocall (.m (.one .bool)) [] (impl_isSmall (byteAt x1 (Int.toNat x0))) fun (r0 : Bool) (m1 : Unit) =>
      oite (!r0)
        (impl_wordLike_Fimpl_isSmall_j2 x1 x2 x0 true)
        (oite (decide (x0 > (0 : Int)))
          (oguard (decide (((0 : Int) ≤ x0) ∧ (x0 < (((ByteArray.size x1) : Nat) : Int)))) (
          ocall (.m (.one .bool)) [] (impl_isSmall (byteAt x1 (Int.toNat x0))) fun (r2 : Bool) (m3 : Unit) =>
          oite (!r2)
            (oguard (decide (((0 : Int) ≤ x0) ∧ (x0 < (((ByteArray.size x1) : Nat) : Int)))) (
            ocall (.m (.one .bool)) [] (impl_isDigit (byteAt x1 (Int.toNat x0))) fun (r4 : Bool) (m5 : Unit) =>
            impl_wordLike_Fimpl_isSmall_j2 x1 x2 x0 (!r4)))
            (impl_wordLike_Fimpl_isSmall_j2 x1 x2 x0 false)))
          (impl_wordLike_Fimpl_isSmall_j2 x1 x2 x0 false))))
      (oite (decide (x0 > (0 : Int)))
        (oguard (decide (((0 : Int) ≤ x0) ∧ (x0 < (((ByteArray.size x1) : Nat) : Int)))) (
        ocall (.m (.one .bool)) [] (impl_isSmall (byteAt x1 (Int.toNat x0))) fun (r6 : Bool) (m7 : Unit) =>
        oite (!r6)
          (oguard (decide (((0 : Int) ≤ x0) ∧ (x0 < (((ByteArray.size x1) : Nat) : Int)))) (
          ocall (.m (.one .bool)) [] (impl_isDigit (byteAt x1 (Int.toNat x0))) fun (r8 : Bool) (m9 : Unit) =>
          impl_wordLike_Fimpl_isSmall_j2 x1 x2 x0 (!r8)))
          (impl_wordLike_Fimpl_isSmall_j2 x1 x2 x0 false)))
        (impl_wordLike_Fimpl_isSmall_j2 x1 x2 x0 false)))
    (ocall (.m (.one .bool)) [] (impl_within (((ByteArray.size x1) : Nat) : Int) (1 : Int) (8 : Int)) fun (r10 : Bool) (m11 : Unit) =>
    some ((.d (.bool r10)), [])) := (evI_eq ..).trans (by kernel_rfl)
theorem impl_wordLike_Fimpl_isSmall_j2_eq (x0 : ByteArray) (x1 : Int) (x2 : Int) (x3 : Bool) : impl_wordLike_Fimpl_isSmall_j2 x0 x1 x2 x3 =
  oite x3
    (some ((.d (.bool false)), []))
    (impl_wordLike_Fimpl_isSmall_j1 (w64 (x2 + (1 : Int))) x0 x1) := (evI_eq ..).trans (by kernel_rfl)
theorem impl_isKey_eq (x0 : ByteArray) : impl_isKey x0 =
  ocall (.m (.one (.sl 1))) [] (strings_Fields (ByteArray.mk (Array.mk (List.append (List.append (102 :: (110 :: (32 :: (108 :: (101 :: (116 :: (32 :: (114 :: (101 :: (99 :: (32 :: (105 :: (102 :: (32 :: (112 :: (97 :: (105 :: (114 :: (32 :: (102 :: (115 :: (116 :: (32 :: (115 :: (110 :: (100 :: (32 :: (114 :: (101 :: (102 :: (32 :: (114 :: (101 :: []))))))))))))))))))))))))))))))))) (97 :: (100 :: (32 :: (119 :: (114 :: (105 :: (116 :: (101 :: (32 :: (109 :: (97 :: (116 :: (99 :: (104 :: (32 :: (114 :: (97 :: (105 :: (115 :: (101 :: (32 :: (116 :: (114 :: (121 :: (32 :: (97 :: (100 :: (100 :: (32 :: (115 :: (117 :: (98 :: (32 :: (109 :: []))))))))))))))))))))))))))))))))))) (List.append (117 :: (108 :: (32 :: (108 :: (101 :: (115 :: (115 :: (32 :: (115 :: (97 :: (109 :: (101 :: (32 :: (99 :: (97 :: (116 :: (32 :: (108 :: (101 :: (110 :: (32 :: (112 :: (114 :: (105 :: (110 :: (116 :: (32 :: (116 :: (105 :: (99 :: (107 :: (32 :: (100 :: []))))))))))))))))))))))))))))))))) (114 :: (97 :: (119 :: (32 :: (103 :: (101 :: (116 :: (32 :: (112 :: (117 :: (116 :: (32 :: (100 :: (97 :: (116 :: (97 :: (32 :: (117 :: (110 :: (105 :: (116 :: (32 :: (105 :: (110 :: (116 :: (32 :: (116 :: (101 :: (120 :: (116 :: (32 :: (102 :: (117 :: (110 :: []))))))))))))))))))))))))))))))))))))))) fun (r0 : Sl) (m1 : Unit) =>
  ocall (.m (.one .bool)) [] (slices_Contains_string_string r0 x0) fun (r2 : Bool) (m3 : Unit) =>
  some ((.d (.bool r2)), []) := (evF_eq ..).trans (by kernel_rfl)
noncomputable def impl_wordLike_Fimpl_isGreat_j1 (x0 : Int) (x1 : ByteArray) (x2 : Int) : Res := (fun (p : Env × Mem) => evI cx 100 0 1 p.1 p.2) ([(8, (.d (.int .i64 x0))), (0, (.d (.str x1))), (1, (.fn 142 [])), (7, (.d (.int .i64 x2)))], [])
noncomputable def impl_wordLike_Fimpl_isGreat_j2 (x0 : ByteArray) (x1 : Int) (x2 : Int) (x3 : Bool) : Res := (fun (p : Env × Mem) => evI cx 100 0 2 p.1 p.2) ([(0, (.d (.str x0))), (1, (.fn 142 [])), (7, (.d (.int .i64 x1))), (8, (.d (.int .i64 x2))), (38, (.d (.bool x3)))], [])
theorem impl_wordLike_Fimpl_isGreat_eq (x0 : ByteArray) : impl_wordLike_Fimpl_isGreat x0 =
  impl_wordLike_Fimpl_isGreat_j1 (0 : Int) x0 (((ByteArray.size x0) : Nat) : Int) := (evF_eq ..).trans (by kernel_rfl)
-- a loop's head
theorem impl_wordLike_Fimpl_isGreat_j1_eq (x0 : Int) (x1 : ByteArray) (x2 : Int) : impl_wordLike_Fimpl_isGreat_j1 x0 x1 x2 =
  oite (decide (x0 < x2))
    (oite (x0 == (0 : Int))
      (oguard (decide (((0 : Int) ≤ x0) ∧ (x0 < (((ByteArray.size x1) : Nat) : Int)))) (
      ocall (.m (.one .bool)) [] (impl_isGreat (byteAt x1 (Int.toNat x0))) fun (r0 : Bool) (m1 : Unit) =>
      oite (!r0)
        (impl_wordLike_Fimpl_isGreat_j2 x1 x2 x0 true)
        (oite (decide (x0 > (0 : Int)))
          (oguard (decide (((0 : Int) ≤ x0) ∧ (x0 < (((ByteArray.size x1) : Nat) : Int)))) (
          ocall (.m (.one .bool)) [] (impl_isSmall (byteAt x1 (Int.toNat x0))) fun (r2 : Bool) (m3 : Unit) =>
          oite (!r2)
            (oguard (decide (((0 : Int) ≤ x0) ∧ (x0 < (((ByteArray.size x1) : Nat) : Int)))) (
            ocall (.m (.one .bool)) [] (impl_isDigit (byteAt x1 (Int.toNat x0))) fun (r4 : Bool) (m5 : Unit) =>
            impl_wordLike_Fimpl_isGreat_j2 x1 x2 x0 (!r4)))
            (impl_wordLike_Fimpl_isGreat_j2 x1 x2 x0 false)))
          (impl_wordLike_Fimpl_isGreat_j2 x1 x2 x0 false))))
      (oite (decide (x0 > (0 : Int)))
        (oguard (decide (((0 : Int) ≤ x0) ∧ (x0 < (((ByteArray.size x1) : Nat) : Int)))) (
        ocall (.m (.one .bool)) [] (impl_isSmall (byteAt x1 (Int.toNat x0))) fun (r6 : Bool) (m7 : Unit) =>
        oite (!r6)
          (oguard (decide (((0 : Int) ≤ x0) ∧ (x0 < (((ByteArray.size x1) : Nat) : Int)))) (
          ocall (.m (.one .bool)) [] (impl_isDigit (byteAt x1 (Int.toNat x0))) fun (r8 : Bool) (m9 : Unit) =>
          impl_wordLike_Fimpl_isGreat_j2 x1 x2 x0 (!r8)))
          (impl_wordLike_Fimpl_isGreat_j2 x1 x2 x0 false)))
        (impl_wordLike_Fimpl_isGreat_j2 x1 x2 x0 false)))
    (ocall (.m (.one .bool)) [] (impl_within (((ByteArray.size x1) : Nat) : Int) (1 : Int) (8 : Int)) fun (r10 : Bool) (m11 : Unit) =>
    some ((.d (.bool r10)), [])) := (evI_eq ..).trans (by kernel_rfl)
theorem impl_wordLike_Fimpl_isGreat_j2_eq (x0 : ByteArray) (x1 : Int) (x2 : Int) (x3 : Bool) : impl_wordLike_Fimpl_isGreat_j2 x0 x1 x2 x3 =
  oite x3
    (some ((.d (.bool false)), []))
    (impl_wordLike_Fimpl_isGreat_j1 (w64 (x2 + (1 : Int))) x0 x1) := (evI_eq ..).trans (by kernel_rfl)
theorem slices_ContainsFunc_byte_byte_2_Fimpl_litOk_1_eq (x0 : Sl) : slices_ContainsFunc_byte_byte_2_Fimpl_litOk_1 x0 =
  ocall (.m (.one (.int .i64))) [] (slices_IndexFunc_byte_byte_2_Fimpl_litOk_1 x0) fun (r0 : Int) (m1 : Unit) =>
  some ((.d (.bool (decide (r0 ≥ (0 : Int))))), []) := (evF_eq ..).trans (by kernel_rfl)
noncomputable def slices_IndexFunc_byte_byte_Fimpl_armOk_1c_j1 (x0 : Int) (x1 : Sl) (x2 : Int) (x3 : Sl) : Res := (fun (p : Env × Mem) => evI cx 168 1 1 p.1 p.2) ([(8, (.d (.int .i64 x0))), (0, (.d (.sl false 1 x1.1 x1.2))), (1, (.fn 153 [(.ptr 0 0)])), (7, (.d (.int .i64 x2)))], [(.box [(.d (.sl false 1 x3.1 x3.2))])])
theorem slices_IndexFunc_byte_byte_Fimpl_armOk_1c_eq (x0 : Sl) (x1 : Sl) : slices_IndexFunc_byte_byte_Fimpl_armOk_1c x0 x1 =
  slices_IndexFunc_byte_byte_Fimpl_armOk_1c_j1 (0 : Int) x0 ((x0.1 : Nat) : Int) x1 := (evF_eq ..).trans (by kernel_rfl)
-- a loop's head
theorem slices_IndexFunc_byte_byte_Fimpl_armOk_1c_j1_eq (x0 : Int) (x1 : Sl) (x2 : Int) (x3 : Sl) : slices_IndexFunc_byte_byte_Fimpl_armOk_1c_j1 x0 x1 x2 x3 =
  oite (decide (x0 < x2))
    (oat [(.sl 1)] x1.1 x1.2 x0 fun (t0 : (Sl × Unit)) =>
    ocall (.m (.one .bool)) [(.box [(.sl 1)])] (impl_armOk_1 t0.1 x3) fun (r1 : Bool) (m2 : ((Sl × Unit) × Unit)) =>
    oite r1
      (some ((.d (.int .i64 x0)), [(.box [(.d (.sl false 1 m2.1.1.1 m2.1.1.2))])]))
      (slices_IndexFunc_byte_byte_Fimpl_armOk_1c_j1 (w64 (x0 + (1 : Int))) x1 x2 m2.1.1))
    (some ((.d (.int .i64 (-1 : Int))), [(.box [(.d (.sl false 1 x3.1 x3.2))])])) := (evI_eq ..).trans (by kernel_rfl)
noncomputable def slices_Index_int_int_j1 (x0 : Int) (x1 : Sl) (x2 : Int) (x3 : Int) : Res := (fun (p : Env × Mem) => evI cx 178 0 1 p.1 p.2) ([(8, (.d (.int .i64 x0))), (0, (.d (.sl false 1 x1.1 x1.2))), (1, (.d (.int .i64 x2))), (7, (.d (.int .i64 x3)))], [])
theorem slices_Index_int_int_eq (x0 : Sl) (x1 : Int) : slices_Index_int_int x0 x1 =
  slices_Index_int_int_j1 (0 : Int) x0 x1 ((x0.1 : Nat) : Int) := (evF_eq ..).trans (by kernel_rfl)
-- a loop's head
theorem slices_Index_int_int_j1_eq (x0 : Int) (x1 : Sl) (x2 : Int) (x3 : Int) : slices_Index_int_int_j1 x0 x1 x2 x3 =
  oite (decide (x0 < x3))
    (oat [(.int .i64)] x1.1 x1.2 x0 fun (t0 : (Int × Unit)) =>
    oite (x2 == t0.1)
      (some ((.d (.int .i64 x0)), []))
      (slices_Index_int_int_j1 (w64 (x0 + (1 : Int))) x1 x2 x3))
    (some ((.d (.int .i64 (-1 : Int))), [])) := (evI_eq ..).trans (by kernel_rfl)
theorem impl_isSmall_eq (x0 : Int) : impl_isSmall x0 =
  oite (decide (x0 ≥ (97 : Int)))
    (some ((.d (.bool (decide (x0 ≤ (122 : Int))))), []))
    (some ((.d (.bool false)), [])) := (evF_eq ..).trans (by kernel_rfl)
theorem impl_isDigit_eq (x0 : Int) : impl_isDigit x0 =
  oite (decide (x0 ≥ (48 : Int)))
    (some ((.d (.bool (decide (x0 ≤ (57 : Int))))), []))
    (some ((.d (.bool false)), [])) := (evF_eq ..).trans (by kernel_rfl)
theorem strings_Fields_eq (x0 : ByteArray) : strings_Fields x0 =
  oguard ((asciiB x0) && (decide ((ByteArray.size x0) < 4294967281))) (
  some ((.d (.sl false 1 (fieldN x0) (fieldEs x0))), [])) := (evF_eq ..).trans (by kernel_rfl)
theorem slices_Contains_string_string_eq (x0 : Sl) (x1 : ByteArray) : slices_Contains_string_string x0 x1 =
  ocall (.m (.one (.int .i64))) [] (slices_Index_string_string x0 x1) fun (r0 : Int) (m1 : Unit) =>
  some ((.d (.bool (decide (r0 ≥ (0 : Int))))), []) := (evF_eq ..).trans (by kernel_rfl)
theorem impl_isGreat_eq (x0 : Int) : impl_isGreat x0 =
  oite (decide (x0 ≥ (65 : Int)))
    (some ((.d (.bool (decide (x0 ≤ (90 : Int))))), []))
    (some ((.d (.bool false)), [])) := (evF_eq ..).trans (by kernel_rfl)
noncomputable def slices_IndexFunc_byte_byte_2_Fimpl_litOk_1_j1 (x0 : Int) (x1 : Sl) (x2 : Int) : Res := (fun (p : Env × Mem) => evI cx 174 0 1 p.1 p.2) ([(8, (.d (.int .i64 x0))), (0, (.d (.sl false 1 x1.1 x1.2))), (1, (.fn 161 [])), (7, (.d (.int .i64 x2)))], [])
theorem slices_IndexFunc_byte_byte_2_Fimpl_litOk_1_eq (x0 : Sl) : slices_IndexFunc_byte_byte_2_Fimpl_litOk_1 x0 =
  slices_IndexFunc_byte_byte_2_Fimpl_litOk_1_j1 (0 : Int) x0 ((x0.1 : Nat) : Int) := (evF_eq ..).trans (by kernel_rfl)
-- a loop's head
theorem slices_IndexFunc_byte_byte_2_Fimpl_litOk_1_j1_eq (x0 : Int) (x1 : Sl) (x2 : Int) : slices_IndexFunc_byte_byte_2_Fimpl_litOk_1_j1 x0 x1 x2 =
  oite (decide (x0 < x2))
    (oat [(.int .u8)] x1.1 x1.2 x0 fun (t0 : (Int × Unit)) =>
    ocall (.m (.one .bool)) [] (impl_litOk_1 t0.1) fun (r1 : Bool) (m2 : Unit) =>
    oite r1
      (some ((.d (.int .i64 x0)), []))
      (slices_IndexFunc_byte_byte_2_Fimpl_litOk_1_j1 (w64 (x0 + (1 : Int))) x1 x2))
    (some ((.d (.int .i64 (-1 : Int))), [])) := (evI_eq ..).trans (by kernel_rfl)
theorem impl_armOk_1_eq (x0 : Sl) (x1 : Sl) : impl_armOk_1 x0 x1 =
  ocall (.m (.one .bool)) [] (bytes_Equal x0 x1) fun (r0 : Bool) (m1 : Unit) =>
  some ((.d (.bool r0)), [(.box [(.d (.sl false 1 x1.1 x1.2))])]) := (evF_eq ..).trans (by kernel_rfl)
noncomputable def slices_Index_string_string_j1 (x0 : Int) (x1 : Sl) (x2 : ByteArray) (x3 : Int) : Res := (fun (p : Env × Mem) => evI cx 164 0 1 p.1 p.2) ([(8, (.d (.int .i64 x0))), (0, (.d (.sl false 1 x1.1 x1.2))), (1, (.d (.str x2))), (7, (.d (.int .i64 x3)))], [])
theorem slices_Index_string_string_eq (x0 : Sl) (x1 : ByteArray) : slices_Index_string_string x0 x1 =
  slices_Index_string_string_j1 (0 : Int) x0 x1 ((x0.1 : Nat) : Int) := (evF_eq ..).trans (by kernel_rfl)
-- a loop's head
theorem slices_Index_string_string_j1_eq (x0 : Int) (x1 : Sl) (x2 : ByteArray) (x3 : Int) : slices_Index_string_string_j1 x0 x1 x2 x3 =
  oite (decide (x0 < x3))
    (oat [.str] x1.1 x1.2 x0 fun (t0 : (ByteArray × Unit)) =>
    oite ((ByteArray.toList x2) == (ByteArray.toList t0.1))
      (some ((.d (.int .i64 x0)), []))
      (slices_Index_string_string_j1 (w64 (x0 + (1 : Int))) x1 x2 x3))
    (some ((.d (.int .i64 (-1 : Int))), [])) := (evI_eq ..).trans (by kernel_rfl)
theorem impl_litOk_1_eq (x0 : Int) : impl_litOk_1 x0 =
  oite (decide (x0 < (32 : Int)))
    (some ((.d (.bool true)), []))
    (oite (decide (x0 > (126 : Int)))
      (some ((.d (.bool true)), []))
      (oite (x0 == (34 : Int))
        (some ((.d (.bool true)), []))
        (some ((.d (.bool (x0 == (92 : Int)))), [])))) := (evF_eq ..).trans (by kernel_rfl)
theorem bytes_Equal_eq (x0 : Sl) (x1 : Sl) : bytes_Equal x0 x1 =
  ostr x0.2 fun (s0 : ByteArray) =>
  ostr x1.2 fun (s1 : ByteArray) =>
  some ((.d (.bool ((ByteArray.toList s0) == (ByteArray.toList s1)))), []) := (evF_eq ..).trans (by kernel_rfl)
theorem ty4 : TIok Tryd.prog 4 ⟨1, 1, false, .bool, [.d (.bool false)], [.bool]⟩ := ⟨Tryd.sizeOf4, Tryd.isAgg4, Tryd.runUnderlying4, ⟨_, Tryd.typeInfo4, rfl⟩, by decide, by decide, ⟨_, Tryd.zeroValue4, rfl, fun w C ι => z_cons z_bool (z_end)⟩⟩
theorem ty3 : TIok Tryd.prog 3 ⟨1, 8, false, (.int .i64), [.d (.int .i64 0)], [.int .i64]⟩ := ⟨Tryd.sizeOf3, Tryd.isAgg3, Tryd.runUnderlying3, ⟨_, Tryd.typeInfo3, rfl⟩, by decide, by decide, ⟨_, Tryd.zeroValue3, rfl, fun w C ι => z_cons z_int (z_end)⟩⟩
theorem ty22 : TIok Tryd.prog 22 ⟨1, 24, false, (.sl 76), [.d (.sl true 3 0 [])], [.sl 3]⟩ := ⟨Tryd.sizeOf22, Tryd.isAgg22, Tryd.runUnderlying22, ⟨_, Tryd.typeInfo22, rfl⟩, by decide, by decide, ⟨_, Tryd.zeroValue22, rfl, fun w C ι => z_cons z_nil (z_end)⟩⟩
theorem ty76 : TIok Tryd.prog 76 ⟨3, 56, true, (.st [(0, 29), (1, 3), (2, 74)]), [.d (.sl true 1 0 []), .d (.int .i64 0), .d (.sl true 2 0 [])], [.sl 1, .int .i64, .sl 2]⟩ := ⟨Tryd.sizeOf76, Tryd.isAgg76, ⟨_, Tryd.runUnderlying76, rfl, f_cons Tryd.sizeOf29 (f_cons Tryd.sizeOf3 (f_cons Tryd.sizeOf74 (f_end)))⟩, ⟨_, Tryd.typeInfo76, rfl⟩, by decide, by decide, ⟨_, Tryd.zeroValue76, rfl, fun w C ι => z_cons z_nil (z_cons z_int (z_cons z_nil (z_end)))⟩⟩
theorem ty29 : TIok Tryd.prog 29 ⟨1, 24, false, (.sl 5), [.d (.sl true 1 0 [])], [.sl 1]⟩ := ⟨Tryd.sizeOf29, Tryd.isAgg29, Tryd.runUnderlying29, ⟨_, Tryd.typeInfo29, rfl⟩, by decide, by decide, ⟨_, Tryd.zeroValue29, rfl, fun w C ι => z_cons z_nil (z_end)⟩⟩
theorem ty5 : TIok Tryd.prog 5 ⟨1, 1, false, (.int .u8), [.d (.int .u8 0)], [.int .u8]⟩ := ⟨Tryd.sizeOf5, Tryd.isAgg5, Tryd.runUnderlying5, ⟨_, Tryd.typeInfo5, rfl⟩, by decide, by decide, ⟨_, Tryd.zeroValue5, rfl, fun w C ι => z_cons z_int (z_end)⟩⟩
theorem ty74 : TIok Tryd.prog 74 ⟨1, 24, false, (.sl 165), [.d (.sl true 2 0 [])], [.sl 2]⟩ := ⟨Tryd.sizeOf74, Tryd.isAgg74, Tryd.runUnderlying74, ⟨_, Tryd.typeInfo74, rfl⟩, by decide, by decide, ⟨_, Tryd.zeroValue74, rfl, fun w C ι => z_cons z_nil (z_end)⟩⟩
theorem ty165 : TIok Tryd.prog 165 ⟨2, 48, true, (.st [(0, 29), (1, 59)]), [.d (.sl true 1 0 []), .d (.sl true 3 0 [])], [.sl 1, .sl 3]⟩ := ⟨Tryd.sizeOf165, Tryd.isAgg165, ⟨_, Tryd.runUnderlying165, rfl, f_cons Tryd.sizeOf29 (f_cons Tryd.sizeOf59 (f_end))⟩, ⟨_, Tryd.typeInfo165, rfl⟩, by decide, by decide, ⟨_, Tryd.zeroValue165, rfl, fun w C ι => z_cons z_nil (z_cons z_nil (z_end))⟩⟩
theorem ty59 : TIok Tryd.prog 59 ⟨1, 24, false, (.sl 61), [.d (.sl true 3 0 [])], [.sl 3]⟩ := ⟨Tryd.sizeOf59, Tryd.isAgg59, Tryd.runUnderlying59, ⟨_, Tryd.typeInfo59, rfl⟩, by decide, by decide, ⟨_, Tryd.zeroValue59, rfl, fun w C ι => z_cons z_nil (z_end)⟩⟩
theorem ty61 : TIok Tryd.prog 61 ⟨3, 40, true, (.st [(0, 3), (1, 3), (2, 59)]), [.d (.int .i64 0), .d (.int .i64 0), .d (.sl true 3 0 [])], [.int .i64, .int .i64, .sl 3]⟩ := ⟨Tryd.sizeOf61, Tryd.isAgg61, ⟨_, Tryd.runUnderlying61, rfl, f_cons Tryd.sizeOf3 (f_cons Tryd.sizeOf3 (f_cons Tryd.sizeOf59 (f_end)))⟩, ⟨_, Tryd.typeInfo61, rfl⟩, by decide, by decide, ⟨_, Tryd.zeroValue61, rfl, fun w C ι => z_cons z_int (z_cons z_int (z_cons z_nil (z_end)))⟩⟩
theorem ty25 : TIok Tryd.prog 25 ⟨1, 24, false, (.sl 79), [.d (.sl true 3 0 [])], [.sl 3]⟩ := ⟨Tryd.sizeOf25, Tryd.isAgg25, Tryd.runUnderlying25, ⟨_, Tryd.typeInfo25, rfl⟩, by decide, by decide, ⟨_, Tryd.zeroValue25, rfl, fun w C ι => z_cons z_nil (z_end)⟩⟩
theorem ty79 : TIok Tryd.prog 79 ⟨3, 56, true, (.st [(0, 29), (1, 3), (2, 77)]), [.d (.sl true 1 0 []), .d (.int .i64 0), .d (.sl true 2 0 [])], [.sl 1, .int .i64, .sl 2]⟩ := ⟨Tryd.sizeOf79, Tryd.isAgg79, ⟨_, Tryd.runUnderlying79, rfl, f_cons Tryd.sizeOf29 (f_cons Tryd.sizeOf3 (f_cons Tryd.sizeOf77 (f_end)))⟩, ⟨_, Tryd.typeInfo79, rfl⟩, by decide, by decide, ⟨_, Tryd.zeroValue79, rfl, fun w C ι => z_cons z_nil (z_cons z_int (z_cons z_nil (z_end)))⟩⟩
theorem ty77 : TIok Tryd.prog 77 ⟨1, 24, false, (.sl 82), [.d (.sl true 2 0 [])], [.sl 2]⟩ := ⟨Tryd.sizeOf77, Tryd.isAgg77, Tryd.runUnderlying77, ⟨_, Tryd.typeInfo77, rfl⟩, by decide, by decide, ⟨_, Tryd.zeroValue77, rfl, fun w C ι => z_cons z_nil (z_end)⟩⟩
theorem ty82 : TIok Tryd.prog 82 ⟨2, 48, true, (.st [(0, 29), (1, 43)]), [.d (.sl true 1 0 []), .d (.sl true 3 0 [])], [.sl 1, .sl 3]⟩ := ⟨Tryd.sizeOf82, Tryd.isAgg82, ⟨_, Tryd.runUnderlying82, rfl, f_cons Tryd.sizeOf29 (f_cons Tryd.sizeOf43 (f_end))⟩, ⟨_, Tryd.typeInfo82, rfl⟩, by decide, by decide, ⟨_, Tryd.zeroValue82, rfl, fun w C ι => z_cons z_nil (z_cons z_nil (z_end))⟩⟩
theorem ty43 : TIok Tryd.prog 43 ⟨1, 24, false, (.sl 45), [.d (.sl true 3 0 [])], [.sl 3]⟩ := ⟨Tryd.sizeOf43, Tryd.isAgg43, Tryd.runUnderlying43, ⟨_, Tryd.typeInfo43, rfl⟩, by decide, by decide, ⟨_, Tryd.zeroValue43, rfl, fun w C ι => z_cons z_nil (z_end)⟩⟩
theorem ty45 : TIok Tryd.prog 45 ⟨3, 40, true, (.st [(0, 3), (1, 3), (2, 43)]), [.d (.int .i64 0), .d (.int .i64 0), .d (.sl true 3 0 [])], [.int .i64, .int .i64, .sl 3]⟩ := ⟨Tryd.sizeOf45, Tryd.isAgg45, ⟨_, Tryd.runUnderlying45, rfl, f_cons Tryd.sizeOf3 (f_cons Tryd.sizeOf3 (f_cons Tryd.sizeOf43 (f_end)))⟩, ⟨_, Tryd.typeInfo45, rfl⟩, by decide, by decide, ⟨_, Tryd.zeroValue45, rfl, fun w C ι => z_cons z_int (z_cons z_int (z_cons z_nil (z_end)))⟩⟩
theorem ty33 : TIok Tryd.prog 33 ⟨7, 136, true, (.st [(0, 3), (1, 3), (2, 29), (3, 29), (4, 29), (5, 30), (6, 31)]), [.d (.int .i64 0), .d (.int .i64 0), .d (.sl true 1 0 []), .d (.sl true 1 0 []), .d (.sl true 1 0 []), .d (.sl true 7 0 []), .d (.sl true 9 0 [])], [.int .i64, .int .i64, .sl 1, .sl 1, .sl 1, .sl 7, .sl 9]⟩ := ⟨Tryd.sizeOf33, Tryd.isAgg33, ⟨_, Tryd.runUnderlying33, rfl, f_cons Tryd.sizeOf3 (f_cons Tryd.sizeOf3 (f_cons Tryd.sizeOf29 (f_cons Tryd.sizeOf29 (f_cons Tryd.sizeOf29 (f_cons Tryd.sizeOf30 (f_cons Tryd.sizeOf31 (f_end)))))))⟩, ⟨_, Tryd.typeInfo33, rfl⟩, by decide, by decide, ⟨_, Tryd.zeroValue33, rfl, fun w C ι => z_cons z_int (z_cons z_int (z_cons z_nil (z_cons z_nil (z_cons z_nil (z_cons z_nil (z_cons z_nil (z_end)))))))⟩⟩
theorem ty30 : TIok Tryd.prog 30 ⟨1, 24, false, (.sl 33), [.d (.sl true 7 0 [])], [.sl 7]⟩ := ⟨Tryd.sizeOf30, Tryd.isAgg30, Tryd.runUnderlying30, ⟨_, Tryd.typeInfo30, rfl⟩, by decide, by decide, ⟨_, Tryd.zeroValue30, rfl, fun w C ι => z_cons z_nil (z_end)⟩⟩
theorem ty31 : TIok Tryd.prog 31 ⟨1, 24, false, (.sl 137), [.d (.sl true 9 0 [])], [.sl 9]⟩ := ⟨Tryd.sizeOf31, Tryd.isAgg31, Tryd.runUnderlying31, ⟨_, Tryd.typeInfo31, rfl⟩, by decide, by decide, ⟨_, Tryd.zeroValue31, rfl, fun w C ι => z_cons z_nil (z_end)⟩⟩
theorem ty137 : TIok Tryd.prog 137 ⟨9, 184, true, (.st [(0, 29), (1, 135), (2, 33)]), [.d (.sl true 1 0 []), .d (.sl true 1 0 []), .d (.int .i64 0), .d (.int .i64 0), .d (.sl true 1 0 []), .d (.sl true 1 0 []), .d (.sl true 1 0 []), .d (.sl true 7 0 []), .d (.sl true 9 0 [])], [.sl 1, .sl 1, .int .i64, .int .i64, .sl 1, .sl 1, .sl 1, .sl 7, .sl 9]⟩ := ⟨Tryd.sizeOf137, Tryd.isAgg137, ⟨_, Tryd.runUnderlying137, rfl, f_cons Tryd.sizeOf29 (f_cons Tryd.sizeOf135 (f_cons Tryd.sizeOf33 (f_end)))⟩, ⟨_, Tryd.typeInfo137, rfl⟩, by decide, by decide, ⟨_, Tryd.zeroValue137, rfl, fun w C ι => z_cons z_nil (z_cons z_nil (z_cons z_int (z_cons z_int (z_cons z_nil (z_cons z_nil (z_cons z_nil (z_cons z_nil (z_cons z_nil (z_end)))))))))⟩⟩
theorem ty135 : TIok Tryd.prog 135 ⟨1, 24, false, (.sl 29), [.d (.sl true 1 0 [])], [.sl 1]⟩ := ⟨Tryd.sizeOf135, Tryd.isAgg135, Tryd.runUnderlying135, ⟨_, Tryd.typeInfo135, rfl⟩, by decide, by decide, ⟨_, Tryd.zeroValue135, rfl, fun w C ι => z_cons z_nil (z_end)⟩⟩
theorem ty39 : TIok Tryd.prog 39 ⟨7, 136, true, (.st [(0, 3), (1, 3), (2, 29), (3, 29), (4, 29), (5, 36), (6, 37)]), [.d (.int .i64 0), .d (.int .i64 0), .d (.sl true 1 0 []), .d (.sl true 1 0 []), .d (.sl true 1 0 []), .d (.sl true 7 0 []), .d (.sl true 9 0 [])], [.int .i64, .int .i64, .sl 1, .sl 1, .sl 1, .sl 7, .sl 9]⟩ := ⟨Tryd.sizeOf39, Tryd.isAgg39, ⟨_, Tryd.runUnderlying39, rfl, f_cons Tryd.sizeOf3 (f_cons Tryd.sizeOf3 (f_cons Tryd.sizeOf29 (f_cons Tryd.sizeOf29 (f_cons Tryd.sizeOf29 (f_cons Tryd.sizeOf36 (f_cons Tryd.sizeOf37 (f_end)))))))⟩, ⟨_, Tryd.typeInfo39, rfl⟩, by decide, by decide, ⟨_, Tryd.zeroValue39, rfl, fun w C ι => z_cons z_int (z_cons z_int (z_cons z_nil (z_cons z_nil (z_cons z_nil (z_cons z_nil (z_cons z_nil (z_end)))))))⟩⟩
theorem ty36 : TIok Tryd.prog 36 ⟨1, 24, false, (.sl 39), [.d (.sl true 7 0 [])], [.sl 7]⟩ := ⟨Tryd.sizeOf36, Tryd.isAgg36, Tryd.runUnderlying36, ⟨_, Tryd.typeInfo36, rfl⟩, by decide, by decide, ⟨_, Tryd.zeroValue36, rfl, fun w C ι => z_cons z_nil (z_end)⟩⟩
theorem ty37 : TIok Tryd.prog 37 ⟨1, 24, false, (.sl 143), [.d (.sl true 9 0 [])], [.sl 9]⟩ := ⟨Tryd.sizeOf37, Tryd.isAgg37, Tryd.runUnderlying37, ⟨_, Tryd.typeInfo37, rfl⟩, by decide, by decide, ⟨_, Tryd.zeroValue37, rfl, fun w C ι => z_cons z_nil (z_end)⟩⟩
theorem ty143 : TIok Tryd.prog 143 ⟨9, 184, true, (.st [(0, 29), (1, 135), (2, 39)]), [.d (.sl true 1 0 []), .d (.sl true 1 0 []), .d (.int .i64 0), .d (.int .i64 0), .d (.sl true 1 0 []), .d (.sl true 1 0 []), .d (.sl true 1 0 []), .d (.sl true 7 0 []), .d (.sl true 9 0 [])], [.sl 1, .sl 1, .int .i64, .int .i64, .sl 1, .sl 1, .sl 1, .sl 7, .sl 9]⟩ := ⟨Tryd.sizeOf143, Tryd.isAgg143, ⟨_, Tryd.runUnderlying143, rfl, f_cons Tryd.sizeOf29 (f_cons Tryd.sizeOf135 (f_cons Tryd.sizeOf39 (f_end)))⟩, ⟨_, Tryd.typeInfo143, rfl⟩, by decide, by decide, ⟨_, Tryd.zeroValue143, rfl, fun w C ι => z_cons z_nil (z_cons z_nil (z_cons z_int (z_cons z_int (z_cons z_nil (z_cons z_nil (z_cons z_nil (z_cons z_nil (z_cons z_nil (z_end)))))))))⟩⟩
theorem ty67 : TIok Tryd.prog 67 ⟨1, 24, false, (.sl 120), [.d (.sl true 4 0 [])], [.sl 4]⟩ := ⟨Tryd.sizeOf67, Tryd.isAgg67, Tryd.runUnderlying67, ⟨_, Tryd.typeInfo67, rfl⟩, by decide, by decide, ⟨_, Tryd.zeroValue67, rfl, fun w C ι => z_cons z_nil (z_end)⟩⟩
theorem ty120 : TIok Tryd.prog 120 ⟨4, 48, true, (.st [(0, 3), (1, 3), (2, 3), (3, 29)]), [.d (.int .i64 0), .d (.int .i64 0), .d (.int .i64 0), .d (.sl true 1 0 [])], [.int .i64, .int .i64, .int .i64, .sl 1]⟩ := ⟨Tryd.sizeOf120, Tryd.isAgg120, ⟨_, Tryd.runUnderlying120, rfl, f_cons Tryd.sizeOf3 (f_cons Tryd.sizeOf3 (f_cons Tryd.sizeOf3 (f_cons Tryd.sizeOf29 (f_end))))⟩, ⟨_, Tryd.typeInfo120, rfl⟩, by decide, by decide, ⟨_, Tryd.zeroValue120, rfl, fun w C ι => z_cons z_int (z_cons z_int (z_cons z_int (z_cons z_nil (z_end))))⟩⟩
theorem ty9 : TIok Tryd.prog 9 ⟨1, 16, false, .str, [.d (.str ⟨#[]⟩)], [.str]⟩ := ⟨Tryd.sizeOf9, Tryd.isAgg9, Tryd.runUnderlying9, ⟨_, Tryd.typeInfo9, rfl⟩, by decide, by decide, ⟨_, Tryd.zeroValue9, rfl, fun w C ι => z_cons z_str (z_end)⟩⟩
theorem ty99 : TIok Tryd.prog 99 ⟨1, 8, false, .other, [.undef], [.undef]⟩ := ⟨Tryd.sizeOf99, Tryd.isAgg99, trivial, ⟨_, Tryd.typeInfo99, rfl⟩, by decide, by decide, ⟨_, Tryd.zeroValue99, rfl, fun w C ι => z_cons z_un (z_end)⟩⟩
theorem ty103 : TIok Tryd.prog 103 ⟨1, 8, false, .other, [.undef], [.undef]⟩ := ⟨Tryd.sizeOf103, Tryd.isAgg103, trivial, ⟨_, Tryd.typeInfo103, rfl⟩, by decide, by decide, ⟨_, Tryd.zeroValue103, rfl, fun w C ι => z_cons z_un (z_end)⟩⟩
theorem ty151 : TIok Tryd.prog 151 ⟨3, 40, true, (.st [(0, 29), (1, 3), (2, 3)]), [.d (.sl true 1 0 []), .d (.int .i64 0), .d (.int .i64 0)], [.sl 1, .int .i64, .int .i64]⟩ := ⟨Tryd.sizeOf151, Tryd.isAgg151, ⟨_, Tryd.runUnderlying151, rfl, f_cons Tryd.sizeOf29 (f_cons Tryd.sizeOf3 (f_cons Tryd.sizeOf3 (f_end)))⟩, ⟨_, Tryd.typeInfo151, rfl⟩, by decide, by decide, ⟨_, Tryd.zeroValue151, rfl, fun w C ι => z_cons z_nil (z_cons z_int (z_cons z_int (z_end)))⟩⟩
theorem ty111 : TIok Tryd.prog 111 ⟨1, 24, false, (.sl 3), [.d (.sl true 1 0 [])], [.sl 1]⟩ := ⟨Tryd.sizeOf111, Tryd.isAgg111, Tryd.runUnderlying111, ⟨_, Tryd.typeInfo111, rfl⟩, by decide, by decide, ⟨_, Tryd.zeroValue111, rfl, fun w C ι => z_cons z_nil (z_end)⟩⟩
theorem ty114 : TIok Tryd.prog 114 ⟨1, 8, false, .other, [.undef], [.undef]⟩ := ⟨Tryd.sizeOf114, Tryd.isAgg114, trivial, ⟨_, Tryd.typeInfo114, rfl⟩, by decide, by decide, ⟨_, Tryd.zeroValue114, rfl, fun w C ι => z_cons z_un (z_end)⟩⟩
theorem ty127 : TIok Tryd.prog 127 ⟨1, 8, false, .other, [.undef], [.undef]⟩ := ⟨Tryd.sizeOf127, Tryd.isAgg127, trivial, ⟨_, Tryd.typeInfo127, rfl⟩, by decide, by decide, ⟨_, Tryd.zeroValue127, rfl, fun w C ι => z_cons z_un (z_end)⟩⟩
theorem ty48 : TIok Tryd.prog 48 ⟨1, 8, false, .other, [.undef], [.undef]⟩ := ⟨Tryd.sizeOf48, Tryd.isAgg48, trivial, ⟨_, Tryd.typeInfo48, rfl⟩, by decide, by decide, ⟨_, Tryd.zeroValue48, rfl, fun w C ι => z_cons z_un (z_end)⟩⟩
theorem ty156 : TIok Tryd.prog 156 ⟨1, 24, false, (.sl 9), [.d (.sl true 1 0 [])], [.sl 1]⟩ := ⟨Tryd.sizeOf156, Tryd.isAgg156, Tryd.runUnderlying156, ⟨_, Tryd.typeInfo156, rfl⟩, by decide, by decide, ⟨_, Tryd.zeroValue156, rfl, fun w C ι => z_cons z_nil (z_end)⟩⟩
theorem ty51 : TIok Tryd.prog 51 ⟨1, 8, false, .other, [.undef], [.undef]⟩ := ⟨Tryd.sizeOf51, Tryd.isAgg51, trivial, ⟨_, Tryd.typeInfo51, rfl⟩, by decide, by decide, ⟨_, Tryd.zeroValue51, rfl, fun w C ι => z_cons z_un (z_end)⟩⟩
theorem ty171 : TIok Tryd.prog 171 ⟨1, 8, false, .other, [.undef], [.undef]⟩ := ⟨Tryd.sizeOf171, Tryd.isAgg171, trivial, ⟨_, Tryd.typeInfo171, rfl⟩, by decide, by decide, ⟨_, Tryd.zeroValue171, rfl, fun w C ι => z_cons z_un (z_end)⟩⟩
theorem ty58 : TIok Tryd.prog 58 ⟨1, 8, false, .other, [.undef], [.undef]⟩ := ⟨Tryd.sizeOf58, Tryd.isAgg58, trivial, ⟨_, Tryd.typeInfo58, rfl⟩, by decide, by decide, ⟨_, Tryd.zeroValue58, rfl, fun w C ι => z_cons z_un (z_end)⟩⟩
theorem ty182 : TIok Tryd.prog 182 ⟨1, 8, false, (.int .u64), [.d (.int .u64 0)], [.int .u64]⟩ := ⟨Tryd.sizeOf182, Tryd.isAgg182, Tryd.runUnderlying182, ⟨_, Tryd.typeInfo182, rfl⟩, by decide, by decide, ⟨_, Tryd.zeroValue182, rfl, fun w C ι => z_cons z_int (z_end)⟩⟩
theorem ty2 : TIok Tryd.prog 2 ⟨1, 8, false, (.int .i64), [.d (.int .i64 0)], [.int .i64]⟩ := ⟨Tryd.sizeOf2, Tryd.isAgg2, Tryd.runUnderlying2, ⟨_, Tryd.typeInfo2, rfl⟩, by decide, by decide, ⟨_, Tryd.zeroValue2, rfl, fun w C ι => z_cons z_int (z_end)⟩⟩
theorem ty185 : TIok Tryd.prog 185 ⟨1, 8, false, (.int .u64), [.d (.int .u64 0)], [.int .u64]⟩ := ⟨Tryd.sizeOf185, Tryd.isAgg185, Tryd.runUnderlying185, ⟨_, Tryd.typeInfo185, rfl⟩, by decide, by decide, ⟨_, Tryd.zeroValue185, rfl, fun w C ι => z_cons z_int (z_end)⟩⟩
theorem ty188 : TIok Tryd.prog 188 ⟨1, 16, false, .other, [.undef], [.undef]⟩ := ⟨Tryd.sizeOf188, Tryd.isAgg188, trivial, ⟨_, Tryd.typeInfo188, rfl⟩, by decide, by decide, ⟨_, Tryd.zeroValue188, rfl, fun w C ι => z_cons z_un (z_end)⟩⟩
theorem ty192 : TIok Tryd.prog 192 ⟨256, 256, true, .other, [.undef, .undef, .undef, .undef, .undef, .undef, .undef, .undef, .undef, .undef, .undef, .undef, .undef, .undef, .undef, .undef, .undef, .undef, .undef, .undef, .undef, .undef, .undef, .undef, .undef, .undef, .undef, .undef, .undef, .undef, .undef, .undef, .undef, .undef, .undef, .undef, .undef, .undef, .undef, .undef, .undef, .undef, .undef, .undef, .undef, .undef, .undef, .undef, .undef, .undef, .undef, .undef, .undef, .undef, .undef, .undef, .undef, .undef, .undef, .undef, .undef, .undef, .undef, .undef, .undef, .undef, .undef, .undef, .undef, .undef, .undef, .undef, .undef, .undef, .undef, .undef, .undef, .undef, .undef, .undef, .undef, .undef, .undef, .undef, .undef, .undef, .undef, .undef, .undef, .undef, .undef, .undef, .undef, .undef, .undef, .undef, .undef, .undef, .undef, .undef, .undef, .undef, .undef, .undef, .undef, .undef, .undef, .undef, .undef, .undef, .undef, .undef, .undef, .undef, .undef, .undef, .undef, .undef, .undef, .undef, .undef, .undef, .undef, .undef, .undef, .undef, .undef, .undef, .undef, .undef, .undef, .undef, .undef, .undef, .undef, .undef, .undef, .undef, .undef, .undef, .undef, .undef, .undef, .undef, .undef, .undef, .undef, .undef, .undef, .undef, .undef, .undef, .undef, .undef, .undef, .undef, .undef, .undef, .undef, .undef, .undef, .undef, .undef, .undef, .undef, .undef, .undef, .undef, .undef, .undef, .undef, .undef, .undef, .undef, .undef, .undef, .undef, .undef, .undef, .undef, .undef, .undef, .undef, .undef, .undef, .undef, .undef, .undef, .undef, .undef, .undef, .undef, .undef, .undef, .undef, .undef, .undef, .undef, .undef, .undef, .undef, .undef, .undef, .undef, .undef, .undef, .undef, .undef, .undef, .undef, .undef, .undef, .undef, .undef, .undef, .undef, .undef, .undef, .undef, .undef, .undef, .undef, .undef, .undef, .undef, .undef, .undef, .undef, .undef, .undef, .undef, .undef, .undef, .undef, .undef, .undef, .undef, .undef, .undef, .undef, .undef, .undef, .undef, .undef, .undef, .undef, .undef, .undef, .undef, .undef, .undef, .undef, .undef, .undef, .undef, .undef], [.undef, .undef, .undef, .undef, .undef, .undef, .undef, .undef, .undef, .undef, .undef, .undef, .undef, .undef, .undef, .undef, .undef, .undef, .undef, .undef, .undef, .undef, .undef, .undef, .undef, .undef, .undef, .undef, .undef, .undef, .undef, .undef, .undef, .undef, .undef, .undef, .undef, .undef, .undef, .undef, .undef, .undef, .undef, .undef, .undef, .undef, .undef, .undef, .undef, .undef, .undef, .undef, .undef, .undef, .undef, .undef, .undef, .undef, .undef, .undef, .undef, .undef, .undef, .undef, .undef, .undef, .undef, .undef, .undef, .undef, .undef, .undef, .undef, .undef, .undef, .undef, .undef, .undef, .undef, .undef, .undef, .undef, .undef, .undef, .undef, .undef, .undef, .undef, .undef, .undef, .undef, .undef, .undef, .undef, .undef, .undef, .undef, .undef, .undef, .undef, .undef, .undef, .undef, .undef, .undef, .undef, .undef, .undef, .undef, .undef, .undef, .undef, .undef, .undef, .undef, .undef, .undef, .undef, .undef, .undef, .undef, .undef, .undef, .undef, .undef, .undef, .undef, .undef, .undef, .undef, .undef, .undef, .undef, .undef, .undef, .undef, .undef, .undef, .undef, .undef, .undef, .undef, .undef, .undef, .undef, .undef, .undef, .undef, .undef, .undef, .undef, .undef, .undef, .undef, .undef, .undef, .undef, .undef, .undef, .undef, .undef, .undef, .undef, .undef, .undef, .undef, .undef, .undef, .undef, .undef, .undef, .undef, .undef, .undef, .undef, .undef, .undef, .undef, .undef, .undef, .undef, .undef, .undef, .undef, .undef, .undef, .undef, .undef, .undef, .undef, .undef, .undef, .undef, .undef, .undef, .undef, .undef, .undef, .undef, .undef, .undef, .undef, .undef, .undef, .undef, .undef, .undef, .undef, .undef, .undef, .undef, .undef, .undef, .undef, .undef, .undef, .undef, .undef, .undef, .undef, .undef, .undef, .undef, .undef, .undef, .undef, .undef, .undef, .undef, .undef, .undef, .undef, .undef, .undef, .undef, .undef, .undef, .undef, .undef, .undef, .undef, .undef, .undef, .undef, .undef, .undef, .undef, .undef, .undef, .undef, .undef, .undef, .undef, .undef, .undef, .undef]⟩ := ⟨Tryd.sizeOf192, Tryd.isAgg192, trivial, ⟨_, Tryd.typeInfo192, rfl⟩, by decide, by decide, ⟨_, Tryd.zeroValue192, rfl, fun w C ι => z_cons z_un (z_cons z_un (z_cons z_un (z_cons z_un (z_cons z_un (z_cons z_un (z_cons z_un (z_cons z_un (z_cons z_un (z_cons z_un (z_cons z_un (z_cons z_un (z_cons z_un (z_cons z_un (z_cons z_un (z_cons z_un (z_cons z_un (z_cons z_un (z_cons z_un (z_cons z_un (z_cons z_un (z_cons z_un (z_cons z_un (z_cons z_un (z_cons z_un (z_cons z_un (z_cons z_un (z_cons z_un (z_cons z_un (z_cons z_un (z_cons z_un (z_cons z_un (z_cons z_un (z_cons z_un (z_cons z_un (z_cons z_un (z_cons z_un (z_cons z_un (z_cons z_un (z_cons z_un (z_cons z_un (z_cons z_un (z_cons z_un (z_cons z_un (z_cons z_un (z_cons z_un (z_cons z_un (z_cons z_un (z_cons z_un (z_cons z_un (z_cons z_un (z_cons z_un (z_cons z_un (z_cons z_un (z_cons z_un (z_cons z_un (z_cons z_un (z_cons z_un (z_cons z_un (z_cons z_un (z_cons z_un (z_cons z_un (z_cons z_un (z_cons z_un (z_cons z_un (z_cons z_un (z_cons z_un (z_cons z_un (z_cons z_un (z_cons z_un (z_cons z_un (z_cons z_un (z_cons z_un (z_cons z_un (z_cons z_un (z_cons z_un (z_cons z_un (z_cons z_un (z_cons z_un (z_cons z_un (z_cons z_un (z_cons z_un (z_cons z_un (z_cons z_un (z_cons z_un (z_cons z_un (z_cons z_un (z_cons z_un (z_cons z_un (z_cons z_un (z_cons z_un (z_cons z_un (z_cons z_un (z_cons z_un (z_cons z_un (z_cons z_un (z_cons z_un (z_cons z_un (z_cons z_un (z_cons z_un (z_cons z_un (z_cons z_un (z_cons z_un (z_cons z_un (z_cons z_un (z_cons z_un (z_cons z_un (z_cons z_un (z_cons z_un (z_cons z_un (z_cons z_un (z_cons z_un (z_cons z_un (z_cons z_un (z_cons z_un (z_cons z_un (z_cons z_un (z_cons z_un (z_cons z_un (z_cons z_un (z_cons z_un (z_cons z_un (z_cons z_un (z_cons z_un (z_cons z_un (z_cons z_un (z_cons z_un (z_cons z_un (z_cons z_un (z_cons z_un (z_cons z_un (z_cons z_un (z_cons z_un (z_cons z_un (z_cons z_un (z_cons z_un (z_cons z_un (z_cons z_un (z_cons z_un (z_cons z_un (z_cons z_un (z_cons z_un (z_cons z_un (z_cons z_un (z_cons z_un (z_cons z_un (z_cons z_un (z_cons z_un (z_cons z_un (z_cons z_un (z_cons z_un (z_cons z_un (z_cons z_un (z_cons z_un (z_cons z_un (z_cons z_un (z_cons z_un (z_cons z_un (z_cons z_un (z_cons z_un (z_cons z_un (z_cons z_un (z_cons z_un (z_cons z_un (z_cons z_un (z_cons z_un (z_cons z_un (z_cons z_un (z_cons z_un (z_cons z_un (z_cons z_un (z_cons z_un (z_cons z_un (z_cons z_un (z_cons z_un (z_cons z_un (z_cons z_un (z_cons z_un (z_cons z_un (z_cons z_un (z_cons z_un (z_cons z_un (z_cons z_un (z_cons z_un (z_cons z_un (z_cons z_un (z_cons z_un (z_cons z_un (z_cons z_un (z_cons z_un (z_cons z_un (z_cons z_un (z_cons z_un (z_cons z_un (z_cons z_un (z_cons z_un (z_cons z_un (z_cons z_un (z_cons z_un (z_cons z_un (z_cons z_un (z_cons z_un (z_cons z_un (z_cons z_un (z_cons z_un (z_cons z_un (z_cons z_un (z_cons z_un (z_cons z_un (z_cons z_un (z_cons z_un (z_cons z_un (z_cons z_un (z_cons z_un (z_cons z_un (z_cons z_un (z_cons z_un (z_cons z_un (z_cons z_un (z_cons z_un (z_cons z_un (z_cons z_un (z_cons z_un (z_cons z_un (z_cons z_un (z_cons z_un (z_cons z_un (z_cons z_un (z_cons z_un (z_cons z_un (z_cons z_un (z_cons z_un (z_cons z_un (z_cons z_un (z_cons z_un (z_cons z_un (z_cons z_un (z_cons z_un (z_cons z_un (z_cons z_un (z_cons z_un (z_cons z_un (z_cons z_un (z_cons z_un (z_cons z_un (z_cons z_un (z_cons z_un (z_cons z_un (z_cons z_un (z_cons z_un (z_cons z_un (z_cons z_un (z_cons z_un (z_cons z_un (z_cons z_un (z_cons z_un (z_end))))))))))))))))))))))))))))))))))))))))))))))))))))))))))))))))))))))))))))))))))))))))))))))))))))))))))))))))))))))))))))))))))))))))))))))))))))))))))))))))))))))))))))))))))))))))))))))))))))))))))))))))))))))))))))))))))))))))))))))))))))))))))))))))⟩⟩
theorem ty194 : TIok Tryd.prog 194 ⟨1, 8, false, .other, [.undef], [.undef]⟩ := ⟨Tryd.sizeOf194, Tryd.isAgg194, trivial, ⟨_, Tryd.typeInfo194, rfl⟩, by decide, by decide, ⟨_, Tryd.zeroValue194, rfl, fun w C ι => z_cons z_un (z_end)⟩⟩
theorem ty197 : TIok Tryd.prog 197 ⟨24, 24, true, .other, [.undef, .undef, .undef, .undef, .undef, .undef, .undef, .undef, .undef, .undef, .undef, .undef, .undef, .undef, .undef, .undef, .undef, .undef, .undef, .undef, .undef, .undef, .undef, .undef], [.undef, .undef, .undef, .undef, .undef, .undef, .undef, .undef, .undef, .undef, .undef, .undef, .undef, .undef, .undef, .undef, .undef, .undef, .undef, .undef, .undef, .undef, .undef, .undef]⟩ := ⟨Tryd.sizeOf197, Tryd.isAgg197, trivial, ⟨_, Tryd.typeInfo197, rfl⟩, by decide, by decide, ⟨_, Tryd.zeroValue197, rfl, fun w C ι => z_cons z_un (z_cons z_un (z_cons z_un (z_cons z_un (z_cons z_un (z_cons z_un (z_cons z_un (z_cons z_un (z_cons z_un (z_cons z_un (z_cons z_un (z_cons z_un (z_cons z_un (z_cons z_un (z_cons z_un (z_cons z_un (z_cons z_un (z_cons z_un (z_cons z_un (z_cons z_un (z_cons z_un (z_cons z_un (z_cons z_un (z_cons z_un (z_end))))))))))))))))))))))))⟩⟩
theorem ty204 : TIok Tryd.prog 204 ⟨1, 24, false, (.sl 206), [.d (.sl true 2 0 [])], [.sl 2]⟩ := ⟨Tryd.sizeOf204, Tryd.isAgg204, Tryd.runUnderlying204, ⟨_, Tryd.typeInfo204, rfl⟩, by decide, by decide, ⟨_, Tryd.zeroValue204, rfl, fun w C ι => z_cons z_nil (z_end)⟩⟩
theorem ty206 : TIok Tryd.prog 206 ⟨2, 16, true, (.st [(0, 3), (1, 3)]), [.d (.int .i64 0), .d (.int .i64 0)], [.int .i64, .int .i64]⟩ := ⟨Tryd.sizeOf206, Tryd.isAgg206, ⟨_, Tryd.runUnderlying206, rfl, f_cons Tryd.sizeOf3 (f_cons Tryd.sizeOf3 (f_end))⟩, ⟨_, Tryd.typeInfo206, rfl⟩, by decide, by decide, ⟨_, Tryd.zeroValue206, rfl, fun w C ι => z_cons z_int (z_cons z_int (z_end))⟩⟩
theorem ty21 : TIok Tryd.prog 21 ⟨1, 4, false, (.int .i32), [.d (.int .i32 0)], [.int .i32]⟩ := ⟨Tryd.sizeOf21, Tryd.isAgg21, Tryd.runUnderlying21, ⟨_, Tryd.typeInfo21, rfl⟩, by decide, by decide, ⟨_, Tryd.zeroValue21, rfl, fun w C ι => z_cons z_int (z_end)⟩⟩
theorem ty207 : TIok Tryd.prog 207 ⟨1, 4, false, (.int .u32), [.d (.int .u32 0)], [.int .u32]⟩ := ⟨Tryd.sizeOf207, Tryd.isAgg207, Tryd.runUnderlying207, ⟨_, Tryd.typeInfo207, rfl⟩, by decide, by decide, ⟨_, Tryd.zeroValue207, rfl, fun w C ι => z_cons z_int (z_end)⟩⟩
theorem ty209 : TIok Tryd.prog 209 ⟨1, 8, false, .other, [.undef], [.undef]⟩ := ⟨Tryd.sizeOf209, Tryd.isAgg209, trivial, ⟨_, Tryd.typeInfo209, rfl⟩, by decide, by decide, ⟨_, Tryd.zeroValue209, rfl, fun w C ι => z_cons z_un (z_end)⟩⟩
theorem ty224 : TIok Tryd.prog 224 ⟨3, 56, true, (.st [(0, 221), (1, 222), (2, 3)]), [.d (.sl true 3 0 []), .d (.sl true 3 0 []), .d (.int .i64 0)], [.sl 3, .sl 3, .int .i64]⟩ := ⟨Tryd.sizeOf224, Tryd.isAgg224, ⟨_, Tryd.runUnderlying224, rfl, f_cons Tryd.sizeOf221 (f_cons Tryd.sizeOf222 (f_cons Tryd.sizeOf3 (f_end)))⟩, ⟨_, Tryd.typeInfo224, rfl⟩, by decide, by decide, ⟨_, Tryd.zeroValue224, rfl, fun w C ι => z_cons z_nil (z_cons z_nil (z_cons z_int (z_end)))⟩⟩
theorem ty221 : TIok Tryd.prog 221 ⟨1, 24, false, (.sl 227), [.d (.sl true 3 0 [])], [.sl 3]⟩ := ⟨Tryd.sizeOf221, Tryd.isAgg221, Tryd.runUnderlying221, ⟨_, Tryd.typeInfo221, rfl⟩, by decide, by decide, ⟨_, Tryd.zeroValue221, rfl, fun w C ι => z_cons z_nil (z_end)⟩⟩
theorem ty227 : TIok Tryd.prog 227 ⟨3, 6, true, (.st [(0, 225), (1, 225), (2, 225)]), [.d (.int .u16 0), .d (.int .u16 0), .d (.int .u16 0)], [.int .u16, .int .u16, .int .u16]⟩ := ⟨Tryd.sizeOf227, Tryd.isAgg227, ⟨_, Tryd.runUnderlying227, rfl, f_cons Tryd.sizeOf225 (f_cons Tryd.sizeOf225 (f_cons Tryd.sizeOf225 (f_end)))⟩, ⟨_, Tryd.typeInfo227, rfl⟩, by decide, by decide, ⟨_, Tryd.zeroValue227, rfl, fun w C ι => z_cons z_int (z_cons z_int (z_cons z_int (z_end)))⟩⟩
theorem ty225 : TIok Tryd.prog 225 ⟨1, 2, false, (.int .u16), [.d (.int .u16 0)], [.int .u16]⟩ := ⟨Tryd.sizeOf225, Tryd.isAgg225, Tryd.runUnderlying225, ⟨_, Tryd.typeInfo225, rfl⟩, by decide, by decide, ⟨_, Tryd.zeroValue225, rfl, fun w C ι => z_cons z_int (z_end)⟩⟩
theorem ty222 : TIok Tryd.prog 222 ⟨1, 24, false, (.sl 230), [.d (.sl true 3 0 [])], [.sl 3]⟩ := ⟨Tryd.sizeOf222, Tryd.isAgg222, Tryd.runUnderlying222, ⟨_, Tryd.typeInfo222, rfl⟩, by decide, by decide, ⟨_, Tryd.zeroValue222, rfl, fun w C ι => z_cons z_nil (z_end)⟩⟩
theorem ty230 : TIok Tryd.prog 230 ⟨3, 12, true, (.st [(0, 207), (1, 207), (2, 207)]), [.d (.int .u32 0), .d (.int .u32 0), .d (.int .u32 0)], [.int .u32, .int .u32, .int .u32]⟩ := ⟨Tryd.sizeOf230, Tryd.isAgg230, ⟨_, Tryd.runUnderlying230, rfl, f_cons Tryd.sizeOf207 (f_cons Tryd.sizeOf207 (f_cons Tryd.sizeOf207 (f_end)))⟩, ⟨_, Tryd.typeInfo230, rfl⟩, by decide, by decide, ⟨_, Tryd.zeroValue230, rfl, fun w C ι => z_cons z_int (z_cons z_int (z_cons z_int (z_end)))⟩⟩
theorem ty212 : TIok Tryd.prog 212 ⟨20, 160, true, .other, [.undef, .undef, .undef, .undef, .undef, .undef, .undef, .undef, .undef, .undef, .undef, .undef, .undef, .undef, .undef, .undef, .undef, .undef, .undef, .undef], [.undef, .undef, .undef, .undef, .undef, .undef, .undef, .undef, .undef, .undef, .undef, .undef, .undef, .undef, .undef, .undef, .undef, .undef, .undef, .undef]⟩ := ⟨Tryd.sizeOf212, Tryd.isAgg212, trivial, ⟨_, Tryd.typeInfo212, rfl⟩, by decide, by decide, ⟨_, Tryd.zeroValue212, rfl, fun w C ι => z_cons z_un (z_cons z_un (z_cons z_un (z_cons z_un (z_cons z_un (z_cons z_un (z_cons z_un (z_cons z_un (z_cons z_un (z_cons z_un (z_cons z_un (z_cons z_un (z_cons z_un (z_cons z_un (z_cons z_un (z_cons z_un (z_cons z_un (z_cons z_un (z_cons z_un (z_cons z_un (z_end))))))))))))))))))))⟩⟩
theorem ty20 : TIok Tryd.prog 20 ⟨1, 16, false, .other, [.undef], [.undef]⟩ := ⟨Tryd.sizeOf20, Tryd.isAgg20, trivial, ⟨_, Tryd.typeInfo20, rfl⟩, by decide, by decide, ⟨_, Tryd.zeroValue20, rfl, fun w C ι => z_cons z_un (z_end)⟩⟩
theorem ty213 : TIok Tryd.prog 213 ⟨65, 65, true, .other, [.undef, .undef, .undef, .undef, .undef, .undef, .undef, .undef, .undef, .undef, .undef, .undef, .undef, .undef, .undef, .undef, .undef, .undef, .undef, .undef, .undef, .undef, .undef, .undef, .undef, .undef, .undef, .undef, .undef, .undef, .undef, .undef, .undef, .undef, .undef, .undef, .undef, .undef, .undef, .undef, .undef, .undef, .undef, .undef, .undef, .undef, .undef, .undef, .undef, .undef, .undef, .undef, .undef, .undef, .undef, .undef, .undef, .undef, .undef, .undef, .undef, .undef, .undef, .undef, .undef], [.undef, .undef, .undef, .undef, .undef, .undef, .undef, .undef, .undef, .undef, .undef, .undef, .undef, .undef, .undef, .undef, .undef, .undef, .undef, .undef, .undef, .undef, .undef, .undef, .undef, .undef, .undef, .undef, .undef, .undef, .undef, .undef, .undef, .undef, .undef, .undef, .undef, .undef, .undef, .undef, .undef, .undef, .undef, .undef, .undef, .undef, .undef, .undef, .undef, .undef, .undef, .undef, .undef, .undef, .undef, .undef, .undef, .undef, .undef, .undef, .undef, .undef, .undef, .undef, .undef]⟩ := ⟨Tryd.sizeOf213, Tryd.isAgg213, trivial, ⟨_, Tryd.typeInfo213, rfl⟩, by decide, by decide, ⟨_, Tryd.zeroValue213, rfl, fun w C ι => z_cons z_un (z_cons z_un (z_cons z_un (z_cons z_un (z_cons z_un (z_cons z_un (z_cons z_un (z_cons z_un (z_cons z_un (z_cons z_un (z_cons z_un (z_cons z_un (z_cons z_un (z_cons z_un (z_cons z_un (z_cons z_un (z_cons z_un (z_cons z_un (z_cons z_un (z_cons z_un (z_cons z_un (z_cons z_un (z_cons z_un (z_cons z_un (z_cons z_un (z_cons z_un (z_cons z_un (z_cons z_un (z_cons z_un (z_cons z_un (z_cons z_un (z_cons z_un (z_cons z_un (z_cons z_un (z_cons z_un (z_cons z_un (z_cons z_un (z_cons z_un (z_cons z_un (z_cons z_un (z_cons z_un (z_cons z_un (z_cons z_un (z_cons z_un (z_cons z_un (z_cons z_un (z_cons z_un (z_cons z_un (z_cons z_un (z_cons z_un (z_cons z_un (z_cons z_un (z_cons z_un (z_cons z_un (z_cons z_un (z_cons z_un (z_cons z_un (z_cons z_un (z_cons z_un (z_cons z_un (z_cons z_un (z_cons z_un (z_cons z_un (z_cons z_un (z_cons z_un (z_end)))))))))))))))))))))))))))))))))))))))))))))))))))))))))))))))))⟩⟩
theorem ty215 : TIok Tryd.prog 215 ⟨1, 8, false, (.int .i64), [.d (.int .i64 0)], [.int .i64]⟩ := ⟨Tryd.sizeOf215, Tryd.isAgg215, Tryd.runUnderlying215, ⟨_, Tryd.typeInfo215, rfl⟩, by decide, by decide, ⟨_, Tryd.zeroValue215, rfl, fun w C ι => z_cons z_int (z_end)⟩⟩
theorem ty218 : TIok Tryd.prog 218 ⟨1, 8, false, .other, [.undef], [.undef]⟩ := ⟨Tryd.sizeOf218, Tryd.isAgg218, trivial, ⟨_, Tryd.typeInfo218, rfl⟩, by decide, by decide, ⟨_, Tryd.zeroValue218, rfl, fun w C ι => z_cons z_un (z_end)⟩⟩
theorem ty237 : TIok Tryd.prog 237 ⟨3, 48, true, (.st [(0, 9), (1, 9), (2, 188)]), [.d (.str ⟨#[]⟩), .d (.str ⟨#[]⟩), .undef], [.str, .str, .undef]⟩ := ⟨Tryd.sizeOf237, Tryd.isAgg237, ⟨_, Tryd.runUnderlying237, rfl, f_cons Tryd.sizeOf9 (f_cons Tryd.sizeOf9 (f_cons Tryd.sizeOf188 (f_end)))⟩, ⟨_, Tryd.typeInfo237, rfl⟩, by decide, by decide, ⟨_, Tryd.zeroValue237, rfl, fun w C ι => z_cons z_str (z_cons z_str (z_cons z_un (z_end)))⟩⟩
theorem ty239 : TIok Tryd.prog 239 ⟨1, 8, false, .other, [.undef], [.undef]⟩ := ⟨Tryd.sizeOf239, Tryd.isAgg239, trivial, ⟨_, Tryd.typeInfo239, rfl⟩, by decide, by decide, ⟨_, Tryd.zeroValue239, rfl, fun w C ι => z_cons z_un (z_end)⟩⟩
theorem ty240 : TIok Tryd.prog 240 ⟨1, 8, false, .other, [.undef], [.undef]⟩ := ⟨Tryd.sizeOf240, Tryd.isAgg240, trivial, ⟨_, Tryd.typeInfo240, rfl⟩, by decide, by decide, ⟨_, Tryd.zeroValue240, rfl, fun w C ι => z_cons z_un (z_end)⟩⟩
theorem ty241 : TIok Tryd.prog 241 ⟨32, 32, true, .other, [.undef, .undef, .undef, .undef, .undef, .undef, .undef, .undef, .undef, .undef, .undef, .undef, .undef, .undef, .undef, .undef, .undef, .undef, .undef, .undef, .undef, .undef, .undef, .undef, .undef, .undef, .undef, .undef, .undef, .undef, .undef, .undef], [.undef, .undef, .undef, .undef, .undef, .undef, .undef, .undef, .undef, .undef, .undef, .undef, .undef, .undef, .undef, .undef, .undef, .undef, .undef, .undef, .undef, .undef, .undef, .undef, .undef, .undef, .undef, .undef, .undef, .undef, .undef, .undef]⟩ := ⟨Tryd.sizeOf241, Tryd.isAgg241, trivial, ⟨_, Tryd.typeInfo241, rfl⟩, by decide, by decide, ⟨_, Tryd.zeroValue241, rfl, fun w C ι => z_cons z_un (z_cons z_un (z_cons z_un (z_cons z_un (z_cons z_un (z_cons z_un (z_cons z_un (z_cons z_un (z_cons z_un (z_cons z_un (z_cons z_un (z_cons z_un (z_cons z_un (z_cons z_un (z_cons z_un (z_cons z_un (z_cons z_un (z_cons z_un (z_cons z_un (z_cons z_un (z_cons z_un (z_cons z_un (z_cons z_un (z_cons z_un (z_cons z_un (z_cons z_un (z_cons z_un (z_cons z_un (z_cons z_un (z_cons z_un (z_cons z_un (z_cons z_un (z_end))))))))))))))))))))))))))))))))⟩⟩
theorem ty242 : TIok Tryd.prog 242 ⟨64, 64, true, .other, [.undef, .undef, .undef, .undef, .undef, .undef, .undef, .undef, .undef, .undef, .undef, .undef, .undef, .undef, .undef, .undef, .undef, .undef, .undef, .undef, .undef, .undef, .undef, .undef, .undef, .undef, .undef, .undef, .undef, .undef, .undef, .undef, .undef, .undef, .undef, .undef, .undef, .undef, .undef, .undef, .undef, .undef, .undef, .undef, .undef, .undef, .undef, .undef, .undef, .undef, .undef, .undef, .undef, .undef, .undef, .undef, .undef, .undef, .undef, .undef, .undef, .undef, .undef, .undef], [.undef, .undef, .undef, .undef, .undef, .undef, .undef, .undef, .undef, .undef, .undef, .undef, .undef, .undef, .undef, .undef, .undef, .undef, .undef, .undef, .undef, .undef, .undef, .undef, .undef, .undef, .undef, .undef, .undef, .undef, .undef, .undef, .undef, .undef, .undef, .undef, .undef, .undef, .undef, .undef, .undef, .undef, .undef, .undef, .undef, .undef, .undef, .undef, .undef, .undef, .undef, .undef, .undef, .undef, .undef, .undef, .undef, .undef, .undef, .undef, .undef, .undef, .undef, .undef]⟩ := ⟨Tryd.sizeOf242, Tryd.isAgg242, trivial, ⟨_, Tryd.typeInfo242, rfl⟩, by decide, by decide, ⟨_, Tryd.zeroValue242, rfl, fun w C ι => z_cons z_un (z_cons z_un (z_cons z_un (z_cons z_un (z_cons z_un (z_cons z_un (z_cons z_un (z_cons z_un (z_cons z_un (z_cons z_un (z_cons z_un (z_cons z_un (z_cons z_un (z_cons z_un (z_cons z_un (z_cons z_un (z_cons z_un (z_cons z_un (z_cons z_un (z_cons z_un (z_cons z_un (z_cons z_un (z_cons z_un (z_cons z_un (z_cons z_un (z_cons z_un (z_cons z_un (z_cons z_un (z_cons z_un (z_cons z_un (z_cons z_un (z_cons z_un (z_cons z_un (z_cons z_un (z_cons z_un (z_cons z_un (z_cons z_un (z_cons z_un (z_cons z_un (z_cons z_un (z_cons z_un (z_cons z_un (z_cons z_un (z_cons z_un (z_cons z_un (z_cons z_un (z_cons z_un (z_cons z_un (z_cons z_un (z_cons z_un (z_cons z_un (z_cons z_un (z_cons z_un (z_cons z_un (z_cons z_un (z_cons z_un (z_cons z_un (z_cons z_un (z_cons z_un (z_cons z_un (z_cons z_un (z_cons z_un (z_cons z_un (z_cons z_un (z_end))))))))))))))))))))))))))))))))))))))))))))))))))))))))))))))))⟩⟩
theorem ty244 : TIok Tryd.prog 244 ⟨1, 8, false, .other, [.undef], [.undef]⟩ := ⟨Tryd.sizeOf244, Tryd.isAgg244, trivial, ⟨_, Tryd.typeInfo244, rfl⟩, by decide, by decide, ⟨_, Tryd.zeroValue244, rfl, fun w C ι => z_cons z_un (z_end)⟩⟩
theorem ty247 : TIok Tryd.prog 247 ⟨1, 16, true, (.st [(0, 9)]), [.d (.str ⟨#[]⟩)], [.str]⟩ := ⟨Tryd.sizeOf247, Tryd.isAgg247, ⟨_, Tryd.runUnderlying247, rfl, f_cons Tryd.sizeOf9 (f_end)⟩, ⟨_, Tryd.typeInfo247, rfl⟩, by decide, by decide, ⟨_, Tryd.zeroValue247, rfl, fun w C ι => z_cons z_str (z_end)⟩⟩
theorem ty245 : TIok Tryd.prog 245 ⟨1, 8, false, .other, [.undef], [.undef]⟩ := ⟨Tryd.sizeOf245, Tryd.isAgg245, trivial, ⟨_, Tryd.typeInfo245, rfl⟩, by decide, by decide, ⟨_, Tryd.zeroValue245, rfl, fun w C ι => z_cons z_un (z_end)⟩⟩
theorem ty8 : TIok Tryd.prog 8 ⟨4, 24, true, (.st [(0, 2), (1, 3), (2, 4), (3, 6)]), [.d (.int .i64 0), .d (.int .i64 0), .d (.bool false), .d (.int .u8 0)], [.int .i64, .int .i64, .bool, .int .u8]⟩ := ⟨Tryd.sizeOf8, Tryd.isAgg8, ⟨_, Tryd.runUnderlying8, rfl, f_cons Tryd.sizeOf2 (f_cons Tryd.sizeOf3 (f_cons Tryd.sizeOf4 (f_cons Tryd.sizeOf6 (f_end))))⟩, ⟨_, Tryd.typeInfo8, rfl⟩, by decide, by decide, ⟨_, Tryd.zeroValue8, rfl, fun w C ι => z_cons z_int (z_cons z_int (z_cons z_bool (z_cons z_int (z_end))))⟩⟩
theorem ty6 : TIok Tryd.prog 6 ⟨1, 1, false, (.int .u8), [.d (.int .u8 0)], [.int .u8]⟩ := ⟨Tryd.sizeOf6, Tryd.isAgg6, Tryd.runUnderlying6, ⟨_, Tryd.typeInfo6, rfl⟩, by decide, by decide, ⟨_, Tryd.zeroValue6, rfl, fun w C ι => z_cons z_int (z_end)⟩⟩
theorem ty10 : TIok Tryd.prog 10 ⟨1, 16, false, .str, [.d (.str ⟨#[]⟩)], [.str]⟩ := ⟨Tryd.sizeOf10, Tryd.isAgg10, Tryd.runUnderlying10, ⟨_, Tryd.typeInfo10, rfl⟩, by decide, by decide, ⟨_, Tryd.zeroValue10, rfl, fun w C ι => z_cons z_str (z_end)⟩⟩
theorem ty11 : TIok Tryd.prog 11 ⟨1, 16, false, .str, [.d (.str ⟨#[]⟩)], [.str]⟩ := ⟨Tryd.sizeOf11, Tryd.isAgg11, Tryd.runUnderlying11, ⟨_, Tryd.typeInfo11, rfl⟩, by decide, by decide, ⟨_, Tryd.zeroValue11, rfl, fun w C ι => z_cons z_str (z_end)⟩⟩
theorem ty14 : TIok Tryd.prog 14 ⟨2, 24, true, (.st [(0, 9), (1, 12)]), [.d (.str ⟨#[]⟩), .d (.int .u64 0)], [.str, .int .u64]⟩ := ⟨Tryd.sizeOf14, Tryd.isAgg14, ⟨_, Tryd.runUnderlying14, rfl, f_cons Tryd.sizeOf9 (f_cons Tryd.sizeOf12 (f_end))⟩, ⟨_, Tryd.typeInfo14, rfl⟩, by decide, by decide, ⟨_, Tryd.zeroValue14, rfl, fun w C ι => z_cons z_str (z_cons z_int (z_end))⟩⟩
theorem ty12 : TIok Tryd.prog 12 ⟨1, 8, false, (.int .u64), [.d (.int .u64 0)], [.int .u64]⟩ := ⟨Tryd.sizeOf12, Tryd.isAgg12, Tryd.runUnderlying12, ⟨_, Tryd.typeInfo12, rfl⟩, by decide, by decide, ⟨_, Tryd.zeroValue12, rfl, fun w C ι => z_cons z_int (z_end)⟩⟩
theorem ty15 : TIok Tryd.prog 15 ⟨1, 8, false, .other, [.undef], [.undef]⟩ := ⟨Tryd.sizeOf15, Tryd.isAgg15, trivial, ⟨_, Tryd.typeInfo15, rfl⟩, by decide, by decide, ⟨_, Tryd.zeroValue15, rfl, fun w C ι => z_cons z_un (z_end)⟩⟩
theorem ty250 : TIok Tryd.prog 250 ⟨4, 40, true, (.st [(0, 17), (1, 17), (2, 17), (3, 9)]), [.undef, .undef, .undef, .d (.str ⟨#[]⟩)], [.undef, .undef, .undef, .str]⟩ := ⟨Tryd.sizeOf250, Tryd.isAgg250, ⟨_, Tryd.runUnderlying250, rfl, f_cons Tryd.sizeOf17 (f_cons Tryd.sizeOf17 (f_cons Tryd.sizeOf17 (f_cons Tryd.sizeOf9 (f_end))))⟩, ⟨_, Tryd.typeInfo250, rfl⟩, by decide, by decide, ⟨_, Tryd.zeroValue250, rfl, fun w C ι => z_cons z_un (z_cons z_un (z_cons z_un (z_cons z_str (z_end))))⟩⟩
theorem ty17 : TIok Tryd.prog 17 ⟨1, 8, false, .other, [.undef], [.undef]⟩ := ⟨Tryd.sizeOf17, Tryd.isAgg17, trivial, ⟨_, Tryd.typeInfo17, rfl⟩, by decide, by decide, ⟨_, Tryd.zeroValue17, rfl, fun w C ι => z_cons z_un (z_end)⟩⟩
theorem ty261 : TIok Tryd.prog 261 ⟨11, 48, true, (.st [(0, 12), (1, 12), (2, 207), (3, 255), (4, 5), (5, 5), (6, 256), (7, 257), (8, 244), (9, 258), (10, 259)]), [.d (.int .u64 0), .d (.int .u64 0), .d (.int .u32 0), .d (.int .u8 0), .d (.int .u8 0), .d (.int .u8 0), .d (.int .u8 0), .undef, .undef, .d (.int .i32 0), .d (.int .i32 0)], [.int .u64, .int .u64, .int .u32, .int .u8, .int .u8, .int .u8, .int .u8, .undef, .undef, .int .i32, .int .i32]⟩ := ⟨Tryd.sizeOf261, Tryd.isAgg261, ⟨_, Tryd.runUnderlying261, rfl, f_cons Tryd.sizeOf12 (f_cons Tryd.sizeOf12 (f_cons Tryd.sizeOf207 (f_cons Tryd.sizeOf255 (f_cons Tryd.sizeOf5 (f_cons Tryd.sizeOf5 (f_cons Tryd.sizeOf256 (f_cons Tryd.sizeOf257 (f_cons Tryd.sizeOf244 (f_cons Tryd.sizeOf258 (f_cons Tryd.sizeOf259 (f_end)))))))))))⟩, ⟨_, Tryd.typeInfo261, rfl⟩, by decide, by decide, ⟨_, Tryd.zeroValue261, rfl, fun w C ι => z_cons z_int (z_cons z_int (z_cons z_int (z_cons z_int (z_cons z_int (z_cons z_int (z_cons z_int (z_cons z_un (z_cons z_un (z_cons z_int (z_cons z_int (z_end)))))))))))⟩⟩
theorem ty255 : TIok Tryd.prog 255 ⟨1, 1, false, (.int .u8), [.d (.int .u8 0)], [.int .u8]⟩ := ⟨Tryd.sizeOf255, Tryd.isAgg255, Tryd.runUnderlying255, ⟨_, Tryd.typeInfo255, rfl⟩, by decide, by decide, ⟨_, Tryd.zeroValue255, rfl, fun w C ι => z_cons z_int (z_end)⟩⟩
theorem ty256 : TIok Tryd.prog 256 ⟨1, 1, false, (.int .u8), [.d (.int .u8 0)], [.int .u8]⟩ := ⟨Tryd.sizeOf256, Tryd.isAgg256, Tryd.runUnderlying256, ⟨_, Tryd.typeInfo256, rfl⟩, by decide, by decide, ⟨_, Tryd.zeroValue256, rfl, fun w C ι => z_cons z_int (z_end)⟩⟩
theorem ty257 : TIok Tryd.prog 257 ⟨1, 8, false, .other, [.undef], [.undef]⟩ := ⟨Tryd.sizeOf257, Tryd.isAgg257, trivial, ⟨_, Tryd.typeInfo257, rfl⟩, by decide, by decide, ⟨_, Tryd.zeroValue257, rfl, fun w C ι => z_cons z_un (z_end)⟩⟩
theorem ty258 : TIok Tryd.prog 258 ⟨1, 4, false, (.int .i32), [.d (.int .i32 0)], [.int .i32]⟩ := ⟨Tryd.sizeOf258, Tryd.isAgg258, Tryd.runUnderlying258, ⟨_, Tryd.typeInfo258, rfl⟩, by decide, by decide, ⟨_, Tryd.zeroValue258, rfl, fun w C ι => z_cons z_int (z_end)⟩⟩
theorem ty259 : TIok Tryd.prog 259 ⟨1, 4, false, (.int .i32), [.d (.int .i32 0)], [.int .i32]⟩ := ⟨Tryd.sizeOf259, Tryd.isAgg259, Tryd.runUnderlying259, ⟨_, Tryd.typeInfo259, rfl⟩, by decide, by decide, ⟨_, Tryd.zeroValue259, rfl, fun w C ι => z_cons z_int (z_end)⟩⟩
theorem ty16 : TIok Tryd.prog 16 ⟨1, 8, false, .other, [.undef], [.undef]⟩ := ⟨Tryd.sizeOf16, Tryd.isAgg16, trivial, ⟨_, Tryd.typeInfo16, rfl⟩, by decide, by decide, ⟨_, Tryd.zeroValue16, rfl, fun w C ι => z_cons z_un (z_end)⟩⟩
theorem ty19 : TIok Tryd.prog 19 ⟨1, 8, true, (.st [(0, 17)]), [.undef], [.undef]⟩ := ⟨Tryd.sizeOf19, Tryd.isAgg19, ⟨_, Tryd.runUnderlying19, rfl, f_cons Tryd.sizeOf17 (f_end)⟩, ⟨_, Tryd.typeInfo19, rfl⟩, by decide, by decide, ⟨_, Tryd.zeroValue19, rfl, fun w C ι => z_cons z_un (z_end)⟩⟩
theorem fn4 : FnOk Tryd.prog 4 I4 := .text rfl Tryd.call4 Tryd.func4 (by kernel_rfl) (by kernel_rfl) (by kernel_rfl)
theorem fn13 : FnOk Tryd.prog 13 I13 := .text rfl Tryd.call13 Tryd.func13 (by kernel_rfl) (by kernel_rfl) (by kernel_rfl)
theorem fn14 : FnOk Tryd.prog 14 I14 := .text rfl Tryd.call14 Tryd.func14 (by kernel_rfl) (by kernel_rfl) (by kernel_rfl)
theorem fn15 : FnOk Tryd.prog 15 I15 := .text rfl Tryd.call15 Tryd.func15 (by kernel_rfl) (by kernel_rfl) (by kernel_rfl)
theorem fn16 : FnOk Tryd.prog 16 I16 := .text rfl Tryd.call16 Tryd.func16 (by kernel_rfl) (by kernel_rfl) (by kernel_rfl)
theorem fn17 : FnOk Tryd.prog 17 I17 := .text rfl Tryd.call17 Tryd.func17 (by kernel_rfl) (by kernel_rfl) (by kernel_rfl)
theorem fn33 : FnOk Tryd.prog 33 I33 := .text rfl Tryd.call33 Tryd.func33 (by kernel_rfl) (by kernel_rfl) (by kernel_rfl)
theorem fn39 : FnOk Tryd.prog 39 I39 := .text rfl Tryd.call39 Tryd.func39 (by kernel_rfl) (by kernel_rfl) (by kernel_rfl)
theorem fn45 : FnOk Tryd.prog 45 I45 := .text rfl Tryd.call45 Tryd.func45 (by kernel_rfl) (by kernel_rfl) (by kernel_rfl)
theorem fn47 : FnOk Tryd.prog 47 I47 := .text rfl Tryd.call47 Tryd.func47 (by kernel_rfl) (by kernel_rfl) (by kernel_rfl)
theorem fn51 : FnOk Tryd.prog 51 I51 := .text rfl Tryd.call51 Tryd.func51 (by kernel_rfl) (by kernel_rfl) (by kernel_rfl)
theorem fn53 : FnOk Tryd.prog 53 I53 := .text rfl Tryd.call53 Tryd.func53 (by kernel_rfl) (by kernel_rfl) (by kernel_rfl)
theorem fn57 : FnOk Tryd.prog 57 I57 := .text rfl Tryd.call57 Tryd.func57 (by kernel_rfl) (by kernel_rfl) (by kernel_rfl)
theorem fn58 : FnOk Tryd.prog 58 I58 := .text rfl Tryd.call58 Tryd.func58 (by kernel_rfl) (by kernel_rfl) (by kernel_rfl)
theorem fn59 : FnOk Tryd.prog 59 I59 := .text rfl Tryd.call59 Tryd.func59 (by kernel_rfl) (by kernel_rfl) (by kernel_rfl)
theorem fn60 : FnOk Tryd.prog 60 I60 := .text rfl Tryd.call60 Tryd.func60 (by kernel_rfl) (by kernel_rfl) (by kernel_rfl)
theorem fn61 : FnOk Tryd.prog 61 I61 := .text rfl Tryd.call61 Tryd.func61 (by kernel_rfl) (by kernel_rfl) (by kernel_rfl)
theorem fn62 : FnOk Tryd.prog 62 I62 := .text rfl Tryd.call62 Tryd.func62 (by kernel_rfl) (by kernel_rfl) (by kernel_rfl)
theorem fn63 : FnOk Tryd.prog 63 I63 := .text rfl Tryd.call63 Tryd.func63 (by kernel_rfl) (by kernel_rfl) (by kernel_rfl)
theorem fn64 : FnOk Tryd.prog 64 I64 := .text rfl Tryd.call64 Tryd.func64 (by kernel_rfl) (by kernel_rfl) (by kernel_rfl)
theorem fn65 : FnOk Tryd.prog 65 I65 := .text rfl Tryd.call65 Tryd.func65 (by kernel_rfl) (by kernel_rfl) (by kernel_rfl)
theorem fn88 : FnOk Tryd.prog 88 I88 := .text rfl Tryd.call88 Tryd.func88 (by kernel_rfl) (by kernel_rfl) (by kernel_rfl)
theorem fn90 : FnOk Tryd.prog 90 I90 := .text rfl Tryd.call90 Tryd.func90 (by kernel_rfl) (by kernel_rfl) (by kernel_rfl)
theorem fn95 : FnOk Tryd.prog 95 I95 := .text rfl Tryd.call95 Tryd.func95 (by kernel_rfl) (by kernel_rfl) (by kernel_rfl)
theorem fn96 : FnOk Tryd.prog 96 I96 := .text rfl Tryd.call96 Tryd.func96 (by kernel_rfl) (by kernel_rfl) (by kernel_rfl)
theorem fn97 : FnOk Tryd.prog 97 I97 := .text rfl Tryd.call97 Tryd.func97 (by kernel_rfl) (by kernel_rfl) (by kernel_rfl)
theorem fn98 : FnOk Tryd.prog 98 I98 := .text rfl Tryd.call98 Tryd.func98 (by kernel_rfl) (by kernel_rfl) (by kernel_rfl)
theorem fn100 : FnOk Tryd.prog 100 I100 := .text rfl Tryd.call100 Tryd.func100 (by kernel_rfl) (by kernel_rfl) (by kernel_rfl)
theorem fn101 : FnOk Tryd.prog 101 I101 := .text rfl Tryd.call101 Tryd.func101 (by kernel_rfl) (by kernel_rfl) (by kernel_rfl)
theorem fn102 : FnOk Tryd.prog 102 I102 := .text rfl Tryd.call102 Tryd.func102 (by kernel_rfl) (by kernel_rfl) (by kernel_rfl)
theorem fn104 : FnOk Tryd.prog 104 I104 := .text rfl Tryd.call104 Tryd.func104 (by kernel_rfl) (by kernel_rfl) (by kernel_rfl)
theorem fn110 : FnOk Tryd.prog 110 I110 := .text rfl Tryd.call110 Tryd.func110 (by kernel_rfl) (by kernel_rfl) (by kernel_rfl)
theorem fn111 : FnOk Tryd.prog 111 I111 := .text rfl Tryd.call111 Tryd.func111 (by kernel_rfl) (by kernel_rfl) (by kernel_rfl)
theorem fn112 : FnOk Tryd.prog 112 I112 := .text rfl Tryd.call112 Tryd.func112 (by kernel_rfl) (by kernel_rfl) (by kernel_rfl)
theorem fn113 : FnOk Tryd.prog 113 I113 := .text rfl Tryd.call113 Tryd.func113 (by kernel_rfl) (by kernel_rfl) (by kernel_rfl)
theorem fn114 : FnOk Tryd.prog 114 I114 := .text rfl Tryd.call114 Tryd.func114 (by kernel_rfl) (by kernel_rfl) (by kernel_rfl)
theorem fn115 : FnOk Tryd.prog 115 I115 := .text rfl Tryd.call115 Tryd.func115 (by kernel_rfl) (by kernel_rfl) (by kernel_rfl)
theorem fn116 : FnOk Tryd.prog 116 I116 := .text rfl Tryd.call116 Tryd.func116 (by kernel_rfl) (by kernel_rfl) (by kernel_rfl)
theorem fn117 : FnOk Tryd.prog 117 I117 := .text rfl Tryd.call117 Tryd.func117 (by kernel_rfl) (by kernel_rfl) (by kernel_rfl)
theorem fn131 : FnOk Tryd.prog 131 I131 := .text rfl Tryd.call131 Tryd.func131 (by kernel_rfl) (by kernel_rfl) (by kernel_rfl)
theorem fn135 : FnOk Tryd.prog 135 I135 := .text rfl Tryd.call135 Tryd.func135 (by kernel_rfl) (by kernel_rfl) (by kernel_rfl)
theorem fn137 : FnOk Tryd.prog 137 I137 := .text rfl Tryd.call137 Tryd.func137 (by kernel_rfl) (by kernel_rfl) (by kernel_rfl)
theorem fn138 : FnOk Tryd.prog 138 I138 := .text rfl Tryd.call138 Tryd.func138 (by kernel_rfl) (by kernel_rfl) (by kernel_rfl)
theorem fn139 : FnOk Tryd.prog 139 I139 := .known rfl Tryd.call139 con139
theorem fn142 : FnOk Tryd.prog 142 I142 := .text rfl Tryd.call142 Tryd.func142 (by kernel_rfl) (by kernel_rfl) (by kernel_rfl)
theorem fn147 : FnOk Tryd.prog 147 I147 := .text rfl Tryd.call147 Tryd.func147 (by kernel_rfl) (by kernel_rfl) (by kernel_rfl)
theorem fn148 : FnOk Tryd.prog 148 I148 := .text rfl Tryd.call148 Tryd.func148 (by kernel_rfl) (by kernel_rfl) (by kernel_rfl)
theorem fn149 : FnOk Tryd.prog 149 I149 := .text rfl Tryd.call149 Tryd.func149 (by kernel_rfl) (by kernel_rfl) (by kernel_rfl)
theorem fn150 : FnOk Tryd.prog 150 I150 := .text rfl Tryd.call150 Tryd.func150 (by kernel_rfl) (by kernel_rfl) (by kernel_rfl)
theorem fn151 : FnOk Tryd.prog 151 I151 := .text rfl Tryd.call151 Tryd.func151 (by kernel_rfl) (by kernel_rfl) (by kernel_rfl)
theorem fn152 : FnOk Tryd.prog 152 I152 := .text rfl Tryd.call152 Tryd.func152 (by kernel_rfl) (by kernel_rfl) (by kernel_rfl)
theorem fn153 : FnOk Tryd.prog 153 I153 := .text rfl Tryd.call153 Tryd.func153 (by kernel_rfl) (by kernel_rfl) (by kernel_rfl)
theorem fn154 : FnOk Tryd.prog 154 I154 := .text rfl Tryd.call154 Tryd.func154 (by kernel_rfl) (by kernel_rfl) (by kernel_rfl)
theorem fn155 : FnOk Tryd.prog 155 I155 := .text rfl Tryd.call155 Tryd.func155 (by kernel_rfl) (by kernel_rfl) (by kernel_rfl)
theorem fn160 : FnOk Tryd.prog 160 I160 := .text rfl Tryd.call160 Tryd.func160 (by kernel_rfl) (by kernel_rfl) (by kernel_rfl)
theorem fn161 : FnOk Tryd.prog 161 I161 := .text rfl Tryd.call161 Tryd.func161 (by kernel_rfl) (by kernel_rfl) (by kernel_rfl)
theorem fn163 : FnOk Tryd.prog 163 I163 := .text rfl Tryd.call163 Tryd.func163 (by kernel_rfl) (by kernel_rfl) (by kernel_rfl)
theorem fn164 : FnOk Tryd.prog 164 I164 := .text rfl Tryd.call164 Tryd.func164 (by kernel_rfl) (by kernel_rfl) (by kernel_rfl)
theorem fn167 : FnOk Tryd.prog 167 I167 := .text rfl Tryd.call167 Tryd.func167 (by kernel_rfl) (by kernel_rfl) (by kernel_rfl)
theorem fn168 : FnOk Tryd.prog 168 I168 := .text rfl Tryd.call168 Tryd.func168 (by kernel_rfl) (by kernel_rfl) (by kernel_rfl)
theorem fn174 : FnOk Tryd.prog 174 I174 := .text rfl Tryd.call174 Tryd.func174 (by kernel_rfl) (by kernel_rfl) (by kernel_rfl)
theorem fn178 : FnOk Tryd.prog 178 I178 := .text rfl Tryd.call178 Tryd.func178 (by kernel_rfl) (by kernel_rfl) (by kernel_rfl)
theorem cxOk : CxOk Tryd.prog cx := cxOk_of ⟨ty4, ty3, ty22, ty76, ty29, ty5, ty74, ty165, ty59, ty61, ty25, ty79, ty77, ty82, ty43, ty45, ty33, ty30, ty31, ty137, ty135, ty39, ty36, ty37, ty143, ty67, ty120, ty9, ty99, ty103, ty151, ty111, ty114, ty127, ty48, ty156, ty51, ty171, ty58, ty182, ty2, ty185, ty188, ty192, ty194, ty197, ty204, ty206, ty21, ty207, ty209, ty224, ty221, ty227, ty225, ty222, ty230, ty212, ty20, ty213, ty215, ty218, ty237, ty239, ty240, ty241, ty242, ty244, ty247, ty245, ty8, ty6, ty10, ty11, ty14, ty12, ty15, ty250, ty17, ty261, ty255, ty256, ty257, ty258, ty259, ty16, ty19, trivial⟩ ⟨fn4, fn13, fn14, fn15, fn16, fn17, fn33, fn39, fn45, fn47, fn51, fn53, fn57, fn58, fn59, fn60, fn61, fn62, fn63, fn64, fn65, fn88, fn90, fn95, fn96, fn97, fn98, fn100, fn101, fn102, fn104, fn110, fn111, fn112, fn113, fn114, fn115, fn116, fn117, fn131, fn135, fn137, fn138, fn139, fn142, fn147, fn148, fn149, fn150, fn151, fn152, fn153, fn154, fn155, fn160, fn161, fn163, fn164, fn167, fn168, fn174, fn178, trivial⟩ (by kernel_rfl)
end Go.Ev.Q
