/- The equations of the functions that a law reaches, printed out of the translation by a program of this session; Lean checks each. -/
import Derived.Test.YtkgabahlbmonfaaDoorEvDat
import Derived.Test.YtkgabahlbmonfaaDoorKn
import Derived.KernelRfl
import Derived.Test.YtkgabahlbmonfaaDoorProg
open Go Go.Ev Go.Proofs
set_option maxRecDepth 100000
set_option linter.unusedVariables false
namespace Go.Ev.Q
noncomputable def tyL : List (Nat × TI) := [(4, ⟨1, 1, false, .bool, [.d (.bool false)], [.bool]⟩),
  (3, ⟨1, 8, false, (.int .i64), [.d (.int .i64 0)], [.int .i64]⟩),
  (22, ⟨1, 24, false, (.sl 76), [.d (.sl true 3 0 [])], [.sl 3]⟩),
  (76, ⟨3, 56, true, (.st [(0, 29), (1, 3), (2, 74)]), [.d (.sl true 1 0 []), .d (.int .i64 0), .d (.sl true 2 0 [])], [.sl 1, .int .i64, .sl 2]⟩),
  (29, ⟨1, 24, false, (.sl 5), [.d (.sl true 1 0 [])], [.sl 1]⟩),
  (5, ⟨1, 1, false, (.int .u8), [.d (.int .u8 0)], [.int .u8]⟩),
  (74, ⟨1, 24, false, (.sl 165), [.d (.sl true 2 0 [])], [.sl 2]⟩),
  (165, ⟨2, 48, true, (.st [(0, 29), (1, 59)]), [.d (.sl true 1 0 []), .d (.sl true 3 0 [])], [.sl 1, .sl 3]⟩),
  (59, ⟨1, 24, false, (.sl 61), [.d (.sl true 3 0 [])], [.sl 3]⟩),
  (61, ⟨3, 40, true, (.st [(0, 3), (1, 3), (2, 59)]), [.d (.int .i64 0), .d (.int .i64 0), .d (.sl true 3 0 [])], [.int .i64, .int .i64, .sl 3]⟩),
  (25, ⟨1, 24, false, (.sl 79), [.d (.sl true 3 0 [])], [.sl 3]⟩),
  (79, ⟨3, 56, true, (.st [(0, 29), (1, 3), (2, 77)]), [.d (.sl true 1 0 []), .d (.int .i64 0), .d (.sl true 2 0 [])], [.sl 1, .int .i64, .sl 2]⟩),
  (77, ⟨1, 24, false, (.sl 82), [.d (.sl true 2 0 [])], [.sl 2]⟩),
  (82, ⟨2, 48, true, (.st [(0, 29), (1, 43)]), [.d (.sl true 1 0 []), .d (.sl true 3 0 [])], [.sl 1, .sl 3]⟩),
  (43, ⟨1, 24, false, (.sl 45), [.d (.sl true 3 0 [])], [.sl 3]⟩),
  (45, ⟨3, 40, true, (.st [(0, 3), (1, 3), (2, 43)]), [.d (.int .i64 0), .d (.int .i64 0), .d (.sl true 3 0 [])], [.int .i64, .int .i64, .sl 3]⟩),
  (33, ⟨7, 136, true, (.st [(0, 3), (1, 3), (2, 29), (3, 29), (4, 29), (5, 30), (6, 31)]), [.d (.int .i64 0), .d (.int .i64 0), .d (.sl true 1 0 []), .d (.sl true 1 0 []), .d (.sl true 1 0 []), .d (.sl true 7 0 []), .d (.sl true 9 0 [])], [.int .i64, .int .i64, .sl 1, .sl 1, .sl 1, .sl 7, .sl 9]⟩),
  (30, ⟨1, 24, false, (.sl 33), [.d (.sl true 7 0 [])], [.sl 7]⟩),
  (31, ⟨1, 24, false, (.sl 137), [.d (.sl true 9 0 [])], [.sl 9]⟩),
  (137, ⟨9, 184, true, (.st [(0, 29), (1, 135), (2, 33)]), [.d (.sl true 1 0 []), .d (.sl true 1 0 []), .d (.int .i64 0), .d (.int .i64 0), .d (.sl true 1 0 []), .d (.sl true 1 0 []), .d (.sl true 1 0 []), .d (.sl true 7 0 []), .d (.sl true 9 0 [])], [.sl 1, .sl 1, .int .i64, .int .i64, .sl 1, .sl 1, .sl 1, .sl 7, .sl 9]⟩),
  (135, ⟨1, 24, false, (.sl 29), [.d (.sl true 1 0 [])], [.sl 1]⟩),
  (39, ⟨7, 136, true, (.st [(0, 3), (1, 3), (2, 29), (3, 29), (4, 29), (5, 36), (6, 37)]), [.d (.int .i64 0), .d (.int .i64 0), .d (.sl true 1 0 []), .d (.sl true 1 0 []), .d (.sl true 1 0 []), .d (.sl true 7 0 []), .d (.sl true 9 0 [])], [.int .i64, .int .i64, .sl 1, .sl 1, .sl 1, .sl 7, .sl 9]⟩),
  (36, ⟨1, 24, false, (.sl 39), [.d (.sl true 7 0 [])], [.sl 7]⟩),
  (37, ⟨1, 24, false, (.sl 143), [.d (.sl true 9 0 [])], [.sl 9]⟩),
  (143, ⟨9, 184, true, (.st [(0, 29), (1, 135), (2, 39)]), [.d (.sl true 1 0 []), .d (.sl true 1 0 []), .d (.int .i64 0), .d (.int .i64 0), .d (.sl true 1 0 []), .d (.sl true 1 0 []), .d (.sl true 1 0 []), .d (.sl true 7 0 []), .d (.sl true 9 0 [])], [.sl 1, .sl 1, .int .i64, .int .i64, .sl 1, .sl 1, .sl 1, .sl 7, .sl 9]⟩),
  (67, ⟨1, 24, false, (.sl 120), [.d (.sl true 4 0 [])], [.sl 4]⟩),
  (120, ⟨4, 48, true, (.st [(0, 3), (1, 3), (2, 3), (3, 29)]), [.d (.int .i64 0), .d (.int .i64 0), .d (.int .i64 0), .d (.sl true 1 0 [])], [.int .i64, .int .i64, .int .i64, .sl 1]⟩),
  (9, ⟨1, 16, false, .str, [.d (.str ⟨#[]⟩)], [.str]⟩),
  (99, ⟨1, 8, false, .other, [.undef], [.undef]⟩),
  (103, ⟨1, 8, false, .other, [.undef], [.undef]⟩),
  (151, ⟨3, 40, true, (.st [(0, 29), (1, 3), (2, 3)]), [.d (.sl true 1 0 []), .d (.int .i64 0), .d (.int .i64 0)], [.sl 1, .int .i64, .int .i64]⟩),
  (111, ⟨1, 24, false, (.sl 3), [.d (.sl true 1 0 [])], [.sl 1]⟩),
  (114, ⟨1, 8, false, .other, [.undef], [.undef]⟩),
  (127, ⟨1, 8, false, .other, [.undef], [.undef]⟩),
  (48, ⟨1, 8, false, .other, [.undef], [.undef]⟩),
  (156, ⟨1, 24, false, (.sl 9), [.d (.sl true 1 0 [])], [.sl 1]⟩),
  (51, ⟨1, 8, false, .other, [.undef], [.undef]⟩),
  (171, ⟨1, 8, false, .other, [.undef], [.undef]⟩),
  (58, ⟨1, 8, false, .other, [.undef], [.undef]⟩),
  (182, ⟨1, 8, false, (.int .u64), [.d (.int .u64 0)], [.int .u64]⟩),
  (2, ⟨1, 8, false, (.int .i64), [.d (.int .i64 0)], [.int .i64]⟩),
  (185, ⟨1, 8, false, (.int .u64), [.d (.int .u64 0)], [.int .u64]⟩),
  (188, ⟨1, 16, false, .other, [.undef], [.undef]⟩),
  (192, ⟨256, 256, true, .other, [.undef, .undef, .undef, .undef, .undef, .undef, .undef, .undef, .undef, .undef, .undef, .undef, .undef, .undef, .undef, .undef, .undef, .undef, .undef, .undef, .undef, .undef, .undef, .undef, .undef, .undef, .undef, .undef, .undef, .undef, .undef, .undef, .undef, .undef, .undef, .undef, .undef, .undef, .undef, .undef, .undef, .undef, .undef, .undef, .undef, .undef, .undef, .undef, .undef, .undef, .undef, .undef, .undef, .undef, .undef, .undef, .undef, .undef, .undef, .undef, .undef, .undef, .undef, .undef, .undef, .undef, .undef, .undef, .undef, .undef, .undef, .undef, .undef, .undef, .undef, .undef, .undef, .undef, .undef, .undef, .undef, .undef, .undef, .undef, .undef, .undef, .undef, .undef, .undef, .undef, .undef, .undef, .undef, .undef, .undef, .undef, .undef, .undef, .undef, .undef, .undef, .undef, .undef, .undef, .undef, .undef, .undef, .undef, .undef, .undef, .undef, .undef, .undef, .undef, .undef, .undef, .undef, .undef, .undef, .undef, .undef, .undef, .undef, .undef, .undef, .undef, .undef, .undef, .undef, .undef, .undef, .undef, .undef, .undef, .undef, .undef, .undef, .undef, .undef, .undef, .undef, .undef, .undef, .undef, .undef, .undef, .undef, .undef, .undef, .undef, .undef, .undef, .undef, .undef, .undef, .undef, .undef, .undef, .undef, .undef, .undef, .undef, .undef, .undef, .undef, .undef, .undef, .undef, .undef, .undef, .undef, .undef, .undef, .undef, .undef, .undef, .undef, .undef, .undef, .undef, .undef, .undef, .undef, .undef, .undef, .undef, .undef, .undef, .undef, .undef, .undef, .undef, .undef, .undef, .undef, .undef, .undef, .undef, .undef, .undef, .undef, .undef, .undef, .undef, .undef, .undef, .undef, .undef, .undef, .undef, .undef, .undef, .undef, .undef, .undef, .undef, .undef, .undef, .undef, .undef, .undef, .undef, .undef, .undef, .undef, .undef, .undef, .undef, .undef, .undef, .undef, .undef, .undef, .undef, .undef, .undef, .undef, .undef, .undef, .undef, .undef, .undef, .undef, .undef, .undef, .undef, .undef, .undef, .undef, .undef, .undef, .undef, .undef, .undef, .undef, .undef], [.undef, .undef, .undef, .undef, .undef, .undef, .undef, .undef, .undef, .undef, .undef, .undef, .undef, .undef, .undef, .undef, .undef, .undef, .undef, .undef, .undef, .undef, .undef, .undef, .undef, .undef, .undef, .undef, .undef, .undef, .undef, .undef, .undef, .undef, .undef, .undef, .undef, .undef, .undef, .undef, .undef, .undef, .undef, .undef, .undef, .undef, .undef, .undef, .undef, .undef, .undef, .undef, .undef, .undef, .undef, .undef, .undef, .undef, .undef, .undef, .undef, .undef, .undef, .undef, .undef, .undef, .undef, .undef, .undef, .undef, .undef, .undef, .undef, .undef, .undef, .undef, .undef, .undef, .undef, .undef, .undef, .undef, .undef, .undef, .undef, .undef, .undef, .undef, .undef, .undef, .undef, .undef, .undef, .undef, .undef, .undef, .undef, .undef, .undef, .undef, .undef, .undef, .undef, .undef, .undef, .undef, .undef, .undef, .undef, .undef, .undef, .undef, .undef, .undef, .undef, .undef, .undef, .undef, .undef, .undef, .undef, .undef, .undef, .undef, .undef, .undef, .undef, .undef, .undef, .undef, .undef, .undef, .undef, .undef, .undef, .undef, .undef, .undef, .undef, .undef, .undef, .undef, .undef, .undef, .undef, .undef, .undef, .undef, .undef, .undef, .undef, .undef, .undef, .undef, .undef, .undef, .undef, .undef, .undef, .undef, .undef, .undef, .undef, .undef, .undef, .undef, .undef, .undef, .undef, .undef, .undef, .undef, .undef, .undef, .undef, .undef, .undef, .undef, .undef, .undef, .undef, .undef, .undef, .undef, .undef, .undef, .undef, .undef, .undef, .undef, .undef, .undef, .undef, .undef, .undef, .undef, .undef, .undef, .undef, .undef, .undef, .undef, .undef, .undef, .undef, .undef, .undef, .undef, .undef, .undef, .undef, .undef, .undef, .undef, .undef, .undef, .undef, .undef, .undef, .undef, .undef, .undef, .undef, .undef, .undef, .undef, .undef, .undef, .undef, .undef, .undef, .undef, .undef, .undef, .undef, .undef, .undef, .undef, .undef, .undef, .undef, .undef, .undef, .undef, .undef, .undef, .undef, .undef, .undef, .undef, .undef, .undef, .undef, .undef, .undef, .undef]⟩),
  (194, ⟨1, 8, false, .other, [.undef], [.undef]⟩),
  (197, ⟨24, 24, true, .other, [.undef, .undef, .undef, .undef, .undef, .undef, .undef, .undef, .undef, .undef, .undef, .undef, .undef, .undef, .undef, .undef, .undef, .undef, .undef, .undef, .undef, .undef, .undef, .undef], [.undef, .undef, .undef, .undef, .undef, .undef, .undef, .undef, .undef, .undef, .undef, .undef, .undef, .undef, .undef, .undef, .undef, .undef, .undef, .undef, .undef, .undef, .undef, .undef]⟩),
  (204, ⟨1, 24, false, (.sl 206), [.d (.sl true 2 0 [])], [.sl 2]⟩),
  (206, ⟨2, 16, true, (.st [(0, 3), (1, 3)]), [.d (.int .i64 0), .d (.int .i64 0)], [.int .i64, .int .i64]⟩),
  (21, ⟨1, 4, false, (.int .i32), [.d (.int .i32 0)], [.int .i32]⟩),
  (207, ⟨1, 4, false, (.int .u32), [.d (.int .u32 0)], [.int .u32]⟩),
  (209, ⟨1, 8, false, .other, [.undef], [.undef]⟩),
  (224, ⟨3, 56, true, (.st [(0, 221), (1, 222), (2, 3)]), [.d (.sl true 3 0 []), .d (.sl true 3 0 []), .d (.int .i64 0)], [.sl 3, .sl 3, .int .i64]⟩),
  (221, ⟨1, 24, false, (.sl 227), [.d (.sl true 3 0 [])], [.sl 3]⟩),
  (227, ⟨3, 6, true, (.st [(0, 225), (1, 225), (2, 225)]), [.d (.int .u16 0), .d (.int .u16 0), .d (.int .u16 0)], [.int .u16, .int .u16, .int .u16]⟩),
  (225, ⟨1, 2, false, (.int .u16), [.d (.int .u16 0)], [.int .u16]⟩),
  (222, ⟨1, 24, false, (.sl 230), [.d (.sl true 3 0 [])], [.sl 3]⟩),
  (230, ⟨3, 12, true, (.st [(0, 207), (1, 207), (2, 207)]), [.d (.int .u32 0), .d (.int .u32 0), .d (.int .u32 0)], [.int .u32, .int .u32, .int .u32]⟩),
  (212, ⟨20, 160, true, .other, [.undef, .undef, .undef, .undef, .undef, .undef, .undef, .undef, .undef, .undef, .undef, .undef, .undef, .undef, .undef, .undef, .undef, .undef, .undef, .undef], [.undef, .undef, .undef, .undef, .undef, .undef, .undef, .undef, .undef, .undef, .undef, .undef, .undef, .undef, .undef, .undef, .undef, .undef, .undef, .undef]⟩),
  (20, ⟨1, 16, false, .other, [.undef], [.undef]⟩),
  (213, ⟨65, 65, true, .other, [.undef, .undef, .undef, .undef, .undef, .undef, .undef, .undef, .undef, .undef, .undef, .undef, .undef, .undef, .undef, .undef, .undef, .undef, .undef, .undef, .undef, .undef, .undef, .undef, .undef, .undef, .undef, .undef, .undef, .undef, .undef, .undef, .undef, .undef, .undef, .undef, .undef, .undef, .undef, .undef, .undef, .undef, .undef, .undef, .undef, .undef, .undef, .undef, .undef, .undef, .undef, .undef, .undef, .undef, .undef, .undef, .undef, .undef, .undef, .undef, .undef, .undef, .undef, .undef, .undef], [.undef, .undef, .undef, .undef, .undef, .undef, .undef, .undef, .undef, .undef, .undef, .undef, .undef, .undef, .undef, .undef, .undef, .undef, .undef, .undef, .undef, .undef, .undef, .undef, .undef, .undef, .undef, .undef, .undef, .undef, .undef, .undef, .undef, .undef, .undef, .undef, .undef, .undef, .undef, .undef, .undef, .undef, .undef, .undef, .undef, .undef, .undef, .undef, .undef, .undef, .undef, .undef, .undef, .undef, .undef, .undef, .undef, .undef, .undef, .undef, .undef, .undef, .undef, .undef, .undef]⟩),
  (215, ⟨1, 8, false, (.int .i64), [.d (.int .i64 0)], [.int .i64]⟩),
  (218, ⟨1, 8, false, .other, [.undef], [.undef]⟩),
  (237, ⟨3, 48, true, (.st [(0, 9), (1, 9), (2, 188)]), [.d (.str ⟨#[]⟩), .d (.str ⟨#[]⟩), .undef], [.str, .str, .undef]⟩),
  (239, ⟨1, 8, false, .other, [.undef], [.undef]⟩),
  (240, ⟨1, 8, false, .other, [.undef], [.undef]⟩),
  (241, ⟨32, 32, true, .other, [.undef, .undef, .undef, .undef, .undef, .undef, .undef, .undef, .undef, .undef, .undef, .undef, .undef, .undef, .undef, .undef, .undef, .undef, .undef, .undef, .undef, .undef, .undef, .undef, .undef, .undef, .undef, .undef, .undef, .undef, .undef, .undef], [.undef, .undef, .undef, .undef, .undef, .undef, .undef, .undef, .undef, .undef, .undef, .undef, .undef, .undef, .undef, .undef, .undef, .undef, .undef, .undef, .undef, .undef, .undef, .undef, .undef, .undef, .undef, .undef, .undef, .undef, .undef, .undef]⟩),
  (242, ⟨64, 64, true, .other, [.undef, .undef, .undef, .undef, .undef, .undef, .undef, .undef, .undef, .undef, .undef, .undef, .undef, .undef, .undef, .undef, .undef, .undef, .undef, .undef, .undef, .undef, .undef, .undef, .undef, .undef, .undef, .undef, .undef, .undef, .undef, .undef, .undef, .undef, .undef, .undef, .undef, .undef, .undef, .undef, .undef, .undef, .undef, .undef, .undef, .undef, .undef, .undef, .undef, .undef, .undef, .undef, .undef, .undef, .undef, .undef, .undef, .undef, .undef, .undef, .undef, .undef, .undef, .undef], [.undef, .undef, .undef, .undef, .undef, .undef, .undef, .undef, .undef, .undef, .undef, .undef, .undef, .undef, .undef, .undef, .undef, .undef, .undef, .undef, .undef, .undef, .undef, .undef, .undef, .undef, .undef, .undef, .undef, .undef, .undef, .undef, .undef, .undef, .undef, .undef, .undef, .undef, .undef, .undef, .undef, .undef, .undef, .undef, .undef, .undef, .undef, .undef, .undef, .undef, .undef, .undef, .undef, .undef, .undef, .undef, .undef, .undef, .undef, .undef, .undef, .undef, .undef, .undef]⟩),
  (244, ⟨1, 8, false, .other, [.undef], [.undef]⟩),
  (247, ⟨1, 16, true, (.st [(0, 9)]), [.d (.str ⟨#[]⟩)], [.str]⟩),
  (245, ⟨1, 8, false, .other, [.undef], [.undef]⟩),
  (8, ⟨4, 24, true, (.st [(0, 2), (1, 3), (2, 4), (3, 6)]), [.d (.int .i64 0), .d (.int .i64 0), .d (.bool false), .d (.int .u8 0)], [.int .i64, .int .i64, .bool, .int .u8]⟩),
  (6, ⟨1, 1, false, (.int .u8), [.d (.int .u8 0)], [.int .u8]⟩),
  (10, ⟨1, 16, false, .str, [.d (.str ⟨#[]⟩)], [.str]⟩),
  (11, ⟨1, 16, false, .str, [.d (.str ⟨#[]⟩)], [.str]⟩),
  (14, ⟨2, 24, true, (.st [(0, 9), (1, 12)]), [.d (.str ⟨#[]⟩), .d (.int .u64 0)], [.str, .int .u64]⟩),
  (12, ⟨1, 8, false, (.int .u64), [.d (.int .u64 0)], [.int .u64]⟩),
  (15, ⟨1, 8, false, .other, [.undef], [.undef]⟩),
  (250, ⟨4, 40, true, (.st [(0, 17), (1, 17), (2, 17), (3, 9)]), [.undef, .undef, .undef, .d (.str ⟨#[]⟩)], [.undef, .undef, .undef, .str]⟩),
  (17, ⟨1, 8, false, .other, [.undef], [.undef]⟩),
  (261, ⟨11, 48, true, (.st [(0, 12), (1, 12), (2, 207), (3, 255), (4, 5), (5, 5), (6, 256), (7, 257), (8, 244), (9, 258), (10, 259)]), [.d (.int .u64 0), .d (.int .u64 0), .d (.int .u32 0), .d (.int .u8 0), .d (.int .u8 0), .d (.int .u8 0), .d (.int .u8 0), .undef, .undef, .d (.int .i32 0), .d (.int .i32 0)], [.int .u64, .int .u64, .int .u32, .int .u8, .int .u8, .int .u8, .int .u8, .undef, .undef, .int .i32, .int .i32]⟩),
  (255, ⟨1, 1, false, (.int .u8), [.d (.int .u8 0)], [.int .u8]⟩),
  (256, ⟨1, 1, false, (.int .u8), [.d (.int .u8 0)], [.int .u8]⟩),
  (257, ⟨1, 8, false, .other, [.undef], [.undef]⟩),
  (258, ⟨1, 4, false, (.int .i32), [.d (.int .i32 0)], [.int .i32]⟩),
  (259, ⟨1, 4, false, (.int .i32), [.d (.int .i32 0)], [.int .i32]⟩),
  (16, ⟨1, 8, false, .other, [.undef], [.undef]⟩),
  (19, ⟨1, 8, true, (.st [(0, 17)]), [.undef], [.undef]⟩)]
def ann6 : Ann := (.s .o (.s .o (.s .o (.s (.s .o (.s (.s .o .o) .o)) (.s .o (.s .o (.s .o (.s (.s .o (.s (.s .o .o) .o)) (.s (.s (.r [0, 1, 2, 3, 4] 0 3 [2]) (.s (.s .o .o) .o)) (.s .o (.s .o (.j ⟨1, [], [], [6, 4, 1], [], []⟩ (.j ⟨2, [], [], [6, 4, 1, 42], [], []⟩ .o (.s (.s .o .o) .o)) (.s .o (.s .o (.s .o (.s .o (.s (.s .o (.s (.s .o .o) .o)) (.s (.s .o (.s (.s .o .o) .o)) (.s .o (.s (.s .o (.s (.s .o .o) .o)) (.s .o (.s .o (.s (.s .o (.s (.s .o .o) .o)) (.s (.s .o (.s (.s .o .o) .o)) (.s .o .o)))))))))))))))))))))))))
def ann20 : Ann := (.s .o (.s .o .o))
def ann24 : Ann := (.s .o (.s .o .o))
def ann28 : Ann := (.s .o (.s (.s .o (.s (.s .o .o) .o)) (.s .o .o)))
def ann30 : Ann := (.s .o (.s .o (.s (.s .o (.s (.s .o .o) .o)) (.s .o .o))))
def ann31 : Ann := (.s .o (.s (.s .o (.s (.s .o .o) .o)) (.s .o .o)))
def ann32 : Ann := (.s .o (.s .o (.s .o (.s .o (.s .o (.s .o .o))))))
def ann33 : Ann := (.s .o (.s (.s .o (.s (.s .o .o) .o)) (.s (.s .o (.b (.l ⟨1, [], [], [5, 1, 0], [], []⟩ (.s (.s .o (.s .o .o)) (.s (.b (.s (.r [0, 1, 2, 3, 4, 5, 6, 7, 8] 0 9 []) (.s (.s .o .o) .o))) .o))))) (.s .o .o))))
def ann34 : Ann := (.s .o (.s (.s .o (.s (.s .o .o) .o)) (.s (.s .o (.s (.s .o .o) .o)) (.s (.s .o (.s (.s .o .o) .o)) (.s .o .o)))))
def ann35 : Ann := (.s .o (.s .o (.s .o .o)))
def ann36 : Ann := (.s .o (.s (.s .o (.b (.l ⟨1, [], [], [5, 1, 0], [], []⟩ (.s (.s .o (.s .o .o)) (.s (.b (.s .o .o)) .o))))) (.s .o .o)))
def ann37 : Ann := (.s .o (.s (.s .o (.b (.l ⟨1, [], [], [5, 1, 0], [], []⟩ (.s (.s .o (.s .o .o)) (.s (.b (.s (.s .o (.s (.s .o .o) .o)) .o)) .o))))) (.s .o .o)))
def ann53 : Ann := (.s .o (.s .o .o))
def ann69 : Ann := (.s .o (.s (.s .o (.s (.s .o .o) .o)) (.s .o (.j ⟨1, [], [], [1, 2, 6, 5], [], []⟩ (.s .o (.b (.j ⟨2, [], [], [1, 2, 6, 5, 13, 14], [], []⟩ (.s .o (.s .o (.s .o (.s .o .o)))) (.s .o (.j ⟨3, [], [], [1, 2, 6, 5, 13, 18], [], []⟩ (.s .o (.s .o .o)) (.s .o (.s .o (.s .o (.s .o (.s (.s .o (.s .o (.s .o (.s (.s .o .o) .o)))) (.s .o (.s .o (.s .o .o))))))))))))) (.j ⟨4, [], [], [1, 2], [], []⟩ (.j ⟨5, [], [], [1, 2, 47], [], []⟩ .o (.s (.s .o .o) .o)) (.s .o (.s (.s .o (.b (.l ⟨6, [], [], [8, 7, 1, 2], [], []⟩ (.s (.s .o (.s .o .o)) (.s (.b (.s .o (.s (.s .o (.s (.s .o .o) .o)) (.s .o (.s .o (.s (.s .o .o) .o)))))) .o))))) (.s .o .o))))))))
def ann71 : Ann := (.s .o (.j ⟨1, [], [], [1, 2], [], []⟩ (.j ⟨2, [], [], [1, 2, 14], [], []⟩ .o (.s (.s .o .o) .o)) (.s .o (.s (.s .o (.b (.l ⟨3, [], [], [18, 1, 5, 16, 17], [], []⟩ (.s .o (.s (.s .o .o) (.s (.b (.s .o (.s .o (.s .o (.s (.s .o .o) .o))))) .o)))))) (.s .o .o)))))
def ann78 : Ann := (.s .o (.j ⟨1, [], [], [1, 2], [], []⟩ (.s .o (.b (.j ⟨2, [], [], [2, 1, 9, 10], [], []⟩ (.s .o (.s .o (.s .o (.s .o .o)))) (.s (.s .o .o) (.s .o (.s (.s (.f [0, 3, 1, 2, 4, 5, 6, 7] 2 [1, 4, 6, 7] [(2, [4])]) .o) .o)))))) (.s .o (.j ⟨3, [], [], [1, 5, 2], [], []⟩ (.s .o (.s .o .o)) (.s (.s .o (.b (.l ⟨4, [], [], [42, 1, 5, 40, 41], [], []⟩ (.s .o (.s (.s .o .o) (.s (.b (.s .o .o)) .o)))))) (.s .o .o))))))
def ann79 : Ann := (.s .o (.s .o .o))
def ann80 : Ann := (.s .o (.s .o .o))
def ann81 : Ann := (.s .o (.s .o .o))
def ann83 : Ann := (.s .o (.s .o (.s (.s .o (.s (.s .o .o) .o)) (.s (.s .o (.b (.l ⟨1, [], [], [5, 1, 0], [], []⟩ (.s (.s .o (.s .o .o)) (.s (.b (.s .o (.s .o (.s (.s .o .o) .o)))) .o))))) (.s .o .o)))))
def ann84 : Ann := (.s .o (.j ⟨1, [], [], [3, 0], [], []⟩ (.s .o (.b (.s .o (.s (.s .o .o) (.s .o (.s (.s .o .o) (.s .o (.s (.s .o .o) (.s .o (.s (.s (.f [0, 3, 1, 2, 4, 5, 6, 7] 2 [1, 4, 7] [(2, [4])]) .o) (.s .o (.s .o (.s .o (.s .o (.s .o (.s .o (.f [0, 2, 1, 3, 4, 5, 6] 2 [3] [(1, [3])]))))))))))))))))) (.s (.s .o (.b (.l ⟨2, [], [], [5, 3, 0], [], []⟩ (.s (.s .o (.s .o .o)) (.s (.b (.f [0, 3, 5, 1, 2, 4, 6, 7, 8, 9] 3 [1, 4, 6, 7] [(2, [4, 6, 7])])) .o))))) (.s .o .o))))
def ann85 : Ann := (.s .o (.s .o (.s (.s .o (.b (.l ⟨1, [], [], [4, 0, 3], [], []⟩ (.s (.s .o (.s .o .o)) (.s (.b .o) .o))))) (.s .o .o))))
def ann86 : Ann := (.s .o (.s (.s .o (.s (.s .o .o) .o)) (.s (.s .o (.b (.l ⟨1, [], [], [5, 1, 0], [], []⟩ (.s (.s .o (.s .o .o)) (.s (.b (.s (.f [0, 1, 4, 5, 2, 3, 6, 7, 8, 9] 4 [2, 3, 6, 7, 9] []) (.s (.s .o .o) .o))) .o))))) (.s .o .o))))
def ann87 : Ann := (.s .o (.s (.s .o (.b (.l ⟨1, [], [], [5, 0, 1], [], []⟩ (.s (.s .o (.s .o .o)) (.s (.b (.s .o (.s .o (.s .o (.s .o .o))))) .o))))) (.s .o .o)))
def ann121 : Ann := (.s .o (.s (.s .o (.b (.j ⟨1, [], [], [3, 4], [], []⟩ (.s .o (.s .o (.s .o (.s .o (.s .o (.s .o .o)))))) (.s (.s .o .o) (.j ⟨2, [], [], [3, 9], [], []⟩ (.s .o (.s .o .o)) (.s (.s .o .o) (.s .o (.s (.s .o .o) (.s .o (.s (.s .o .o) .o)))))))))) (.s .o .o)))
def ann123 : Ann := (.s .o (.s .o (.j ⟨1, [], [], [1], [], []⟩ (.j ⟨2, [], [], [1, 25], [], []⟩ .o (.s (.s .o .o) .o)) (.s (.s .o (.b (.s .o (.s (.s .o .o) (.s .o (.s (.s .o .o) .o)))))) (.s .o .o)))))
def ann126 : Ann := (.s .o (.s .o (.s (.s .o (.b (.l ⟨1, [], [], [8, 3, 6, 7], [], []⟩ (.s .o (.s (.s .o .o) (.s (.b (.s .o (.j ⟨2, [], [], [6, 7, 8, 5, 3], [], []⟩ (.s .o (.s .o .o)) .o))) .o)))))) (.s .o .o))))
def ann129 : Ann := (.s .o (.s (.s .o (.s (.s .o .o) .o)) (.s .o .o)))
def ann158 : Ann := (.s .o (.s (.s .o (.s (.s .o .o) .o)) (.s .o .o)))
noncomputable def I6 : FnI := ⟨Tryd.f6, Tryd.f6.body.getD .skip, [false], [], false, [], .m (.one (.bool)), [], [], [], false, false, none, ann6⟩
noncomputable def I20 : FnI := ⟨Tryd.f20, Tryd.f20.body.getD .skip, [false], [], false, [], .m (.one (.bool)), [], [], [], false, false, none, ann20⟩
noncomputable def I24 : FnI := ⟨Tryd.f24, Tryd.f24.body.getD .skip, [false], [], false, [], .m (.one (.bool)), [], [], [], false, false, none, ann24⟩
noncomputable def I28 : FnI := ⟨Tryd.f28, Tryd.f28.body.getD .skip, [false], [], true, [(0, 0, 1)], .m (.one (.own 1000)), [], [.row 1 false true], [], false, true, none, ann28⟩
noncomputable def I30 : FnI := ⟨Tryd.f30, Tryd.f30.body.getD .skip, [false, false], [], false, [], .m (.one (.int .i64)), [], [], [], false, false, none, ann30⟩
noncomputable def I31 : FnI := ⟨Tryd.f31, Tryd.f31.body.getD .skip, [false], [], false, [], .m (.one (.sl 1)), [], [], [], false, false, none, ann31⟩
noncomputable def I32 : FnI := ⟨Tryd.f32, Tryd.f32.body.getD .skip, [false], [], true, [], .m (.agg [.int .i64, .int .i64, .own 1000]), [], [.lrow 3 false], [], true, false, none, ann32⟩
noncomputable def I33 : FnI := ⟨Tryd.f33, Tryd.f33.body.getD .skip, [false, false], [], false, [], .m (.one (.bool)), [], [], [], false, true, none, ann33⟩
noncomputable def I34 : FnI := ⟨Tryd.f34, Tryd.f34.body.getD .skip, [false, false], [], false, [], .m (.one (.bool)), [], [], [], false, true, none, ann34⟩
noncomputable def I35 : FnI := ⟨Tryd.f35, Tryd.f35.body.getD .skip, [true, false], [], false, [], .m (.one (.int .i64)), [], [], [], true, false, none, ann35⟩
noncomputable def I36 : FnI := ⟨Tryd.f36, Tryd.f36.body.getD .skip, [true, false], [], false, [], .m (.one (.int .i64)), [], [], [], false, false, none, ann36⟩
noncomputable def I37 : FnI := ⟨Tryd.f37, Tryd.f37.body.getD .skip, [false, false], [], false, [], .m (.one (.int .i64)), [], [], [], false, true, none, ann37⟩
noncomputable def I53 : FnI := ⟨Tryd.f53, Tryd.f53.body.getD .skip, [false, false, false], [], false, [], .m (.one (.bool)), [], [], [], false, false, none, ann53⟩
noncomputable def I69 : FnI := ⟨Tryd.f69, Tryd.f69.body.getD .skip, [false, false], [], false, [], .m (.one (.int .i64)), [], [], [], false, false, none, ann69⟩
noncomputable def I71 : FnI := ⟨Tryd.f71, Tryd.f71.body.getD .skip, [false, false], [], false, [], .m (.one (.int .i64)), [], [], [], false, false, none, ann71⟩
noncomputable def I78 : FnI := ⟨Tryd.f78, Tryd.f78.body.getD .skip, [false, false], [], false, [], .m (.one (.str)), [], [], [], false, false, none, ann78⟩
noncomputable def I79 : FnI := ⟨Tryd.f79, Tryd.f79.body.getD .skip, [false], [], false, [], .m (.one (.str)), [], [], [], false, false, none, ann79⟩
noncomputable def I80 : FnI := ⟨Tryd.f80, Tryd.f80.body.getD .skip, [false], [], false, [], .m (.one (.str)), [], [], [], false, false, none, ann80⟩
noncomputable def I81 : FnI := ⟨Tryd.f81, Tryd.f81.body.getD .skip, [false], [], false, [], .m (.one (.str)), [], [], [], false, false, some .itoaC, ann81⟩
noncomputable def I83 : FnI := ⟨Tryd.f83, Tryd.f83.body.getD .skip, [false, false], [], false, [], .m (.one (.int .i64)), [], [], [], false, false, none, ann83⟩
noncomputable def I84 : FnI := ⟨Tryd.f84, Tryd.f84.body.getD .skip, [true, false], [(0, 0, 1)], true, [], .m (.one (.own 0)), [.row 1 false true], [], [(0, 0, 0)], false, false, none, ann84⟩
noncomputable def I85 : FnI := ⟨Tryd.f85, Tryd.f85.body.getD .skip, [false], [], true, [], .m (.one (.own 1000)), [], [.lrow 3 false], [], true, false, none, ann85⟩
noncomputable def I86 : FnI := ⟨Tryd.f86, Tryd.f86.body.getD .skip, [false, false], [], false, [], .m (.one (.bool)), [], [], [], false, true, none, ann86⟩
noncomputable def I87 : FnI := ⟨Tryd.f87, Tryd.f87.body.getD .skip, [true, false], [], false, [], .m (.one (.int .i64)), [], [], [], true, false, none, ann87⟩
noncomputable def I121 : FnI := ⟨Tryd.f121, Tryd.f121.body.getD .skip, [false], [], false, [], .m (.one (.int .i64)), [], [], [], false, false, none, ann121⟩
noncomputable def I123 : FnI := ⟨Tryd.f123, Tryd.f123.body.getD .skip, [false], [], false, [], .m (.one (.bool)), [], [], [], false, false, none, ann123⟩
noncomputable def I126 : FnI := ⟨Tryd.f126, Tryd.f126.body.getD .skip, [false], [], false, [], .m (.one (.str)), [], [], [], false, false, none, ann126⟩
noncomputable def I129 : FnI := ⟨Tryd.f129, Tryd.f129.body.getD .skip, [false], [], false, [], .m (.one (.sl 1)), [], [], [], false, false, none, ann129⟩
noncomputable def I158 : FnI := ⟨Tryd.f158, Tryd.f158.body.getD .skip, [false], [], true, [], .m (.one (.own 1000)), [], [.row 1 false true], [], false, false, none, ann158⟩
noncomputable def fnsL : List (Nat × FnI) := [(6, I6), (20, I20), (24, I24), (28, I28), (30, I30), (31, I31), (32, I32), (33, I33), (34, I34), (35, I35), (36, I36), (37, I37), (53, I53), (69, I69), (71, I71), (78, I78), (79, I79), (80, I80), (81, I81), (83, I83), (84, I84), (85, I85), (86, I86), (87, I87), (121, I121), (123, I123), (126, I126), (129, I129), (158, I158)]
noncomputable def cx : Cx := ⟨tyL, fnsL, false⟩
noncomputable def laws_FnExactTySay (x0 : T_Ty) : Res := evF cx 6 [(.agg (LS.encs sh_Ty x0))] []
noncomputable def laws_szTy (x0 : T_Ty) (x1 : Int) : Res := evF cx 30 [(.agg (LS.encs sh_Ty x0)), (.d (.int .i64 x1))] []
noncomputable def laws_toTy (x0 : T_Ty) : Res := evF cx 32 [(.agg (LS.encs sh_Ty x0))] []
noncomputable def spec_TySay (x0 : T_Ty) : Res := evF cx 31 [(.agg (LS.encs sh_Ty x0))] []
noncomputable def impl_TySay (x0 : T_Ty) : Res := evF cx 28 [(.agg (LS.encs sh_Ty x0))] []
noncomputable def laws_eqByteS (x0 : Sl) (x1 : Sl) : Res := evF cx 33 [(.d (.sl false 1 x0.1 x0.2)), (.d (.sl false 1 x1.1 x1.2))] []
noncomputable def laws_eqTy (x0 : T_Ty) (x1 : T_Ty) : Res := evF cx 34 [(.agg (LS.encs sh_Ty x0)), (.agg (LS.encs sh_Ty x1))] []
noncomputable def laws_markTy (x0 : Int) (x1 : Int) (x2 : Int) (x3 : Sl) : Res := evF cx 35 [(.agg [(.d (.int .i64 x0)), (.d (.int .i64 x1)), (.own 0)]), (.d (.int .i64 x2))] [(.lrow 3 x3.1 false x3.2)]
noncomputable def laws_markByteS_o (x0 : Int) (x1 : Sl) : Res := evF cx 36 [(.own 0), (.d (.int .i64 x0))] [(.row 1 x1.1 false false x1.2)]
noncomputable def laws_heldByteS (x0 : Sl) (x1 : Int) : Res := evF cx 37 [(.d (.sl false 1 x0.1 x0.2)), (.d (.int .i64 x1))] []
noncomputable def laws_szTyS (x0 : Sl) (x1 : Int) : Res := evF cx 83 [(.d (.sl false 3 x0.1 x0.2)), (.d (.int .i64 x1))] []
noncomputable def laws_toTyS (x0 : Sl) : Res := evF cx 85 [(.d (.sl false 3 x0.1 x0.2))] []
noncomputable def spec_TyOk (x0 : T_Ty) : Res := evF cx 20 [(.agg (LS.encs sh_Ty x0))] []
noncomputable def spec_l3say_o (x0 : T_Ty) (x1 : Sl) : Res := evF cx 84 [(.own 0), (.agg (LS.encs sh_Ty x0))] [(.row 1 x1.1 false false x1.2)]
noncomputable def impl_TyOk (x0 : T_Ty) : Res := evF cx 24 [(.agg (LS.encs sh_Ty x0))] []
noncomputable def impl_sayTy_Fimpl_TySay_1 (x0 : T_Ty) : Res := evF cx 78 [(.agg (LS.encs sh_Ty x0)), (.fn 79 [])] []
noncomputable def laws_eqTyS (x0 : Sl) (x1 : Sl) : Res := evF cx 86 [(.d (.sl false 3 x0.1 x0.2)), (.d (.sl false 3 x1.1 x1.2))] []
noncomputable def laws_markTyS_o (x0 : Int) (x1 : Sl) : Res := evF cx 87 [(.own 0), (.d (.int .i64 x0))] [(.lrow 3 x1.1 false x1.2)]
noncomputable def spec_l3ok (x0 : T_Ty) (x1 : Int) : Res := evF cx 69 [(.agg (LS.encs sh_Ty x0)), (.d (.int .i64 x1))] []
noncomputable def spec_l3digits (x0 : Int) : Res := evF cx 129 [(.d (.int .i64 x0))] []
noncomputable def impl_measure (x0 : T_Ty) (x1 : Int) : Res := evF cx 71 [(.agg (LS.encs sh_Ty x0)), (.d (.int .i64 x1))] []
noncomputable def impl_wordOf (x0 : Int) : Res := evF cx 80 [(.d (.int .i64 x0))] []
noncomputable def strconv_Itoa (x0 : Int) : Res := evF cx 81 [(.d (.int .i64 x0))] []
noncomputable def impl_TySay_1 (x0 : Int) : Res := evF cx 79 [(.d (.int .i64 x0))] []
noncomputable def impl_bracketed (x0 : Sl) : Res := evF cx 126 [(.d (.sl false 1 x0.1 x0.2))] []
noncomputable def spec_l3tens (x0 : Int) : Res := evF cx 158 [(.d (.int .u64 x0))] []
noncomputable def impl_headOk (x0 : T_Ty) : Res := evF cx 123 [(.agg (LS.encs sh_Ty x0))] []
noncomputable def impl_argsOf (x0 : Int) : Res := evF cx 121 [(.d (.int .i64 x0))] []
noncomputable def impl_within (x0 : Int) (x1 : Int) (x2 : Int) : Res := evF cx 53 [(.d (.int .i64 x0)), (.d (.int .i64 x1)), (.d (.int .i64 x2))] []
noncomputable def laws_FnExactTySay_j2 (x0 : Sl) (x1 : Bool) (x2 : Sl) (x3 : T_Ty) : Res := (fun (p : Env × Mem) => evI cx 6 0 2 p.1 p.2) ([(6, (.own 0)), (4, (.d (.sl false 1 x0.1 x0.2))), (1, (.ptr 1 0)), (42, (.d (.bool x1)))], [(.row 1 x2.1 false true x2.2), (.box (LS.encs sh_Ty x3))])
noncomputable def laws_FnExactTySay_j1 (x0 : Sl) (x1 : Sl) (x2 : T_Ty) : Res := (fun (p : Env × Mem) => evI cx 6 0 1 p.1 p.2) ([(6, (.own 0)), (4, (.d (.sl false 1 x0.1 x0.2))), (1, (.ptr 1 0))], [(.row 1 x1.1 false true x1.2), (.box (LS.encs sh_Ty x2))])
theorem laws_FnExactTySay_eq (x0 : T_Ty) : laws_FnExactTySay x0 =
  ocall (.m (.one (.int .i64))) [] (laws_szTy x0 (1048576 : Int)) fun (r0 : Int) (m1 : Unit) =>
  oite (decide (r0 < (0 : Int)))
    (some ((.d (.bool true)), []))
    (ocall (.m (.agg [(.int .i64), (.int .i64), (.own 0)])) [(.lrow 3 false)] (laws_toTy x0) fun (r2 : (Int × (Int × (Unit × Unit)))) (m3 : (Sl × Unit)) =>
    ocall (.m (.one (.sl 1))) [] (spec_TySay (r2.1, r2.2.1, m3.1, ())) fun (r4 : Sl) (m5 : Unit) =>
    ocall (.m (.agg [(.int .i64), (.int .i64), (.own 0)])) [(.lrow 3 false)] (laws_toTy x0) fun (r6 : (Int × (Int × (Unit × Unit)))) (m7 : (Sl × Unit)) =>
    ocall (.m (.one (.own 0))) [(.row 1 false true)] (impl_TySay (r6.1, r6.2.1, m7.1, ())) fun (r8 : Unit) (m9 : (Sl × Unit)) =>
    oguard (flatR m9.1.2) (
    ocall (.m (.one .bool)) [] (laws_eqByteS m9.1 r4) fun (r10 : Bool) (m11 : Unit) =>
    oite (!r10)
      (some ((.d (.bool false)), []))
      (ocall (.m (.agg [(.int .i64), (.int .i64), (.own 0)])) [(.lrow 3 false)] (laws_toTy x0) fun (r12 : (Int × (Int × (Unit × Unit)))) (m13 : (Sl × Unit)) =>
      ocall (.m (.one .bool)) [] (laws_eqTy (r6.1, r6.2.1, m7.1, ()) (r12.1, r12.2.1, m13.1, ())) fun (r14 : Bool) (m15 : Unit) =>
      oite (!r14)
        (some ((.d (.bool false)), []))
        (ocall (.m (.one (.int .i64))) [(.lrow 3 false)] (laws_markTy r6.1 r6.2.1 (1 : Int) m7.1) fun (r16 : Int) (m17 : (Sl × Unit)) =>
        oite (decide (r16 < (0 : Int)))
          (laws_FnExactTySay_j2 r4 true m9.1 x0)
          (ocall (.m (.one .bool)) [] (laws_eqByteS m9.1 r4) fun (r18 : Bool) (m19 : Unit) =>
          laws_FnExactTySay_j2 r4 (!r18) m9.1 x0))))) := (evF_eq ..).trans (by kernel_rfl)
theorem laws_FnExactTySay_j2_eq (x0 : Sl) (x1 : Bool) (x2 : Sl) (x3 : T_Ty) : laws_FnExactTySay_j2 x0 x1 x2 x3 =
  oite x1
    (some ((.d (.bool false)), []))
    (laws_FnExactTySay_j1 x0 x2 x3) := (evI_eq ..).trans (by kernel_rfl)
theorem laws_FnExactTySay_j1_eq (x0 : Sl) (x1 : Sl) (x2 : T_Ty) : laws_FnExactTySay_j1 x0 x1 x2 =
  ocall (.m (.one (.int .i64))) [(.row 1 false false)] (laws_markByteS_o (1 : Int) x1) fun (r20 : Int) (m21 : (Sl × Unit)) =>
  ocall (.m (.one (.int .i64))) [] (laws_heldByteS m21.1 (1 : Int)) fun (r22 : Int) (m23 : Unit) =>
  oite (decide (r22 < (0 : Int)))
    (some ((.d (.bool false)), []))
    (oite (!(r22 == r20))
      (some ((.d (.bool false)), []))
      (ocall (.m (.agg [(.int .i64), (.int .i64), (.own 0)])) [(.lrow 3 false)] (laws_toTy x2) fun (r24 : (Int × (Int × (Unit × Unit)))) (m25 : (Sl × Unit)) =>
      ocall (.m (.one (.own 0))) [(.row 1 false true)] (impl_TySay (r24.1, r24.2.1, m25.1, ())) fun (r26 : Unit) (m27 : (Sl × Unit)) =>
      oguard (flatR m27.1.2) (
      ocall (.m (.one .bool)) [] (laws_eqByteS m27.1 x0) fun (r28 : Bool) (m29 : Unit) =>
      oite (!r28)
        (some ((.d (.bool false)), []))
        (ocall (.m (.one (.int .i64))) [] (laws_heldByteS m21.1 (1 : Int)) fun (r30 : Int) (m31 : Unit) =>
        oite (decide (r30 < (0 : Int)))
          (some ((.d (.bool false)), []))
          (oite (!(r30 == r20))
            (some ((.d (.bool false)), []))
            (some ((.d (.bool true)), []))))))) := (evI_eq ..).trans (by kernel_rfl)
theorem laws_szTy_eq (x0 : T_Ty) (x1 : Int) : laws_szTy x0 x1 =
  ocall (.m (.one (.int .i64))) [] (laws_szTyS x0.2.2.1 x1) fun (r0 : Int) (m1 : Unit) =>
  oite (decide (r0 < (0 : Int)))
    (some ((.d (.int .i64 (-1 : Int))), []))
    (some ((.d (.int .i64 r0)), [])) := (evF_eq ..).trans (by kernel_rfl)
theorem laws_toTy_eq (x0 : T_Ty) : laws_toTy x0 =
  ocall (.m (.one (.own 0))) [(.lrow 3 false)] (laws_toTyS x0.2.2.1) fun (r0 : Unit) (m1 : (Sl × Unit)) =>
  some ((.agg [(.d (.int .i64 x0.1)), (.d (.int .i64 x0.2.1)), (.own 0)]), [(.lrow 3 m1.1.1 false m1.1.2)]) := (evF_eq ..).trans (by kernel_rfl)
theorem spec_TySay_eq (x0 : T_Ty) : spec_TySay x0 =
  ocall (.m (.one .bool)) [] (spec_TyOk x0) fun (r0 : Bool) (m1 : Unit) =>
  oite (!r0)
    (some ((.d (.sl false 1 0 [])), []))
    (ocall (.m (.one (.own 0))) [(.row 1 false true)] (spec_l3say_o x0 (0, [])) fun (r2 : Unit) (m3 : (Sl × Unit)) =>
    some ((.d (.sl false 1 m3.1.1 m3.1.2)), [])) := (evF_eq ..).trans (by kernel_rfl)
theorem impl_TySay_eq (x0 : T_Ty) : impl_TySay x0 =
  ocall (.m (.one .bool)) [] (impl_TyOk x0) fun (r0 : Bool) (m1 : Unit) =>
  oite (!r0)
    (some ((.own 0), [(.row 1 0 false false [])]))
    (ocall (.m (.one .str)) [] (impl_sayTy_Fimpl_TySay_1 x0) fun (r2 : ByteArray) (m3 : Unit) =>
    some ((.own 0), [(.row 1 (ByteArray.size r2) false false (byteEs r2))])) := (evF_eq ..).trans (by kernel_rfl)
noncomputable def laws_eqByteS_j1 (x0 : Int) (x1 : Sl) (x2 : Sl) : Res := (fun (p : Env × Mem) => evI cx 33 0 1 p.1 p.2) ([(5, (.d (.int .i64 x0))), (1, (.d (.sl false 1 x1.1 x1.2))), (0, (.d (.sl false 1 x2.1 x2.2)))], [])
theorem laws_eqByteS_eq (x0 : Sl) (x1 : Sl) : laws_eqByteS x0 x1 =
  oite (!(((x0.1 : Nat) : Int) == ((x1.1 : Nat) : Int)))
    (some ((.d (.bool false)), []))
    (laws_eqByteS_j1 (0 : Int) x1 x0) := (evF_eq ..).trans (by kernel_rfl)
-- a loop's head
theorem laws_eqByteS_j1_eq (x0 : Int) (x1 : Sl) (x2 : Sl) : laws_eqByteS_j1 x0 x1 x2 =
  oite (decide (x0 < ((x2.1 : Nat) : Int)))
    (oat [(.int .u8)] x2.1 x2.2 x0 fun (t0 : (Int × Unit)) =>
    oat [(.int .u8)] x1.1 x1.2 x0 fun (t1 : (Int × Unit)) =>
    oite (!(t0.1 == t1.1))
      (some ((.d (.bool false)), []))
      (laws_eqByteS_j1 (w64 (x0 + (1 : Int))) x1 x2))
    (some ((.d (.bool true)), [])) := (evI_eq ..).trans (by kernel_rfl)
theorem laws_eqTy_eq (x0 : T_Ty) (x1 : T_Ty) : laws_eqTy x0 x1 =
  oite (!(x0.1 == x1.1))
    (some ((.d (.bool false)), []))
    (oite (!(x0.2.1 == x1.2.1))
      (some ((.d (.bool false)), []))
      (ocall (.m (.one .bool)) [] (laws_eqTyS x0.2.2.1 x1.2.2.1) fun (r0 : Bool) (m1 : Unit) =>
      oite (!r0)
        (some ((.d (.bool false)), []))
        (some ((.d (.bool true)), [])))) := (evF_eq ..).trans (by kernel_rfl)
theorem laws_markTy_eq (x0 : Int) (x1 : Int) (x2 : Int) (x3 : Sl) : laws_markTy x0 x1 x2 x3 =
  ocall (.m (.one (.int .i64))) [(.lrow 3 false)] (laws_markTyS_o x2 x3) fun (r0 : Int) (m1 : (Sl × Unit)) =>
  some ((.d (.int .i64 r0)), [(.lrow 3 m1.1.1 false m1.1.2)]) := (evF_eq ..).trans (by kernel_rfl)
noncomputable def laws_markByteS_o_j1 (x0 : Int) (x1 : Int) (x2 : Sl) : Res := (fun (p : Env × Mem) => evI cx 36 1 1 p.1 p.2) ([(5, (.d (.int .i64 x0))), (1, (.d (.int .i64 x1))), (0, (.own 0))], [(.row 1 x2.1 false false x2.2)])
theorem laws_markByteS_o_eq (x0 : Int) (x1 : Sl) : laws_markByteS_o x0 x1 =
  laws_markByteS_o_j1 (0 : Int) x0 x1 := (evF_eq ..).trans (by kernel_rfl)
-- a loop's head
theorem laws_markByteS_o_j1_eq (x0 : Int) (x1 : Int) (x2 : Sl) : laws_markByteS_o_j1 x0 x1 x2 =
  oite (decide (x0 < ((x2.1 : Nat) : Int)))
    (oguard (decide (((0 : Int) ≤ x0) ∧ (x0 < ((x2.1 : Nat) : Int)))) (
    olet (List.set x2.2 (Int.toNat x0) (putD (List.getD x2.2 (Int.toNat x0) []) 0 [(D.int .u8 (IntKind.wrap .u8 x1))])) fun (e0 : (List (List D))) =>
    laws_markByteS_o_j1 (w64 (x0 + (1 : Int))) (w64 (x1 + (1 : Int))) (x2.1, e0)))
    (some ((.d (.int .i64 x1)), [(.row 1 x2.1 false false x2.2)])) := (evI_eq ..).trans (by kernel_rfl)
noncomputable def laws_heldByteS_j1 (x0 : Int) (x1 : Int) (x2 : Sl) : Res := (fun (p : Env × Mem) => evI cx 37 0 1 p.1 p.2) ([(5, (.d (.int .i64 x0))), (1, (.d (.int .i64 x1))), (0, (.d (.sl false 1 x2.1 x2.2)))], [])
theorem laws_heldByteS_eq (x0 : Sl) (x1 : Int) : laws_heldByteS x0 x1 =
  laws_heldByteS_j1 (0 : Int) x1 x0 := (evF_eq ..).trans (by kernel_rfl)
-- a loop's head
theorem laws_heldByteS_j1_eq (x0 : Int) (x1 : Int) (x2 : Sl) : laws_heldByteS_j1 x0 x1 x2 =
  oite (decide (x0 < ((x2.1 : Nat) : Int)))
    (oat [(.int .u8)] x2.1 x2.2 x0 fun (t0 : (Int × Unit)) =>
    oite (!(t0.1 == (IntKind.wrap .u8 x1)))
      (some ((.d (.int .i64 (-1 : Int))), []))
      (laws_heldByteS_j1 (w64 (x0 + (1 : Int))) (w64 (x1 + (1 : Int))) x2))
    (some ((.d (.int .i64 x1)), [])) := (evI_eq ..).trans (by kernel_rfl)
noncomputable def laws_szTyS_j1 (x0 : Int) (x1 : Int) (x2 : Sl) : Res := (fun (p : Env × Mem) => evI cx 83 0 1 p.1 p.2) ([(5, (.d (.int .i64 x0))), (1, (.d (.int .i64 x1))), (0, (.d (.sl false 3 x2.1 x2.2)))], [])
theorem laws_szTyS_eq (x0 : Sl) (x1 : Int) : laws_szTyS x0 x1 =
  oite (decide ((w64 (x1 - ((x0.1 : Nat) : Int))) < (0 : Int)))
    (some ((.d (.int .i64 (-1 : Int))), []))
    (laws_szTyS_j1 (0 : Int) (w64 (x1 - ((x0.1 : Nat) : Int))) x0) := (evF_eq ..).trans (by kernel_rfl)
-- a loop's head
theorem laws_szTyS_j1_eq (x0 : Int) (x1 : Int) (x2 : Sl) : laws_szTyS_j1 x0 x1 x2 =
  oite (decide (x0 < ((x2.1 : Nat) : Int)))
    (oat sh_Ty x2.1 x2.2 x0 fun (t0 : T_Ty) =>
    ocall (.m (.one (.int .i64))) [] (laws_szTy t0 x1) fun (r1 : Int) (m2 : Unit) =>
    oite (decide (r1 < (0 : Int)))
      (some ((.d (.int .i64 (-1 : Int))), []))
      (laws_szTyS_j1 (w64 (x0 + (1 : Int))) r1 x2))
    (some ((.d (.int .i64 x1)), [])) := (evI_eq ..).trans (by kernel_rfl)
noncomputable def laws_toTyS_j1 (x0 : Int) (x1 : Sl) (x2 : Sl) : Res := (fun (p : Env × Mem) => evI cx 85 0 1 p.1 p.2) ([(4, (.d (.int .i64 x0))), (0, (.d (.sl false 3 x1.1 x1.2))), (3, (.own 0))], [(.lrow 3 x2.1 false x2.2)])
theorem laws_toTyS_eq (x0 : Sl) : laws_toTyS x0 =
  oguard (decide (((0 : Int) ≤ ((x0.1 : Nat) : Int)) ∧ ((((x0.1 : Nat) : Int) = ((x0.1 : Nat) : Int)) ∧ ((((x0.1 : Nat) : Int) * (40 : Int)) ≤ (140737488351232 : Int))))) (
  olet (List.replicate (Int.toNat ((x0.1 : Nat) : Int)) (vDs (LS.encs sh_Ty ((0 : Int), (0 : Int), (0, []), ())))) fun (e0 : (List (List D))) =>
  laws_toTyS_j1 (0 : Int) x0 ((Int.toNat ((x0.1 : Nat) : Int)), e0)) := (evF_eq ..).trans (by kernel_rfl)
-- a loop's head
theorem laws_toTyS_j1_eq (x0 : Int) (x1 : Sl) (x2 : Sl) : laws_toTyS_j1 x0 x1 x2 =
  oite (decide (x0 < ((x1.1 : Nat) : Int)))
    (oat sh_Ty x1.1 x1.2 x0 fun (t1 : T_Ty) =>
    ocall (.m (.agg [(.int .i64), (.int .i64), (.own 0)])) [(.lrow 3 false)] (laws_toTy t1) fun (r2 : (Int × (Int × (Unit × Unit)))) (m3 : (Sl × Unit)) =>
    oguard (decide (((0 : Int) ≤ x0) ∧ (x0 < ((x2.1 : Nat) : Int)))) (
    olet (List.set x2.2 (Int.toNat x0) (putD (List.getD x2.2 (Int.toNat x0) []) 0 (vDs (LS.encs sh_Ty (r2.1, r2.2.1, m3.1, ()))))) fun (e4 : (List (List D))) =>
    laws_toTyS_j1 (w64 (x0 + (1 : Int))) x1 (x2.1, e4)))
    (some ((.own 0), [(.lrow 3 x2.1 false x2.2)])) := (evI_eq ..).trans (by kernel_rfl)
theorem spec_TyOk_eq (x0 : T_Ty) : spec_TyOk x0 =
  ocall (.m (.one (.int .i64))) [] (spec_l3ok x0 (1 : Int)) fun (r0 : Int) (m1 : Unit) =>
  some ((.d (.bool (decide (r0 > (0 : Int))))), []) := (evF_eq ..).trans (by kernel_rfl)
noncomputable def spec_l3say_o_j1 (x0 : Sl) (x1 : T_Ty) : Res := (fun (p : Env × Mem) => evI cx 84 1 1 p.1 p.2) ([(3, (.ptr 1 0)), (0, (.own 0))], [(.row 1 x0.1 false true x0.2), (.box (LS.encs sh_Ty x1))])
noncomputable def spec_l3say_o_j2 (x0 : Int) (x1 : Sl) (x2 : T_Ty) : Res := (fun (p : Env × Mem) => evI cx 84 1 2 p.1 p.2) ([(5, (.d (.int .i64 x0))), (3, (.ptr 1 0)), (0, (.own 0))], [(.row 1 x1.1 false true x1.2), (.box (LS.encs sh_Ty x2))])
theorem spec_l3say_o_eq (x0 : T_Ty) (x1 : Sl) : spec_l3say_o x0 x1 =
  oite (x0.1 == (0 : Int))
    (oguard (decide (((x1.1 + 4) * 1) ≤ 140737488351232)) (
    olet (x1.2 ++ (byteEs (ByteArray.mk (Array.mk (117 :: (110 :: (105 :: (116 :: [])))))))) fun (e0 : (List (List D))) =>
    some ((.own 0), [(.row 1 (x1.1 + 4) false true e0)])))
    (oite (x0.1 == (1 : Int))
      (oguard (decide (((x1.1 + 3) * 1) ≤ 140737488351232)) (
      olet (x1.2 ++ (byteEs (ByteArray.mk (Array.mk (105 :: (110 :: (116 :: []))))))) fun (e1 : (List (List D))) =>
      some ((.own 0), [(.row 1 (x1.1 + 3) false true e1)])))
      (oite (x0.1 == (2 : Int))
        (oguard (decide (((x1.1 + 4) * 1) ≤ 140737488351232)) (
        olet (x1.2 ++ (byteEs (ByteArray.mk (Array.mk (116 :: (101 :: (120 :: (116 :: [])))))))) fun (e2 : (List (List D))) =>
        some ((.own 0), [(.row 1 (x1.1 + 4) false true e2)])))
        (oite (x0.1 == (7 : Int))
          (oguard (decide (((x1.1 + 1) * 1) ≤ 140737488351232)) (
          olet (x1.2 ++ (((D.int .u8 (39 : Int)) :: []) :: [])) fun (e3 : (List (List D))) =>
          osame (α := List V) [(.d (.int .i64 x0.2.1))] [(.d (.int .i64 x0.2.1))] (
          ocall (.m (.one (.sl 1))) [] (spec_l3digits x0.2.1) fun (r4 : Sl) (m5 : Unit) =>
          oguard (decide ((((x1.1 + 1) + r4.1) * 1) ≤ 140737488351232)) (
          olet (e3 ++ r4.2) fun (e6 : (List (List D))) =>
          some ((.own 0), [(.row 1 ((x1.1 + 1) + r4.1) false true e6)])))))
          (oite (x0.1 == (3 : Int))
            (oguard (decide (((x1.1 + 5) * 1) ≤ 140737488351232)) (
            olet (x1.2 ++ (byteEs (ByteArray.mk (Array.mk (40 :: (112 :: (97 :: (105 :: (114 :: []))))))))) fun (e7 : (List (List D))) =>
            spec_l3say_o_j1 ((x1.1 + 5), e7) x0))
            (oite (x0.1 == (4 : Int))
              (oguard (decide (((x1.1 + 4) * 1) ≤ 140737488351232)) (
              olet (x1.2 ++ (byteEs (ByteArray.mk (Array.mk (40 :: (102 :: (117 :: (110 :: [])))))))) fun (e8 : (List (List D))) =>
              spec_l3say_o_j1 ((x1.1 + 4), e8) x0))
              (oite (x0.1 == (5 : Int))
                (oguard (decide (((x1.1 + 4) * 1) ≤ 140737488351232)) (
                olet (x1.2 ++ (byteEs (ByteArray.mk (Array.mk (40 :: (114 :: (101 :: (102 :: [])))))))) fun (e9 : (List (List D))) =>
                spec_l3say_o_j1 ((x1.1 + 4), e9) x0))
                (oguard (decide (((x1.1 + 6) * 1) ≤ 140737488351232)) (
                olet (x1.2 ++ (byteEs (ByteArray.mk (Array.mk (40 :: (100 :: (97 :: (116 :: (97 :: (32 :: [])))))))))) fun (e10 : (List (List D))) =>
                osame (α := List V) [(.d (.int .i64 x0.2.1))] [(.d (.int .i64 x0.2.1))] (
                ocall (.m (.one (.sl 1))) [] (spec_l3digits x0.2.1) fun (r11 : Sl) (m12 : Unit) =>
                oguard (decide ((((x1.1 + 6) + r11.1) * 1) ≤ 140737488351232)) (
                olet (e10 ++ r11.2) fun (e13 : (List (List D))) =>
                spec_l3say_o_j1 (((x1.1 + 6) + r11.1), e13) x0)))))))))) := (evF_eq ..).trans (by kernel_rfl)
theorem spec_l3say_o_j1_eq (x0 : Sl) (x1 : T_Ty) : spec_l3say_o_j1 x0 x1 =
  spec_l3say_o_j2 (0 : Int) x0 x1 := (evI_eq ..).trans (by kernel_rfl)
-- a loop's head
theorem spec_l3say_o_j2_eq (x0 : Int) (x1 : Sl) (x2 : T_Ty) : spec_l3say_o_j2 x0 x1 x2 =
  oite (decide (x0 < ((x2.2.2.1.1 : Nat) : Int)))
    (oat sh_Ty x2.2.2.1.1 x2.2.2.1.2 x0 fun (t14 : T_Ty) =>
    oguard (decide (((x1.1 + 1) * 1) ≤ 140737488351232)) (
    olet (x1.2 ++ (((D.int .u8 (32 : Int)) :: []) :: [])) fun (e15 : (List (List D))) =>
    osame (α := List V) [(.d (.sl false 3 x2.2.2.1.1 x2.2.2.1.2))] [(.d (.sl false 3 x2.2.2.1.1 x2.2.2.1.2))] (
    oat sh_Ty x2.2.2.1.1 x2.2.2.1.2 x0 fun (t16 : T_Ty) =>
    osame (α := List V) [(.rp [(.int .i64 t14.1), (.int .i64 t14.2.1), (.sl false 3 t14.2.2.1.1 t14.2.2.1.2)] 0)] [(.rp [(.int .i64 t16.1), (.int .i64 t16.2.1), (.sl false 3 t16.2.2.1.1 t16.2.2.1.2)] 0)] (
    osame (α := List V) [(.agg [(.d (.int .i64 t14.1)), (.d (.int .i64 t14.2.1)), (.d (.sl false 3 t14.2.2.1.1 t14.2.2.1.2))])] [(.agg [(.d (.int .i64 t14.1)), (.d (.int .i64 t14.2.1)), (.d (.sl false 3 t14.2.2.1.1 t14.2.2.1.2))])] (
    oat sh_Ty x2.2.2.1.1 x2.2.2.1.2 x0 fun (t17 : T_Ty) =>
    ocall (.m (.one (.own 0))) [(.row 1 false true)] (spec_l3say_o t17 ((x1.1 + 1), e15)) fun (r18 : Unit) (m19 : (Sl × Unit)) =>
    spec_l3say_o_j2 (w64 (x0 + (1 : Int))) m19.1 x2)))))
    (oguard (decide (((x1.1 + 1) * 1) ≤ 140737488351232)) (
    olet (x1.2 ++ (((D.int .u8 (41 : Int)) :: []) :: [])) fun (e20 : (List (List D))) =>
    some ((.own 0), [(.row 1 (x1.1 + 1) false true e20)]))) := (evI_eq ..).trans (by kernel_rfl)
theorem impl_TyOk_eq (x0 : T_Ty) : impl_TyOk x0 =
  ocall (.m (.one (.int .i64))) [] (impl_measure x0 (1 : Int)) fun (r0 : Int) (m1 : Unit) =>
  some ((.d (.bool (decide (r0 ≤ (60 : Int))))), []) := (evF_eq ..).trans (by kernel_rfl)
noncomputable def impl_sayTy_Fimpl_TySay_1_j2 (x0 : Int) (x1 : Bool) (x2 : T_Ty) : Res := (fun (p : Env × Mem) => evI cx 78 0 2 p.1 p.2) ([(2, (.ptr 0 0)), (1, (.fn 79 [])), (9, (.d (.int .i64 x0))), (10, (.d (.bool x1)))], [(.box (LS.encs sh_Ty x2))])
noncomputable def impl_sayTy_Fimpl_TySay_1_j1 (x0 : T_Ty) : Res := (fun (p : Env × Mem) => evI cx 78 0 1 p.1 p.2) ([(1, (.fn 79 [])), (2, (.ptr 0 0))], [(.box (LS.encs sh_Ty x0))])
noncomputable def impl_sayTy_Fimpl_TySay_1_j3 (x0 : Sl) (x1 : T_Ty) : Res := (fun (p : Env × Mem) => evI cx 78 0 3 p.1 p.2) ([(1, (.fn 79 [])), (5, (.own 0)), (2, (.ptr 1 0))], [(.row 1 x0.1 false false x0.2), (.box (LS.encs sh_Ty x1))])
noncomputable def impl_sayTy_Fimpl_TySay_1_j4 (x0 : Int) (x1 : Sl) (x2 : Int) (x3 : Sl) : Res := (fun (p : Env × Mem) => evI cx 78 0 4 p.1 p.2) ([(42, (.d (.int .i64 x0))), (1, (.fn 79 [])), (5, (.own 0)), (40, (.d (.sl false 3 x1.1 x1.2))), (41, (.d (.int .i64 x2)))], [(.row 1 x3.1 false false x3.2)])
noncomputable def impl_sayTy_Fimpl_TySay_1_j4v1 (x0 : Int) (x1 : Sl) (x2 : Int) (x3 : Sl) : Res := (fun (p : Env × Mem) => evI cx 78 0 4 p.1 p.2) ([(42, (.d (.int .i64 x0))), (1, (.fn 79 [])), (5, (.own 0)), (40, (.d (.sl false 3 x1.1 x1.2))), (41, (.d (.int .i64 x2)))], [(.row 1 x3.1 false true x3.2)])
theorem impl_sayTy_Fimpl_TySay_1_eq (x0 : T_Ty) : impl_sayTy_Fimpl_TySay_1 x0 =
  oite (x0.1 == (0 : Int))
    (impl_sayTy_Fimpl_TySay_1_j2 x0.1 (x0.1 == (0 : Int)) x0)
    (oite (x0.1 == (1 : Int))
      (impl_sayTy_Fimpl_TySay_1_j2 x0.1 (x0.1 == (1 : Int)) x0)
      (impl_sayTy_Fimpl_TySay_1_j2 x0.1 (x0.1 == (2 : Int)) x0)) := (evF_eq ..).trans (by kernel_rfl)
theorem impl_sayTy_Fimpl_TySay_1_j2_eq (x0 : Int) (x1 : Bool) (x2 : T_Ty) : impl_sayTy_Fimpl_TySay_1_j2 x0 x1 x2 =
  oite x1
    (ocall (.m (.one .str)) [] (impl_wordOf x2.1) fun (r0 : ByteArray) (m1 : Unit) =>
    some ((.d (.str r0)), []))
    (oite (x0 == (7 : Int))
      (ocall (.m (.one .str)) [] (impl_wordOf x2.1) fun (r2 : ByteArray) (m3 : Unit) =>
      osame (α := List V) [(.d (.int .i64 x2.2.1))] [(.d (.int .i64 x2.2.1))] (
      ocall (.m (.one .str)) [] (strconv_Itoa x2.2.1) fun (r4 : ByteArray) (m5 : Unit) =>
      oguard (decide (((ByteArray.size r2) + (ByteArray.size r4)) ≤ 140737488351232)) (
      some ((.d (.str (r2 ++ r4))), []))))
      (impl_sayTy_Fimpl_TySay_1_j1 x2)) := (evI_eq ..).trans (by kernel_rfl)
theorem impl_sayTy_Fimpl_TySay_1_j1_eq (x0 : T_Ty) : impl_sayTy_Fimpl_TySay_1_j1 x0 =
  ocall (.m (.one .str)) [] (impl_wordOf x0.1) fun (r6 : ByteArray) (m7 : Unit) =>
  oite (x0.1 == (6 : Int))
    (ocall (.m (.one .str)) [] (impl_TySay_1 x0.2.1) fun (r8 : ByteArray) (m9 : Unit) =>
    oguard true (
    olet (List.set (((D.str r6) :: []) :: []) 0 (putD (List.getD (((D.str r6) :: []) :: []) 0 []) 0 [(D.str r8)])) fun (e10 : (List (List D))) =>
    impl_sayTy_Fimpl_TySay_1_j3 (1, e10) x0))
    (impl_sayTy_Fimpl_TySay_1_j3 (1, (((D.str r6) :: []) :: [])) x0) := (evI_eq ..).trans (by kernel_rfl)
theorem impl_sayTy_Fimpl_TySay_1_j3_eq (x0 : Sl) (x1 : T_Ty) : impl_sayTy_Fimpl_TySay_1_j3 x0 x1 =
  impl_sayTy_Fimpl_TySay_1_j4 (0 : Int) x1.2.2.1 ((x1.2.2.1.1 : Nat) : Int) x0 := (evI_eq ..).trans (by kernel_rfl)
-- a loop's head
theorem impl_sayTy_Fimpl_TySay_1_j4_eq (x0 : Int) (x1 : Sl) (x2 : Int) (x3 : Sl) : impl_sayTy_Fimpl_TySay_1_j4 x0 x1 x2 x3 =
  oite (decide (x0 < x2))
    (oat sh_Ty x1.1 x1.2 x0 fun (t11 : T_Ty) =>
    ocall (.m (.one .str)) [] (impl_sayTy_Fimpl_TySay_1 t11) fun (r12 : ByteArray) (m13 : Unit) =>
    oguard (decide (((x3.1 + 1) * 16) ≤ 140737488351232)) (
    olet (x3.2 ++ (((D.str r12) :: []) :: [])) fun (e14 : (List (List D))) =>
    impl_sayTy_Fimpl_TySay_1_j4v1 (w64 (x0 + (1 : Int))) x1 x2 ((x3.1 + 1), e14)))
    (ocall (.m (.one .str)) [] (impl_bracketed x3) fun (r15 : ByteArray) (m16 : Unit) =>
    some ((.d (.str r15)), [])) := (evI_eq ..).trans (by kernel_rfl)
-- a loop's head
theorem impl_sayTy_Fimpl_TySay_1_j4v1_eq (x0 : Int) (x1 : Sl) (x2 : Int) (x3 : Sl) : impl_sayTy_Fimpl_TySay_1_j4v1 x0 x1 x2 x3 =
  oite (decide (x0 < x2))
    (oat sh_Ty x1.1 x1.2 x0 fun (t17 : T_Ty) =>
    ocall (.m (.one .str)) [] (impl_sayTy_Fimpl_TySay_1 t17) fun (r18 : ByteArray) (m19 : Unit) =>
    oguard (decide (((x3.1 + 1) * 16) ≤ 140737488351232)) (
    olet (x3.2 ++ (((D.str r18) :: []) :: [])) fun (e20 : (List (List D))) =>
    impl_sayTy_Fimpl_TySay_1_j4v1 (w64 (x0 + (1 : Int))) x1 x2 ((x3.1 + 1), e20)))
    (ocall (.m (.one .str)) [] (impl_bracketed x3) fun (r21 : ByteArray) (m22 : Unit) =>
    some ((.d (.str r21)), [])) := (evI_eq ..).trans (by kernel_rfl)
noncomputable def laws_eqTyS_j1 (x0 : Int) (x1 : Sl) (x2 : Sl) : Res := (fun (p : Env × Mem) => evI cx 86 0 1 p.1 p.2) ([(5, (.d (.int .i64 x0))), (1, (.d (.sl false 3 x1.1 x1.2))), (0, (.d (.sl false 3 x2.1 x2.2)))], [])
theorem laws_eqTyS_eq (x0 : Sl) (x1 : Sl) : laws_eqTyS x0 x1 =
  oite (!(((x0.1 : Nat) : Int) == ((x1.1 : Nat) : Int)))
    (some ((.d (.bool false)), []))
    (laws_eqTyS_j1 (0 : Int) x1 x0) := (evF_eq ..).trans (by kernel_rfl)
-- a loop's head
theorem laws_eqTyS_j1_eq (x0 : Int) (x1 : Sl) (x2 : Sl) : laws_eqTyS_j1 x0 x1 x2 =
  oite (decide (x0 < ((x2.1 : Nat) : Int)))
    (oat sh_Ty x2.1 x2.2 x0 fun (t0 : T_Ty) =>
    oat sh_Ty x1.1 x1.2 x0 fun (t1 : T_Ty) =>
    ocall (.m (.one .bool)) [] (laws_eqTy t0 t1) fun (r2 : Bool) (m3 : Unit) =>
    oite (!r2)
      (some ((.d (.bool false)), []))
      (laws_eqTyS_j1 (w64 (x0 + (1 : Int))) x1 x2))
    (some ((.d (.bool true)), [])) := (evI_eq ..).trans (by kernel_rfl)
noncomputable def laws_markTyS_o_j1 (x0 : Int) (x1 : Int) (x2 : Sl) : Res := (fun (p : Env × Mem) => evI cx 87 1 1 p.1 p.2) ([(5, (.d (.int .i64 x0))), (0, (.own 0)), (1, (.d (.int .i64 x1)))], [(.lrow 3 x2.1 false x2.2)])
theorem laws_markTyS_o_eq (x0 : Int) (x1 : Sl) : laws_markTyS_o x0 x1 =
  laws_markTyS_o_j1 (0 : Int) x0 x1 := (evF_eq ..).trans (by kernel_rfl)
-- a loop's head
theorem laws_markTyS_o_j1_eq (x0 : Int) (x1 : Int) (x2 : Sl) : laws_markTyS_o_j1 x0 x1 x2 =
  oite (decide (x0 < ((x2.1 : Nat) : Int)))
    (oguard (decide (((0 : Int) ≤ x0) ∧ (x0 < ((x2.1 : Nat) : Int)))) (
    olet (List.set x2.2 (Int.toNat x0) (putD (List.getD x2.2 (Int.toNat x0) []) 0 [(D.int .i64 x1)])) fun (e0 : (List (List D))) =>
    oguard (decide (((0 : Int) ≤ x0) ∧ (x0 < ((x2.1 : Nat) : Int)))) (
    olet (List.set e0 (Int.toNat x0) (putD (List.getD e0 (Int.toNat x0) []) 1 [(D.int .i64 (w64 (x1 + (1 : Int))))])) fun (e1 : (List (List D))) =>
    oguard (decide (((0 : Int) ≤ x0) ∧ (x0 < ((x2.1 : Nat) : Int)))) (
    ocells [(.sl 3)] (List.take 1 (List.drop 2 (List.getD e1 (Int.toNat x0) []))) fun (t2 : (Sl × Unit)) =>
    ocall (.m (.one (.int .i64))) [(.lrow 3 false)] (laws_markTyS_o (w64 ((w64 (x1 + (1 : Int))) + (1 : Int))) t2.1) fun (r3 : Int) (m4 : (Sl × Unit)) =>
    laws_markTyS_o_j1 (w64 (x0 + (1 : Int))) r3 (x2.1, (List.set e1 (Int.toNat x0) (putD (List.getD e1 (Int.toNat x0) []) 2 [(D.sl false 3 m4.1.1 m4.1.2)])))))))
    (some ((.d (.int .i64 x1)), [(.lrow 3 x2.1 false x2.2)])) := (evI_eq ..).trans (by kernel_rfl)
noncomputable def spec_l3ok_j2 (x0 : Int) (x1 : Int) (x2 : Int) (x3 : Int) (x4 : Bool) (x5 : T_Ty) : Res := (fun (p : Env × Mem) => evI cx 69 0 2 p.1 p.2) ([(1, (.d (.int .i64 x0))), (2, (.ptr 0 0)), (6, (.d (.int .i64 x1))), (5, (.d (.int .i64 x2))), (13, (.d (.int .i64 x3))), (14, (.d (.bool x4)))], [(.box (LS.encs sh_Ty x5))])
noncomputable def spec_l3ok_j1 (x0 : Int) (x1 : Int) (x2 : Int) (x3 : T_Ty) : Res := (fun (p : Env × Mem) => evI cx 69 0 1 p.1 p.2) ([(1, (.d (.int .i64 x0))), (2, (.ptr 0 0)), (6, (.d (.int .i64 x1))), (5, (.d (.int .i64 x2)))], [(.box (LS.encs sh_Ty x3))])
noncomputable def spec_l3ok_j3 (x0 : Int) (x1 : Int) (x2 : Int) (x3 : Int) (x4 : Bool) (x5 : T_Ty) : Res := (fun (p : Env × Mem) => evI cx 69 0 3 p.1 p.2) ([(1, (.d (.int .i64 x0))), (2, (.ptr 0 0)), (6, (.d (.int .i64 x1))), (5, (.d (.int .i64 x2))), (13, (.d (.int .i64 x3))), (18, (.d (.bool x4)))], [(.box (LS.encs sh_Ty x5))])
noncomputable def spec_l3ok_j5 (x0 : Int) (x1 : Bool) (x2 : T_Ty) : Res := (fun (p : Env × Mem) => evI cx 69 0 5 p.1 p.2) ([(1, (.d (.int .i64 x0))), (2, (.ptr 0 0)), (47, (.d (.bool x1)))], [(.box (LS.encs sh_Ty x2))])
noncomputable def spec_l3ok_j4 (x0 : Int) (x1 : T_Ty) : Res := (fun (p : Env × Mem) => evI cx 69 0 4 p.1 p.2) ([(1, (.d (.int .i64 x0))), (2, (.ptr 0 0))], [(.box (LS.encs sh_Ty x1))])
noncomputable def spec_l3ok_j6 (x0 : Int) (x1 : Int) (x2 : Int) (x3 : T_Ty) : Res := (fun (p : Env × Mem) => evI cx 69 0 6 p.1 p.2) ([(8, (.d (.int .i64 x0))), (7, (.d (.int .i64 x1))), (1, (.d (.int .i64 x2))), (2, (.ptr 0 0))], [(.box (LS.encs sh_Ty x3))])
theorem spec_l3ok_eq (x0 : T_Ty) (x1 : Int) : spec_l3ok x0 x1 =
  oite (decide (x1 > (10 : Int)))
    (some ((.d (.int .i64 (-1 : Int))), []))
    (oite (x0.1 == (0 : Int))
      (spec_l3ok_j2 x1 (0 : Int) (0 : Int) x0.1 (x0.1 == (0 : Int)) x0)
      (oite (x0.1 == (1 : Int))
        (spec_l3ok_j2 x1 (0 : Int) (0 : Int) x0.1 (x0.1 == (1 : Int)) x0)
        (spec_l3ok_j2 x1 (0 : Int) (0 : Int) x0.1 (x0.1 == (2 : Int)) x0))) := (evF_eq ..).trans (by kernel_rfl)
theorem spec_l3ok_j2_eq (x0 : Int) (x1 : Int) (x2 : Int) (x3 : Int) (x4 : Bool) (x5 : T_Ty) : spec_l3ok_j2 x0 x1 x2 x3 x4 x5 =
  oite x4
    (spec_l3ok_j1 x0 x1 x2 x5)
    (oite (x3 == (3 : Int))
      (spec_l3ok_j3 x0 x1 x2 x3 (x3 == (3 : Int)) x5)
      (spec_l3ok_j3 x0 x1 x2 x3 (x3 == (4 : Int)) x5)) := (evI_eq ..).trans (by kernel_rfl)
theorem spec_l3ok_j1_eq (x0 : Int) (x1 : Int) (x2 : Int) (x3 : T_Ty) : spec_l3ok_j1 x0 x1 x2 x3 =
  oite (!(((x3.2.2.1.1 : Nat) : Int) == x2))
    (spec_l3ok_j5 x0 true x3)
    (oite (decide (x3.2.1 < (0 : Int)))
      (spec_l3ok_j5 x0 true x3)
      (spec_l3ok_j5 x0 (decide (x3.2.1 > x1)) x3)) := (evI_eq ..).trans (by kernel_rfl)
theorem spec_l3ok_j3_eq (x0 : Int) (x1 : Int) (x2 : Int) (x3 : Int) (x4 : Bool) (x5 : T_Ty) : spec_l3ok_j3 x0 x1 x2 x3 x4 x5 =
  oite x4
    (spec_l3ok_j1 x0 x1 (2 : Int) x5)
    (oite (x3 == (5 : Int))
      (spec_l3ok_j1 x0 x1 (1 : Int) x5)
      (oite (x3 == (6 : Int))
        (oite (decide (((x5.2.2.1.1 : Nat) : Int) > (3 : Int)))
          (some ((.d (.int .i64 (-1 : Int))), []))
          (spec_l3ok_j1 x0 (19 : Int) ((x5.2.2.1.1 : Nat) : Int) x5))
        (oite (x3 == (7 : Int))
          (spec_l3ok_j1 x0 (99999 : Int) x2 x5)
          (some ((.d (.int .i64 (-1 : Int))), []))))) := (evI_eq ..).trans (by kernel_rfl)
theorem spec_l3ok_j5_eq (x0 : Int) (x1 : Bool) (x2 : T_Ty) : spec_l3ok_j5 x0 x1 x2 =
  oite x1
    (some ((.d (.int .i64 (-1 : Int))), []))
    (spec_l3ok_j4 x0 x2) := (evI_eq ..).trans (by kernel_rfl)
theorem spec_l3ok_j4_eq (x0 : Int) (x1 : T_Ty) : spec_l3ok_j4 x0 x1 =
  spec_l3ok_j6 (0 : Int) (1 : Int) x0 x1 := (evI_eq ..).trans (by kernel_rfl)
-- a loop's head
theorem spec_l3ok_j6_eq (x0 : Int) (x1 : Int) (x2 : Int) (x3 : T_Ty) : spec_l3ok_j6 x0 x1 x2 x3 =
  oite (decide (x0 < ((x3.2.2.1.1 : Nat) : Int)))
    (oat sh_Ty x3.2.2.1.1 x3.2.2.1.2 x0 fun (t0 : T_Ty) =>
    ocall (.m (.one (.int .i64))) [] (spec_l3ok t0 (w64 (x2 + (1 : Int)))) fun (r1 : Int) (m2 : Unit) =>
    oite (decide (r1 < (0 : Int)))
      (some ((.d (.int .i64 (-1 : Int))), []))
      (oite (decide ((w64 (x1 + r1)) > (60 : Int)))
        (some ((.d (.int .i64 (-1 : Int))), []))
        (spec_l3ok_j6 (w64 (x0 + (1 : Int))) (w64 (x1 + r1)) x2 x3)))
    (some ((.d (.int .i64 x1)), [])) := (evI_eq ..).trans (by kernel_rfl)
theorem spec_l3digits_eq (x0 : Int) : spec_l3digits x0 =
  oite (decide (x0 < (0 : Int)))
    (ocall (.m (.one (.own 0))) [(.row 1 false true)] (spec_l3tens (IntKind.wrap .u64 ((0 : Int) - (IntKind.wrap .u64 x0)))) fun (r0 : Unit) (m1 : (Sl × Unit)) =>
    oguard (decide (((1 + m1.1.1) * 1) ≤ 140737488351232)) (
    olet ((((D.int .u8 (45 : Int)) :: []) :: []) ++ m1.1.2) fun (e2 : (List (List D))) =>
    some ((.d (.sl false 1 (1 + m1.1.1) e2)), [])))
    (ocall (.m (.one (.own 0))) [(.row 1 false true)] (spec_l3tens (IntKind.wrap .u64 x0)) fun (r3 : Unit) (m4 : (Sl × Unit)) =>
    some ((.d (.sl false 1 m4.1.1 m4.1.2)), [])) := (evF_eq ..).trans (by kernel_rfl)
noncomputable def impl_measure_j2 (x0 : Int) (x1 : Bool) (x2 : T_Ty) : Res := (fun (p : Env × Mem) => evI cx 71 0 2 p.1 p.2) ([(1, (.d (.int .i64 x0))), (2, (.ptr 0 0)), (14, (.d (.bool x1)))], [(.box (LS.encs sh_Ty x2))])
noncomputable def impl_measure_j1 (x0 : Int) (x1 : T_Ty) : Res := (fun (p : Env × Mem) => evI cx 71 0 1 p.1 p.2) ([(1, (.d (.int .i64 x0))), (2, (.ptr 0 0))], [(.box (LS.encs sh_Ty x1))])
noncomputable def impl_measure_j3 (x0 : Int) (x1 : Int) (x2 : Int) (x3 : Sl) (x4 : Int) : Res := (fun (p : Env × Mem) => evI cx 71 0 3 p.1 p.2) ([(18, (.d (.int .i64 x0))), (1, (.d (.int .i64 x1))), (5, (.d (.int .i64 x2))), (16, (.d (.sl false 3 x3.1 x3.2))), (17, (.d (.int .i64 x4)))], [])
theorem impl_measure_eq (x0 : T_Ty) (x1 : Int) : impl_measure x0 x1 =
  oite (decide (x1 > (10 : Int)))
    (impl_measure_j2 x1 true x0)
    (ocall (.m (.one .bool)) [] (impl_headOk x0) fun (r0 : Bool) (m1 : Unit) =>
    impl_measure_j2 x1 (!r0) x0) := (evF_eq ..).trans (by kernel_rfl)
theorem impl_measure_j2_eq (x0 : Int) (x1 : Bool) (x2 : T_Ty) : impl_measure_j2 x0 x1 x2 =
  oite x1
    (some ((.d (.int .i64 (61 : Int))), []))
    (impl_measure_j1 x0 x2) := (evI_eq ..).trans (by kernel_rfl)
theorem impl_measure_j1_eq (x0 : Int) (x1 : T_Ty) : impl_measure_j1 x0 x1 =
  impl_measure_j3 (0 : Int) x0 (1 : Int) x1.2.2.1 ((x1.2.2.1.1 : Nat) : Int) := (evI_eq ..).trans (by kernel_rfl)
-- a loop's head
theorem impl_measure_j3_eq (x0 : Int) (x1 : Int) (x2 : Int) (x3 : Sl) (x4 : Int) : impl_measure_j3 x0 x1 x2 x3 x4 =
  oite (decide (x0 < x4))
    (oat sh_Ty x3.1 x3.2 x0 fun (t2 : T_Ty) =>
    ocall (.m (.one (.int .i64))) [] (impl_measure t2 (w64 (x1 + (1 : Int)))) fun (r3 : Int) (m4 : Unit) =>
    oite (decide ((w64 (x2 + r3)) > (60 : Int)))
      (some ((.d (.int .i64 (61 : Int))), []))
      (impl_measure_j3 (w64 (x0 + (1 : Int))) x1 (w64 (x2 + r3)) x3 x4))
    (some ((.d (.int .i64 x2)), [])) := (evI_eq ..).trans (by kernel_rfl)
theorem impl_wordOf_eq (x0 : Int) : impl_wordOf x0 =
  oguard (decide (((0 : Int) ≤ x0) ∧ (x0 < (8 : Int)))) (
  ocells [.str] (List.take 1 (List.drop 0 (List.getD (((D.str (ByteArray.mk (Array.mk (117 :: (110 :: (105 :: (116 :: []))))))) :: []) :: (((D.str (ByteArray.mk (Array.mk (105 :: (110 :: (116 :: [])))))) :: []) :: (((D.str (ByteArray.mk (Array.mk (116 :: (101 :: (120 :: (116 :: []))))))) :: []) :: (((D.str (ByteArray.mk (Array.mk (112 :: (97 :: (105 :: (114 :: []))))))) :: []) :: (((D.str (ByteArray.mk (Array.mk (102 :: (117 :: (110 :: [])))))) :: []) :: (((D.str (ByteArray.mk (Array.mk (114 :: (101 :: (102 :: [])))))) :: []) :: (((D.str (ByteArray.mk (Array.mk (100 :: (97 :: (116 :: (97 :: []))))))) :: []) :: (((D.str (ByteArray.mk (Array.mk (39 :: [])))) :: []) :: [])))))))) (Int.toNat x0) []))) fun (t0 : (ByteArray × Unit)) =>
  some ((.d (.str t0.1)), [])) := (evF_eq ..).trans (by kernel_rfl)
theorem strconv_Itoa_eq (x0 : Int) : strconv_Itoa x0 =
  oguard (decide (((-9223372036854775808 : Int) ≤ x0) ∧ (x0 ≤ (9223372036854775807 : Int)))) (
  some ((.d (.str (itoaB x0))), [])) := (evF_eq ..).trans (by kernel_rfl)
theorem impl_TySay_1_eq (x0 : Int) : impl_TySay_1 x0 =
  ocall (.m (.one .str)) [] (impl_wordOf (6 : Int)) fun (r0 : ByteArray) (m1 : Unit) =>
  oguard (decide (((ByteArray.size r0) + 1) ≤ 140737488351232)) (
  ocall (.m (.one .str)) [] (strconv_Itoa x0) fun (r2 : ByteArray) (m3 : Unit) =>
  oguard (decide (((ByteArray.size (r0 ++ (ByteArray.mk (Array.mk (32 :: []))))) + (ByteArray.size r2)) ≤ 140737488351232)) (
  some ((.d (.str ((r0 ++ (ByteArray.mk (Array.mk (32 :: [])))) ++ r2))), []))) := (evF_eq ..).trans (by kernel_rfl)
noncomputable def impl_bracketed_j1 (x0 : Int) (x1 : ByteArray) (x2 : Sl) (x3 : Int) : Res := (fun (p : Env × Mem) => evI cx 126 0 1 p.1 p.2) ([(8, (.d (.int .i64 x0))), (3, (.d (.str x1))), (6, (.d (.sl false 1 x2.1 x2.2))), (7, (.d (.int .i64 x3)))], [])
noncomputable def impl_bracketed_j2 (x0 : Sl) (x1 : Int) (x2 : Int) (x3 : ByteArray) (x4 : ByteArray) : Res := (fun (p : Env × Mem) => evI cx 126 0 2 p.1 p.2) ([(6, (.d (.sl false 1 x0.1 x0.2))), (7, (.d (.int .i64 x1))), (8, (.d (.int .i64 x2))), (5, (.d (.str x3))), (3, (.d (.str x4)))], [])
theorem impl_bracketed_eq (x0 : Sl) : impl_bracketed x0 =
  impl_bracketed_j1 (0 : Int) (ByteArray.mk (Array.mk (40 :: []))) x0 ((x0.1 : Nat) : Int) := (evF_eq ..).trans (by kernel_rfl)
-- a loop's head
theorem impl_bracketed_j1_eq (x0 : Int) (x1 : ByteArray) (x2 : Sl) (x3 : Int) : impl_bracketed_j1 x0 x1 x2 x3 =
  oite (decide (x0 < x3))
    (oat [.str] x2.1 x2.2 x0 fun (t0 : (ByteArray × Unit)) =>
    oite (decide (x0 > (0 : Int)))
      (oguard (decide (((ByteArray.size x1) + 1) ≤ 140737488351232)) (
      impl_bracketed_j2 x2 x3 x0 t0.1 (x1 ++ (ByteArray.mk (Array.mk (32 :: []))))))
      (impl_bracketed_j2 x2 x3 x0 t0.1 x1))
    (oguard (decide (((ByteArray.size x1) + 1) ≤ 140737488351232)) (
    some ((.d (.str (x1 ++ (ByteArray.mk (Array.mk (41 :: [])))))), []))) := (evI_eq ..).trans (by kernel_rfl)
theorem impl_bracketed_j2_eq (x0 : Sl) (x1 : Int) (x2 : Int) (x3 : ByteArray) (x4 : ByteArray) : impl_bracketed_j2 x0 x1 x2 x3 x4 =
  oguard (decide (((ByteArray.size x4) + (ByteArray.size x3)) ≤ 140737488351232)) (
  impl_bracketed_j1 (w64 (x2 + (1 : Int))) (x4 ++ x3) x0 x1) := (evI_eq ..).trans (by kernel_rfl)
theorem spec_l3tens_eq (x0 : Int) : spec_l3tens x0 =
  oite (decide (x0 < (10 : Int)))
    (some ((.own 0), [(.row 1 1 false false (((D.int .u8 (IntKind.wrap .u8 (IntKind.wrap .u64 ((48 : Int) + x0)))) :: []) :: []))]))
    (oguard true (
    ocall (.m (.one (.own 0))) [(.row 1 false true)] (spec_l3tens (IntKind.wrap .u64 (Int.tdiv x0 (10 : Int)))) fun (r0 : Unit) (m1 : (Sl × Unit)) =>
    oguard true (
    oguard (decide (((m1.1.1 + 1) * 1) ≤ 140737488351232)) (
    olet (m1.1.2 ++ (((D.int .u8 (IntKind.wrap .u8 (IntKind.wrap .u64 ((48 : Int) + (Int.tmod x0 (10 : Int)))))) :: []) :: [])) fun (e2 : (List (List D))) =>
    some ((.own 0), [(.row 1 (m1.1.1 + 1) false true e2)]))))) := (evF_eq ..).trans (by kernel_rfl)
noncomputable def impl_headOk_j2 (x0 : Bool) (x1 : T_Ty) : Res := (fun (p : Env × Mem) => evI cx 123 0 2 p.1 p.2) ([(1, (.ptr 0 0)), (25, (.d (.bool x0)))], [(.box (LS.encs sh_Ty x1))])
noncomputable def impl_headOk_j1 (x0 : T_Ty) : Res := (fun (p : Env × Mem) => evI cx 123 0 1 p.1 p.2) ([(1, (.ptr 0 0))], [(.box (LS.encs sh_Ty x0))])
theorem impl_headOk_eq (x0 : T_Ty) : impl_headOk x0 =
  ocall (.m (.one (.int .i64))) [] (impl_argsOf x0.1) fun (r0 : Int) (m1 : Unit) =>
  oite (r0 == (-1 : Int))
    (oite (decide (((x0.2.2.1.1 : Nat) : Int) > (3 : Int)))
      (impl_headOk_j2 true x0)
      (oite (!(r0 == (-1 : Int)))
        (impl_headOk_j2 (!(r0 == ((x0.2.2.1.1 : Nat) : Int))) x0)
        (impl_headOk_j2 false x0)))
    (oite (!(r0 == (-1 : Int)))
      (impl_headOk_j2 (!(r0 == ((x0.2.2.1.1 : Nat) : Int))) x0)
      (impl_headOk_j2 false x0)) := (evF_eq ..).trans (by kernel_rfl)
theorem impl_headOk_j2_eq (x0 : Bool) (x1 : T_Ty) : impl_headOk_j2 x0 x1 =
  oite x0
    (some ((.d (.bool false)), []))
    (impl_headOk_j1 x1) := (evI_eq ..).trans (by kernel_rfl)
theorem impl_headOk_j1_eq (x0 : T_Ty) : impl_headOk_j1 x0 =
  oite (x0.1 == (6 : Int))
    (ocall (.m (.one .bool)) [] (impl_within x0.2.1 (0 : Int) (19 : Int)) fun (r2 : Bool) (m3 : Unit) =>
    some ((.d (.bool r2)), []))
    (oite (x0.1 == (7 : Int))
      (ocall (.m (.one .bool)) [] (impl_within x0.2.1 (0 : Int) (99999 : Int)) fun (r4 : Bool) (m5 : Unit) =>
      some ((.d (.bool r4)), []))
      (some ((.d (.bool (x0.2.1 == (0 : Int)))), []))) := (evI_eq ..).trans (by kernel_rfl)
noncomputable def impl_argsOf_j1 (x0 : Int) (x1 : Bool) : Res := (fun (p : Env × Mem) => evI cx 121 0 1 p.1 p.2) ([(3, (.d (.int .i64 x0))), (4, (.d (.bool x1)))], [])
noncomputable def impl_argsOf_j2 (x0 : Int) (x1 : Bool) : Res := (fun (p : Env × Mem) => evI cx 121 0 2 p.1 p.2) ([(3, (.d (.int .i64 x0))), (9, (.d (.bool x1)))], [])
theorem impl_argsOf_eq (x0 : Int) : impl_argsOf x0 =
  oite (x0 == (0 : Int))
    (impl_argsOf_j1 x0 (x0 == (0 : Int)))
    (oite (x0 == (1 : Int))
      (impl_argsOf_j1 x0 (x0 == (1 : Int)))
      (oite (x0 == (2 : Int))
        (impl_argsOf_j1 x0 (x0 == (2 : Int)))
        (impl_argsOf_j1 x0 (x0 == (7 : Int))))) := (evF_eq ..).trans (by kernel_rfl)
theorem impl_argsOf_j1_eq (x0 : Int) (x1 : Bool) : impl_argsOf_j1 x0 x1 =
  oite x1
    (some ((.d (.int .i64 (0 : Int))), []))
    (oite (x0 == (3 : Int))
      (impl_argsOf_j2 x0 (x0 == (3 : Int)))
      (impl_argsOf_j2 x0 (x0 == (4 : Int)))) := (evI_eq ..).trans (by kernel_rfl)
theorem impl_argsOf_j2_eq (x0 : Int) (x1 : Bool) : impl_argsOf_j2 x0 x1 =
  oite x1
    (some ((.d (.int .i64 (2 : Int))), []))
    (oite (x0 == (5 : Int))
      (some ((.d (.int .i64 (1 : Int))), []))
      (oite (x0 == (6 : Int))
        (some ((.d (.int .i64 (-1 : Int))), []))
        (some ((.d (.int .i64 (-2 : Int))), [])))) := (evI_eq ..).trans (by kernel_rfl)
theorem impl_within_eq (x0 : Int) (x1 : Int) (x2 : Int) : impl_within x0 x1 x2 =
  oite (decide (x0 ≥ x1))
    (some ((.d (.bool (decide (x0 ≤ x2)))), []))
    (some ((.d (.bool false)), [])) := (evF_eq ..).trans (by kernel_rfl)
theorem ty4 : TIok Tryd.prog 4 ⟨1, 1, false, .bool, [.d (.bool false)], [.bool]⟩ := ⟨Tryd.sizeOf4, Tryd.isAgg4, Tryd.runUnderlying4, ⟨_, Tryd.typeInfo4, rfl⟩, by decide, by decide, ⟨_, Tryd.zeroValue4, rfl, fun w C ι => z_cons z_bool (z_end)⟩⟩
theorem ty3 : TIok Tryd.prog 3 ⟨1, 8, false, (.int .i64), [.d (.int .i64 0)], [.int .i64]⟩ := ⟨Tryd.sizeOf3, Tryd.isAgg3, Tryd.runUnderlying3, ⟨_, Tryd.typeInfo3, rfl⟩, by decide, by decide, ⟨_, Tryd.zeroValue3, rfl, fun w C ι => z_cons z_int (z_end)⟩⟩
theorem ty22 : TIok Tryd.prog 22 ⟨1, 24, false, (.sl 76), [.d (.sl true 3 0 [])], [.sl 3]⟩ := ⟨Tryd.sizeOf22, Tryd.isAgg22, Tryd.runUnderlying22, ⟨_, Tryd.typeInfo22, rfl⟩, by decide, by decide, ⟨_, Tryd.zeroValue22, rfl, fun w C ι => z_cons z_nil (z_end)⟩⟩
theorem ty76 : TIok Tryd.prog 76 ⟨3, 56, true, (.st [(0, 29), (1, 3), (2, 74)]), [.d (.sl true 1 0 []), .d (.int .i64 0), .d (.sl true 2 0 [])], [.sl 1, .int .i64, .sl 2]⟩ := ⟨Tryd.sizeOf76, Tryd.isAgg76, ⟨_, Tryd.runUnderlying76, rfl, f_cons Tryd.sizeOf29 (f_cons Tryd.sizeOf3 (f_cons Tryd.sizeOf74 (f_end)))⟩, ⟨_, Tryd.typeInfo76, rfl⟩, by decide, by decide, ⟨_, Tryd.zeroValue76, rfl, fun w C ι => z_cons z_nil (z_cons z_int (z_cons z_nil (z_end)))⟩⟩
theorem ty29 : TIok Tryd.prog 29 ⟨1, 24, false, (.sl 5), [.d (.sl true 1 0 [])], [.sl 1]⟩ := ⟨Tryd.sizeOf29, Tryd.isAgg29, Tryd.runUnderlying29, ⟨_, Tryd.typeInfo29, rfl⟩, by decide, by decide, ⟨_, Tryd.zeroValue29, rfl, fun w C ι => z_cons z_nil (z_end)⟩⟩
theorem ty5 : TIok Tryd.prog 5 ⟨1, 1, false, (.int .u8), [.d (.int .u8 0)], [.int .u8]⟩ := ⟨Tryd.sizeOf5, Tryd.isAgg5, Tryd.runUnderlying5, ⟨_, Tryd.typeInfo5, rfl⟩, by decide, by decide, ⟨_, Tryd.zeroValue5, rfl, fun w C ι => z_cons z_int (z_end)⟩⟩
theorem ty74 : TIok Tryd.prog 74 ⟨1, 24, false, (.sl 165), [.d (.sl true 2 0 [])], [.sl 2]⟩ := ⟨Tryd.sizeOf74, Tryd.isAgg74, Tryd.runUnderlying74, ⟨_, Tryd.typeInfo74, rfl⟩, by decide, by decide, ⟨_, Tryd.zeroValue74, rfl, fun w C ι => z_cons z_nil (z_end)⟩⟩
theorem ty165 : TIok Tryd.prog 165 ⟨2, 48, true, (.st [(0, 29), (1, 59)]), [.d (.sl true 1 0 []), .d (.sl true 3 0 [])], [.sl 1, .sl 3]⟩ := ⟨Tryd.sizeOf165, Tryd.isAgg165, ⟨_, Tryd.runUnderlying165, rfl, f_cons Tryd.sizeOf29 (f_cons Tryd.sizeOf59 (f_end))⟩, ⟨_, Tryd.typeInfo165, rfl⟩, by decide, by decide, ⟨_, Tryd.zeroValue165, rfl, fun w C ι => z_cons z_nil (z_cons z_nil (z_end))⟩⟩
theorem ty59 : TIok Tryd.prog 59 ⟨1, 24, false, (.sl 61), [.d (.sl true 3 0 [])], [.sl 3]⟩ := ⟨Tryd.sizeOf59, Tryd.isAgg59, Tryd.runUnderlying59, ⟨_, Tryd.typeInfo59, rfl⟩, by decide, by decide, ⟨_, Tryd.zeroValue59, rfl, fun w C ι => z_cons z_nil (z_end)⟩⟩
theorem ty61 : TIok Tryd.prog 61 ⟨3, 40, true, (.st [(0, 3), (1, 3), (2, 59)]), [.d (.int .i64 0), .d (.int .i64 0), .d (.sl true 3 0 [])], [.int .i64, .int .i64, .sl 3]⟩ := ⟨Tryd.sizeOf61, Tryd.isAgg61, ⟨_, Tryd.runUnderlying61, rfl, f_cons Tryd.sizeOf3 (f_cons Tryd.sizeOf3 (f_cons Tryd.sizeOf59 (f_end)))⟩, ⟨_, Tryd.typeInfo61, rfl⟩, by decide, by decide, ⟨_, Tryd.zeroValue61, rfl, fun w C ι => z_cons z_int (z_cons z_int (z_cons z_nil (z_end)))⟩⟩
theorem ty25 : TIok Tryd.prog 25 ⟨1, 24, false, (.sl 79), [.d (.sl true 3 0 [])], [.sl 3]⟩ := ⟨Tryd.sizeOf25, Tryd.isAgg25, Tryd.runUnderlying25, ⟨_, Tryd.typeInfo25, rfl⟩, by decide, by decide, ⟨_, Tryd.zeroValue25, rfl, fun w C ι => z_cons z_nil (z_end)⟩⟩
theorem ty79 : TIok Tryd.prog 79 ⟨3, 56, true, (.st [(0, 29), (1, 3), (2, 77)]), [.d (.sl true 1 0 []), .d (.int .i64 0), .d (.sl true 2 0 [])], [.sl 1, .int .i64, .sl 2]⟩ := ⟨Tryd.sizeOf79, Tryd.isAgg79, ⟨_, Tryd.runUnderlying79, rfl, f_cons Tryd.sizeOf29 (f_cons Tryd.sizeOf3 (f_cons Tryd.sizeOf77 (f_end)))⟩, ⟨_, Tryd.typeInfo79, rfl⟩, by decide, by decide, ⟨_, Tryd.zeroValue79, rfl, fun w C ι => z_cons z_nil (z_cons z_int (z_cons z_nil (z_end)))⟩⟩
theorem ty77 : TIok Tryd.prog 77 ⟨1, 24, false, (.sl 82), [.d (.sl true 2 0 [])], [.sl 2]⟩ := ⟨Tryd.sizeOf77, Tryd.isAgg77, Tryd.runUnderlying77, ⟨_, Tryd.typeInfo77, rfl⟩, by decide, by decide, ⟨_, Tryd.zeroValue77, rfl, fun w C ι => z_cons z_nil (z_end)⟩⟩
theorem ty82 : TIok Tryd.prog 82 ⟨2, 48, true, (.st [(0, 29), (1, 43)]), [.d (.sl true 1 0 []), .d (.sl true 3 0 [])], [.sl 1, .sl 3]⟩ := ⟨Tryd.sizeOf82, Tryd.isAgg82, ⟨_, Tryd.runUnderlying82, rfl, f_cons Tryd.sizeOf29 (f_cons Tryd.sizeOf43 (f_end))⟩, ⟨_, Tryd.typeInfo82, rfl⟩, by decide, by decide, ⟨_, Tryd.zeroValue82, rfl, fun w C ι => z_cons z_nil (z_cons z_nil (z_end))⟩⟩
theorem ty43 : TIok Tryd.prog 43 ⟨1, 24, false, (.sl 45), [.d (.sl true 3 0 [])], [.sl 3]⟩ := ⟨Tryd.sizeOf43, Tryd.isAgg43, Tryd.runUnderlying43, ⟨_, Tryd.typeInfo43, rfl⟩, by decide, by decide, ⟨_, Tryd.zeroValue43, rfl, fun w C ι => z_cons z_nil (z_end)⟩⟩
theorem ty45 : TIok Tryd.prog 45 ⟨3, 40, true, (.st [(0, 3), (1, 3), (2, 43)]), [.d (.int .i64 0), .d (.int .i64 0), .d (.sl true 3 0 [])], [.int .i64, .int .i64, .sl 3]⟩ := ⟨Tryd.sizeOf45, Tryd.isAgg45, ⟨_, Tryd.runUnderlying45, rfl, f_cons Tryd.sizeOf3 (f_cons Tryd.sizeOf3 (f_cons Tryd.sizeOf43 (f_end)))⟩, ⟨_, Tryd.typeInfo45, rfl⟩, by decide, by decide, ⟨_, Tryd.zeroValue45, rfl, fun w C ι => z_cons z_int (z_cons z_int (z_cons z_nil (z_end)))⟩⟩
theorem ty33 : TIok Tryd.prog 33 ⟨7, 136, true, (.st [(0, 3), (1, 3), (2, 29), (3, 29), (4, 29), (5, 30), (6, 31)]), [.d (.int .i64 0), .d (.int .i64 0), .d (.sl true 1 0 []), .d (.sl true 1 0 []), .d (.sl true 1 0 []), .d (.sl true 7 0 []), .d (.sl true 9 0 [])], [.int .i64, .int .i64, .sl 1, .sl 1, .sl 1, .sl 7, .sl 9]⟩ := ⟨Tryd.sizeOf33, Tryd.isAgg33, ⟨_, Tryd.runUnderlying33, rfl, f_cons Tryd.sizeOf3 (f_cons Tryd.sizeOf3 (f_cons Tryd.sizeOf29 (f_cons Tryd.sizeOf29 (f_cons Tryd.sizeOf29 (f_cons Tryd.sizeOf30 (f_cons Tryd.sizeOf31 (f_end)))))))⟩, ⟨_, Tryd.typeInfo33, rfl⟩, by decide, by decide, ⟨_, Tryd.zeroValue33, rfl, fun w C ι => z_cons z_int (z_cons z_int (z_cons z_nil (z_cons z_nil (z_cons z_nil (z_cons z_nil (z_cons z_nil (z_end)))))))⟩⟩
theorem ty30 : TIok Tryd.prog 30 ⟨1, 24, false, (.sl 33), [.d (.sl true 7 0 [])], [.sl 7]⟩ := ⟨Tryd.sizeOf30, Tryd.isAgg30, Tryd.runUnderlying30, ⟨_, Tryd.typeInfo30, rfl⟩, by decide, by decide, ⟨_, Tryd.zeroValue30, rfl, fun w C ι => z_cons z_nil (z_end)⟩⟩
theorem ty31 : TIok Tryd.prog 31 ⟨1, 24, false, (.sl 137), [.d (.sl true 9 0 [])], [.sl 9]⟩ := ⟨Tryd.sizeOf31, Tryd.isAgg31, Tryd.runUnderlying31, ⟨_, Tryd.typeInfo31, rfl⟩, by decide, by decide, ⟨_, Tryd.zeroValue31, rfl, fun w C ι => z_cons z_nil (z_end)⟩⟩
theorem ty137 : TIok Tryd.prog 137 ⟨9, 184, true, (.st [(0, 29), (1, 135), (2, 33)]), [.d (.sl true 1 0 []), .d (.sl true 1 0 []), .d (.int .i64 0), .d (.int .i64 0), .d (.sl true 1 0 []), .d (.sl true 1 0 []), .d (.sl true 1 0 []), .d (.sl true 7 0 []), .d (.sl true 9 0 [])], [.sl 1, .sl 1, .int .i64, .int .i64, .sl 1, .sl 1, .sl 1, .sl 7, .sl 9]⟩ := ⟨Tryd.sizeOf137, Tryd.isAgg137, ⟨_, Tryd.runUnderlying137, rfl, f_cons Tryd.sizeOf29 (f_cons Tryd.sizeOf135 (f_cons Tryd.sizeOf33 (f_end)))⟩, ⟨_, Tryd.typeInfo137, rfl⟩, by decide, by decide, ⟨_, Tryd.zeroValue137, rfl, fun w C ι => z_cons z_nil (z_cons z_nil (z_cons z_int (z_cons z_int (z_cons z_nil (z_cons z_nil (z_cons z_nil (z_cons z_nil (z_cons z_nil (z_end)))))))))⟩⟩
theorem ty135 : TIok Tryd.prog 135 ⟨1, 24, false, (.sl 29), [.d (.sl true 1 0 [])], [.sl 1]⟩ := ⟨Tryd.sizeOf135, Tryd.isAgg135, Tryd.runUnderlying135, ⟨_, Tryd.typeInfo135, rfl⟩, by decide, by decide, ⟨_, Tryd.zeroValue135, rfl, fun w C ι => z_cons z_nil (z_end)⟩⟩
theorem ty39 : TIok Tryd.prog 39 ⟨7, 136, true, (.st [(0, 3), (1, 3), (2, 29), (3, 29), (4, 29), (5, 36), (6, 37)]), [.d (.int .i64 0), .d (.int .i64 0), .d (.sl true 1 0 []), .d (.sl true 1 0 []), .d (.sl true 1 0 []), .d (.sl true 7 0 []), .d (.sl true 9 0 [])], [.int .i64, .int .i64, .sl 1, .sl 1, .sl 1, .sl 7, .sl 9]⟩ := ⟨Tryd.sizeOf39, Tryd.isAgg39, ⟨_, Tryd.runUnderlying39, rfl, f_cons Tryd.sizeOf3 (f_cons Tryd.sizeOf3 (f_cons Tryd.sizeOf29 (f_cons Tryd.sizeOf29 (f_cons Tryd.sizeOf29 (f_cons Tryd.sizeOf36 (f_cons Tryd.sizeOf37 (f_end)))))))⟩, ⟨_, Tryd.typeInfo39, rfl⟩, by decide, by decide, ⟨_, Tryd.zeroValue39, rfl, fun w C ι => z_cons z_int (z_cons z_int (z_cons z_nil (z_cons z_nil (z_cons z_nil (z_cons z_nil (z_cons z_nil (z_end)))))))⟩⟩
theorem ty36 : TIok Tryd.prog 36 ⟨1, 24, false, (.sl 39), [.d (.sl true 7 0 [])], [.sl 7]⟩ := ⟨Tryd.sizeOf36, Tryd.isAgg36, Tryd.runUnderlying36, ⟨_, Tryd.typeInfo36, rfl⟩, by decide, by decide, ⟨_, Tryd.zeroValue36, rfl, fun w C ι => z_cons z_nil (z_end)⟩⟩
theorem ty37 : TIok Tryd.prog 37 ⟨1, 24, false, (.sl 143), [.d (.sl true 9 0 [])], [.sl 9]⟩ := ⟨Tryd.sizeOf37, Tryd.isAgg37, Tryd.runUnderlying37, ⟨_, Tryd.typeInfo37, rfl⟩, by decide, by decide, ⟨_, Tryd.zeroValue37, rfl, fun w C ι => z_cons z_nil (z_end)⟩⟩
theorem ty143 : TIok Tryd.prog 143 ⟨9, 184, true, (.st [(0, 29), (1, 135), (2, 39)]), [.d (.sl true 1 0 []), .d (.sl true 1 0 []), .d (.int .i64 0), .d (.int .i64 0), .d (.sl true 1 0 []), .d (.sl true 1 0 []), .d (.sl true 1 0 []), .d (.sl true 7 0 []), .d (.sl true 9 0 [])], [.sl 1, .sl 1, .int .i64, .int .i64, .sl 1, .sl 1, .sl 1, .sl 7, .sl 9]⟩ := ⟨Tryd.sizeOf143, Tryd.isAgg143, ⟨_, Tryd.runUnderlying143, rfl, f_cons Tryd.sizeOf29 (f_cons Tryd.sizeOf135 (f_cons Tryd.sizeOf39 (f_end)))⟩, ⟨_, Tryd.typeInfo143, rfl⟩, by decide, by decide, ⟨_, Tryd.zeroValue143, rfl, fun w C ι => z_cons z_nil (z_cons z_nil (z_cons z_int (z_cons z_int (z_cons z_nil (z_cons z_nil (z_cons z_nil (z_cons z_nil (z_cons z_nil (z_end)))))))))⟩⟩
theorem ty67 : TIok Tryd.prog 67 ⟨1, 24, false, (.sl 120), [.d (.sl true 4 0 [])], [.sl 4]⟩ := ⟨Tryd.sizeOf67, Tryd.isAgg67, Tryd.runUnderlying67, ⟨_, Tryd.typeInfo67, rfl⟩, by decide, by decide, ⟨_, Tryd.zeroValue67, rfl, fun w C ι => z_cons z_nil (z_end)⟩⟩
theorem ty120 : TIok Tryd.prog 120 ⟨4, 48, true, (.st [(0, 3), (1, 3), (2, 3), (3, 29)]), [.d (.int .i64 0), .d (.int .i64 0), .d (.int .i64 0), .d (.sl true 1 0 [])], [.int .i64, .int .i64, .int .i64, .sl 1]⟩ := ⟨Tryd.sizeOf120, Tryd.isAgg120, ⟨_, Tryd.runUnderlying120, rfl, f_cons Tryd.sizeOf3 (f_cons Tryd.sizeOf3 (f_cons Tryd.sizeOf3 (f_cons Tryd.sizeOf29 (f_end))))⟩, ⟨_, Tryd.typeInfo120, rfl⟩, by decide, by decide, ⟨_, Tryd.zeroValue120, rfl, fun w C ι => z_cons z_int (z_cons z_int (z_cons z_int (z_cons z_nil (z_end))))⟩⟩
theorem ty9 : TIok Tryd.prog 9 ⟨1, 16, false, .str, [.d (.str ⟨#[]⟩)], [.str]⟩ := ⟨Tryd.sizeOf9, Tryd.isAgg9, Tryd.runUnderlying9, ⟨_, Tryd.typeInfo9, rfl⟩, by decide, by decide, ⟨_, Tryd.zeroValue9, rfl, fun w C ι => z_cons z_str (z_end)⟩⟩
theorem ty99 : TIok Tryd.prog 99 ⟨1, 8, false, .other, [.undef], [.undef]⟩ := ⟨Tryd.sizeOf99, Tryd.isAgg99, trivial, ⟨_, Tryd.typeInfo99, rfl⟩, by decide, by decide, ⟨_, Tryd.zeroValue99, rfl, fun w C ι => z_cons z_un (z_end)⟩⟩
theorem ty103 : TIok Tryd.prog 103 ⟨1, 8, false, .other, [.undef], [.undef]⟩ := ⟨Tryd.sizeOf103, Tryd.isAgg103, trivial, ⟨_, Tryd.typeInfo103, rfl⟩, by decide, by decide, ⟨_, Tryd.zeroValue103, rfl, fun w C ι => z_cons z_un (z_end)⟩⟩
theorem ty151 : TIok Tryd.prog 151 ⟨3, 40, true, (.st [(0, 29), (1, 3), (2, 3)]), [.d (.sl true 1 0 []), .d (.int .i64 0), .d (.int .i64 0)], [.sl 1, .int .i64, .int .i64]⟩ := ⟨Tryd.sizeOf151, Tryd.isAgg151, ⟨_, Tryd.runUnderlying151, rfl, f_cons Tryd.sizeOf29 (f_cons Tryd.sizeOf3 (f_cons Tryd.sizeOf3 (f_end)))⟩, ⟨_, Tryd.typeInfo151, rfl⟩, by decide, by decide, ⟨_, Tryd.zeroValue151, rfl, fun w C ι => z_cons z_nil (z_cons z_int (z_cons z_int (z_end)))⟩⟩
theorem ty111 : TIok Tryd.prog 111 ⟨1, 24, false, (.sl 3), [.d (.sl true 1 0 [])], [.sl 1]⟩ := ⟨Tryd.sizeOf111, Tryd.isAgg111, Tryd.runUnderlying111, ⟨_, Tryd.typeInfo111, rfl⟩, by decide, by decide, ⟨_, Tryd.zeroValue111, rfl, fun w C ι => z_cons z_nil (z_end)⟩⟩
theorem ty114 : TIok Tryd.prog 114 ⟨1, 8, false, .other, [.undef], [.undef]⟩ := ⟨Tryd.sizeOf114, Tryd.isAgg114, trivial, ⟨_, Tryd.typeInfo114, rfl⟩, by decide, by decide, ⟨_, Tryd.zeroValue114, rfl, fun w C ι => z_cons z_un (z_end)⟩⟩
theorem ty127 : TIok Tryd.prog 127 ⟨1, 8, false, .other, [.undef], [.undef]⟩ := ⟨Tryd.sizeOf127, Tryd.isAgg127, trivial, ⟨_, Tryd.typeInfo127, rfl⟩, by decide, by decide, ⟨_, Tryd.zeroValue127, rfl, fun w C ι => z_cons z_un (z_end)⟩⟩
theorem ty48 : TIok Tryd.prog 48 ⟨1, 8, false, .other, [.undef], [.undef]⟩ := ⟨Tryd.sizeOf48, Tryd.isAgg48, trivial, ⟨_, Tryd.typeInfo48, rfl⟩, by decide, by decide, ⟨_, Tryd.zeroValue48, rfl, fun w C ι => z_cons z_un (z_end)⟩⟩
theorem ty156 : TIok Tryd.prog 156 ⟨1, 24, false, (.sl 9), [.d (.sl true 1 0 [])], [.sl 1]⟩ := ⟨Tryd.sizeOf156, Tryd.isAgg156, Tryd.runUnderlying156, ⟨_, Tryd.typeInfo156, rfl⟩, by decide, by decide, ⟨_, Tryd.zeroValue156, rfl, fun w C ι => z_cons z_nil (z_end)⟩⟩
theorem ty51 : TIok Tryd.prog 51 ⟨1, 8, false, .other, [.undef], [.undef]⟩ := ⟨Tryd.sizeOf51, Tryd.isAgg51, trivial, ⟨_, Tryd.typeInfo51, rfl⟩, by decide, by decide, ⟨_, Tryd.zeroValue51, rfl, fun w C ι => z_cons z_un (z_end)⟩⟩
theorem ty171 : TIok Tryd.prog 171 ⟨1, 8, false, .other, [.undef], [.undef]⟩ := ⟨Tryd.sizeOf171, Tryd.isAgg171, trivial, ⟨_, Tryd.typeInfo171, rfl⟩, by decide, by decide, ⟨_, Tryd.zeroValue171, rfl, fun w C ι => z_cons z_un (z_end)⟩⟩
theorem ty58 : TIok Tryd.prog 58 ⟨1, 8, false, .other, [.undef], [.undef]⟩ := ⟨Tryd.sizeOf58, Tryd.isAgg58, trivial, ⟨_, Tryd.typeInfo58, rfl⟩, by decide, by decide, ⟨_, Tryd.zeroValue58, rfl, fun w C ι => z_cons z_un (z_end)⟩⟩
theorem ty182 : TIok Tryd.prog 182 ⟨1, 8, false, (.int .u64), [.d (.int .u64 0)], [.int .u64]⟩ := ⟨Tryd.sizeOf182, Tryd.isAgg182, Tryd.runUnderlying182, ⟨_, Tryd.typeInfo182, rfl⟩, by decide, by decide, ⟨_, Tryd.zeroValue182, rfl, fun w C ι => z_cons z_int (z_end)⟩⟩
theorem ty2 : TIok Tryd.prog 2 ⟨1, 8, false, (.int .i64), [.d (.int .i64 0)], [.int .i64]⟩ := ⟨Tryd.sizeOf2, Tryd.isAgg2, Tryd.runUnderlying2, ⟨_, Tryd.typeInfo2, rfl⟩, by decide, by decide, ⟨_, Tryd.zeroValue2, rfl, fun w C ι => z_cons z_int (z_end)⟩⟩
theorem ty185 : TIok Tryd.prog 185 ⟨1, 8, false, (.int .u64), [.d (.int .u64 0)], [.int .u64]⟩ := ⟨Tryd.sizeOf185, Tryd.isAgg185, Tryd.runUnderlying185, ⟨_, Tryd.typeInfo185, rfl⟩, by decide, by decide, ⟨_, Tryd.zeroValue185, rfl, fun w C ι => z_cons z_int (z_end)⟩⟩
theorem ty188 : TIok Tryd.prog 188 ⟨1, 16, false, .other, [.undef], [.undef]⟩ := ⟨Tryd.sizeOf188, Tryd.isAgg188, trivial, ⟨_, Tryd.typeInfo188, rfl⟩, by decide, by decide, ⟨_, Tryd.zeroValue188, rfl, fun w C ι => z_cons z_un (z_end)⟩⟩
theorem ty192 : TIok Tryd.prog 192 ⟨256, 256, true, .other, [.undef, .undef, .undef, .undef, .undef, .undef, .undef, .undef, .undef, .undef, .undef, .undef, .undef, .undef, .undef, .undef, .undef, .undef, .undef, .undef, .undef, .undef, .undef, .undef, .undef, .undef, .undef, .undef, .undef, .undef, .undef, .undef, .undef, .undef, .undef, .undef, .undef, .undef, .undef, .undef, .undef, .undef, .undef, .undef, .undef, .undef, .undef, .undef, .undef, .undef, .undef, .undef, .undef, .undef, .undef, .undef, .undef, .undef, .undef, .undef, .undef, .undef, .undef, .undef, .undef, .undef, .undef, .undef, .undef, .undef, .undef, .undef, .undef, .undef, .undef, .undef, .undef, .undef, .undef, .undef, .undef, .undef, .undef, .undef, .undef, .undef, .undef, .undef, .undef, .undef, .undef, .undef, .undef, .undef, .undef, .undef, .undef, .undef, .undef, .undef, .undef, .undef, .undef, .undef, .undef, .undef, .undef, .undef, .undef, .undef, .undef, .undef, .undef, .undef, .undef, .undef, .undef, .undef, .undef, .undef, .undef, .undef, .undef, .undef, .undef, .undef, .undef, .undef, .undef, .undef, .undef, .undef, .undef, .undef, .undef, .undef, .undef, .undef, .undef, .undef, .undef, .undef, .undef, .undef, .undef, .undef, .undef, .undef, .undef, .undef, .undef, .undef, .undef, .undef, .undef, .undef, .undef, .undef, .undef, .undef, .undef, .undef, .undef, .undef, .undef, .undef, .undef, .undef, .undef, .undef, .undef, .undef, .undef, .undef, .undef, .undef, .undef, .undef, .undef, .undef, .undef, .undef, .undef, .undef, .undef, .undef, .undef, .undef, .undef, .undef, .undef, .undef, .undef, .undef, .undef, .undef, .undef, .undef, .undef, .undef, .undef, .undef, .undef, .undef, .undef, .undef, .undef, .undef, .undef, .undef, .undef, .undef, .undef, .undef, .undef, .undef, .undef, .undef, .undef, .undef, .undef, .undef, .undef, .undef, .undef, .undef, .undef, .undef, .undef, .undef, .undef, .undef, .undef, .undef, .undef, .undef, .undef, .undef, .undef, .undef, .undef, .undef, .undef, .undef, .undef, .undef, .undef, .undef, .undef, .undef, .undef, .undef, .undef, .undef, .undef, .undef], [.undef, .undef, .undef, .undef, .undef, .undef, .undef, .undef, .undef, .undef, .undef, .undef, .undef, .undef, .undef, .undef, .undef, .undef, .undef, .undef, .undef, .undef, .undef, .undef, .undef, .undef, .undef, .undef, .undef, .undef, .undef, .undef, .undef, .undef, .undef, .undef, .undef, .undef, .undef, .undef, .undef, .undef, .undef, .undef, .undef, .undef, .undef, .undef, .undef, .undef, .undef, .undef, .undef, .undef, .undef, .undef, .undef, .undef, .undef, .undef, .undef, .undef, .undef, .undef, .undef, .undef, .undef, .undef, .undef, .undef, .undef, .undef, .undef, .undef, .undef, .undef, .undef, .undef, .undef, .undef, .undef, .undef, .undef, .undef, .undef, .undef, .undef, .undef, .undef, .undef, .undef, .undef, .undef, .undef, .undef, .undef, .undef, .undef, .undef, .undef, .undef, .undef, .undef, .undef, .undef, .undef, .undef, .undef, .undef, .undef, .undef, .undef, .undef, .undef, .undef, .undef, .undef, .undef, .undef, .undef, .undef, .undef, .undef, .undef, .undef, .undef, .undef, .undef, .undef, .undef, .undef, .undef, .undef, .undef, .undef, .undef, .undef, .undef, .undef, .undef, .undef, .undef, .undef, .undef, .undef, .undef, .undef, .undef, .undef, .undef, .undef, .undef, .undef, .undef, .undef, .undef, .undef, .undef, .undef, .undef, .undef, .undef, .undef, .undef, .undef, .undef, .undef, .undef, .undef, .undef, .undef, .undef, .undef, .undef, .undef, .undef, .undef, .undef, .undef, .undef, .undef, .undef, .undef, .undef, .undef, .undef, .undef, .undef, .undef, .undef, .undef, .undef, .undef, .undef, .undef, .undef, .undef, .undef, .undef, .undef, .undef, .undef, .undef, .undef, .undef, .undef, .undef, .undef, .undef, .undef, .undef, .undef, .undef, .undef, .undef, .undef, .undef, .undef, .undef, .undef, .undef, .undef, .undef, .undef, .undef, .undef, .undef, .undef, .undef, .undef, .undef, .undef, .undef, .undef, .undef, .undef, .undef, .undef, .undef, .undef, .undef, .undef, .undef, .undef, .undef, .undef, .undef, .undef, .undef, .undef, .undef, .undef, .undef, .undef, .undef, .undef]⟩ := ⟨Tryd.sizeOf192, Tryd.isAgg192, trivial, ⟨_, Tryd.typeInfo192, rfl⟩, by decide, by decide, ⟨_, Tryd.zeroValue192, rfl, fun w C ι => z_cons z_un (z_cons z_un (z_cons z_un (z_cons z_un (z_cons z_un (z_cons z_un (z_cons z_un (z_cons z_un (z_cons z_un (z_cons z_un (z_cons z_un (z_cons z_un (z_cons z_un (z_cons z_un (z_cons z_un (z_cons z_un (z_cons z_un (z_cons z_un (z_cons z_un (z_cons z_un (z_cons z_un (z_cons z_un (z_cons z_un (z_cons z_un (z_cons z_un (z_cons z_un (z_cons z_un (z_cons z_un (z_cons z_un (z_cons z_un (z_cons z_un (z_cons z_un (z_cons z_un (z_cons z_un (z_cons z_un (z_cons z_un (z_cons z_un (z_cons z_un (z_cons z_un (z_cons z_un (z_cons z_un (z_cons z_un (z_cons z_un (z_cons z_un (z_cons z_un (z_cons z_un (z_cons z_un (z_cons z_un (z_cons z_un (z_cons z_un (z_cons z_un (z_cons z_un (z_cons z_un (z_cons z_un (z_cons z_un (z_cons z_un (z_cons z_un (z_cons z_un (z_cons z_un (z_cons z_un (z_cons z_un (z_cons z_un (z_cons z_un (z_cons z_un (z_cons z_un (z_cons z_un (z_cons z_un (z_cons z_un (z_cons z_un (z_cons z_un (z_cons z_un (z_cons z_un (z_cons z_un (z_cons z_un (z_cons z_un (z_cons z_un (z_cons z_un (z_cons z_un (z_cons z_un (z_cons z_un (z_cons z_un (z_cons z_un (z_cons z_un (z_cons z_un (z_cons z_un (z_cons z_un (z_cons z_un (z_cons z_un (z_cons z_un (z_cons z_un (z_cons z_un (z_cons z_un (z_cons z_un (z_cons z_un (z_cons z_un (z_cons z_un (z_cons z_un (z_cons z_un (z_cons z_un (z_cons z_un (z_cons z_un (z_cons z_un (z_cons z_un (z_cons z_un (z_cons z_un (z_cons z_un (z_cons z_un (z_cons z_un (z_cons z_un (z_cons z_un (z_cons z_un (z_cons z_un (z_cons z_un (z_cons z_un (z_cons z_un (z_cons z_un (z_cons z_un (z_cons z_un (z_cons z_un (z_cons z_un (z_cons z_un (z_cons z_un (z_cons z_un (z_cons z_un (z_cons z_un (z_cons z_un (z_cons z_un (z_cons z_un (z_cons z_un (z_cons z_un (z_cons z_un (z_cons z_un (z_cons z_un (z_cons z_un (z_cons z_un (z_cons z_un (z_cons z_un (z_cons z_un (z_cons z_un (z_cons z_un (z_cons z_un (z_cons z_un (z_cons z_un (z_cons z_un (z_cons z_un (z_cons z_un (z_cons z_un (z_cons z_un (z_cons z_un (z_cons z_un (z_cons z_un (z_cons z_un (z_cons z_un (z_cons z_un (z_cons z_un (z_cons z_un (z_cons z_un (z_cons z_un (z_cons z_un (z_cons z_un (z_cons z_un (z_cons z_un (z_cons z_un (z_cons z_un (z_cons z_un (z_cons z_un (z_cons z_un (z_cons z_un (z_cons z_un (z_cons z_un (z_cons z_un (z_cons z_un (z_cons z_un (z_cons z_un (z_cons z_un (z_cons z_un (z_cons z_un (z_cons z_un (z_cons z_un (z_cons z_un (z_cons z_un (z_cons z_un (z_cons z_un (z_cons z_un (z_cons z_un (z_cons z_un (z_cons z_un (z_cons z_un (z_cons z_un (z_cons z_un (z_cons z_un (z_cons z_un (z_cons z_un (z_cons z_un (z_cons z_un (z_cons z_un (z_cons z_un (z_cons z_un (z_cons z_un (z_cons z_un (z_cons z_un (z_cons z_un (z_cons z_un (z_cons z_un (z_cons z_un (z_cons z_un (z_cons z_un (z_cons z_un (z_cons z_un (z_cons z_un (z_cons z_un (z_cons z_un (z_cons z_un (z_cons z_un (z_cons z_un (z_cons z_un (z_cons z_un (z_cons z_un (z_cons z_un (z_cons z_un (z_cons z_un (z_cons z_un (z_cons z_un (z_cons z_un (z_cons z_un (z_cons z_un (z_cons z_un (z_cons z_un (z_cons z_un (z_cons z_un (z_cons z_un (z_cons z_un (z_cons z_un (z_cons z_un (z_cons z_un (z_cons z_un (z_cons z_un (z_cons z_un (z_cons z_un (z_cons z_un (z_cons z_un (z_cons z_un (z_cons z_un (z_cons z_un (z_cons z_un (z_cons z_un (z_cons z_un (z_cons z_un (z_cons z_un (z_cons z_un (z_cons z_un (z_cons z_un (z_cons z_un (z_cons z_un (z_cons z_un (z_cons z_un (z_end))))))))))))))))))))))))))))))))))))))))))))))))))))))))))))))))))))))))))))))))))))))))))))))))))))))))))))))))))))))))))))))))))))))))))))))))))))))))))))))))))))))))))))))))))))))))))))))))))))))))))))))))))))))))))))))))))))))))))))))))))))))))))))))))⟩⟩
theorem ty194 : TIok Tryd.prog 194 ⟨1, 8, false, .other, [.undef], [.undef]⟩ := ⟨Tryd.sizeOf194, Tryd.isAgg194, trivial, ⟨_, Tryd.typeInfo194, rfl⟩, by decide, by decide, ⟨_, Tryd.zeroValue194, rfl, fun w C ι => z_cons z_un (z_end)⟩⟩
theorem ty197 : TIok Tryd.prog 197 ⟨24, 24, true, .other, [.undef, .undef, .undef, .undef, .undef, .undef, .undef, .undef, .undef, .undef, .undef, .undef, .undef, .undef, .undef, .undef, .undef, .undef, .undef, .undef, .undef, .undef, .undef, .undef], [.undef, .undef, .undef, .undef, .undef, .undef, .undef, .undef, .undef, .undef, .undef, .undef, .undef, .undef, .undef, .undef, .undef, .undef, .undef, .undef, .undef, .undef, .undef, .undef]⟩ := ⟨Tryd.sizeOf197, Tryd.isAgg197, trivial, ⟨_, Tryd.typeInfo197, rfl⟩, by decide, by decide, ⟨_, Tryd.zeroValue197, rfl, fun w C ι => z_cons z_un (z_cons z_un (z_cons z_un (z_cons z_un (z_cons z_un (z_cons z_un (z_cons z_un (z_cons z_un (z_cons z_un (z_cons z_un (z_cons z_un (z_cons z_un (z_cons z_un (z_cons z_un (z_cons z_un (z_cons z_un (z_cons z_un (z_cons z_un (z_cons z_un (z_cons z_un (z_cons z_un (z_cons z_un (z_cons z_un (z_cons z_un (z_end))))))))))))))))))))))))⟩⟩
theorem ty204 : TIok Tryd.prog 204 ⟨1, 24, false, (.sl 206), [.d (.sl true 2 0 [])], [.sl 2]⟩ := ⟨Tryd.sizeOf204, Tryd.isAgg204, Tryd.runUnderlying204, ⟨_, Tryd.typeInfo204, rfl⟩, by decide, by decide, ⟨_, Tryd.zeroValue204, rfl, fun w C ι => z_cons z_nil (z_end)⟩⟩
theorem ty206 : TIok Tryd.prog 206 ⟨2, 16, true, (.st [(0, 3), (1, 3)]), [.d (.int .i64 0), .d (.int .i64 0)], [.int .i64, .int .i64]⟩ := ⟨Tryd.sizeOf206, Tryd.isAgg206, ⟨_, Tryd.runUnderlying206, rfl, f_cons Tryd.sizeOf3 (f_cons Tryd.sizeOf3 (f_end))⟩, ⟨_, Tryd.typeInfo206, rfl⟩, by decide, by decide, ⟨_, Tryd.zeroValue206, rfl, fun w C ι => z_cons z_int (z_cons z_int (z_end))⟩⟩
theorem ty21 : TIok Tryd.prog 21 ⟨1, 4, false, (.int .i32), [.d (.int .i32 0)], [.int .i32]⟩ := ⟨Tryd.sizeOf21, Tryd.isAgg21, Tryd.runUnderlying21, ⟨_, Tryd.typeInfo21, rfl⟩, by decide, by decide, ⟨_, Tryd.zeroValue21, rfl, fun w C ι => z_cons z_int (z_end)⟩⟩
theorem ty207 : TIok Tryd.prog 207 ⟨1, 4, false, (.int .u32), [.d (.int .u32 0)], [.int .u32]⟩ := ⟨Tryd.sizeOf207, Tryd.isAgg207, Tryd.runUnderlying207, ⟨_, Tryd.typeInfo207, rfl⟩, by decide, by decide, ⟨_, Tryd.zeroValue207, rfl, fun w C ι => z_cons z_int (z_end)⟩⟩
theorem ty209 : TIok Tryd.prog 209 ⟨1, 8, false, .other, [.undef], [.undef]⟩ := ⟨Tryd.sizeOf209, Tryd.isAgg209, trivial, ⟨_, Tryd.typeInfo209, rfl⟩, by decide, by decide, ⟨_, Tryd.zeroValue209, rfl, fun w C ι => z_cons z_un (z_end)⟩⟩
theorem ty224 : TIok Tryd.prog 224 ⟨3, 56, true, (.st [(0, 221), (1, 222), (2, 3)]), [.d (.sl true 3 0 []), .d (.sl true 3 0 []), .d (.int .i64 0)], [.sl 3, .sl 3, .int .i64]⟩ := ⟨Tryd.sizeOf224, Tryd.isAgg224, ⟨_, Tryd.runUnderlying224, rfl, f_cons Tryd.sizeOf221 (f_cons Tryd.sizeOf222 (f_cons Tryd.sizeOf3 (f_end)))⟩, ⟨_, Tryd.typeInfo224, rfl⟩, by decide, by decide, ⟨_, Tryd.zeroValue224, rfl, fun w C ι => z_cons z_nil (z_cons z_nil (z_cons z_int (z_end)))⟩⟩
theorem ty221 : TIok Tryd.prog 221 ⟨1, 24, false, (.sl 227), [.d (.sl true 3 0 [])], [.sl 3]⟩ := ⟨Tryd.sizeOf221, Tryd.isAgg221, Tryd.runUnderlying221, ⟨_, Tryd.typeInfo221, rfl⟩, by decide, by decide, ⟨_, Tryd.zeroValue221, rfl, fun w C ι => z_cons z_nil (z_end)⟩⟩
theorem ty227 : TIok Tryd.prog 227 ⟨3, 6, true, (.st [(0, 225), (1, 225), (2, 225)]), [.d (.int .u16 0), .d (.int .u16 0), .d (.int .u16 0)], [.int .u16, .int .u16, .int .u16]⟩ := ⟨Tryd.sizeOf227, Tryd.isAgg227, ⟨_, Tryd.runUnderlying227, rfl, f_cons Tryd.sizeOf225 (f_cons Tryd.sizeOf225 (f_cons Tryd.sizeOf225 (f_end)))⟩, ⟨_, Tryd.typeInfo227, rfl⟩, by decide, by decide, ⟨_, Tryd.zeroValue227, rfl, fun w C ι => z_cons z_int (z_cons z_int (z_cons z_int (z_end)))⟩⟩
theorem ty225 : TIok Tryd.prog 225 ⟨1, 2, false, (.int .u16), [.d (.int .u16 0)], [.int .u16]⟩ := ⟨Tryd.sizeOf225, Tryd.isAgg225, Tryd.runUnderlying225, ⟨_, Tryd.typeInfo225, rfl⟩, by decide, by decide, ⟨_, Tryd.zeroValue225, rfl, fun w C ι => z_cons z_int (z_end)⟩⟩
theorem ty222 : TIok Tryd.prog 222 ⟨1, 24, false, (.sl 230), [.d (.sl true 3 0 [])], [.sl 3]⟩ := ⟨Tryd.sizeOf222, Tryd.isAgg222, Tryd.runUnderlying222, ⟨_, Tryd.typeInfo222, rfl⟩, by decide, by decide, ⟨_, Tryd.zeroValue222, rfl, fun w C ι => z_cons z_nil (z_end)⟩⟩
theorem ty230 : TIok Tryd.prog 230 ⟨3, 12, true, (.st [(0, 207), (1, 207), (2, 207)]), [.d (.int .u32 0), .d (.int .u32 0), .d (.int .u32 0)], [.int .u32, .int .u32, .int .u32]⟩ := ⟨Tryd.sizeOf230, Tryd.isAgg230, ⟨_, Tryd.runUnderlying230, rfl, f_cons Tryd.sizeOf207 (f_cons Tryd.sizeOf207 (f_cons Tryd.sizeOf207 (f_end)))⟩, ⟨_, Tryd.typeInfo230, rfl⟩, by decide, by decide, ⟨_, Tryd.zeroValue230, rfl, fun w C ι => z_cons z_int (z_cons z_int (z_cons z_int (z_end)))⟩⟩
theorem ty212 : TIok Tryd.prog 212 ⟨20, 160, true, .other, [.undef, .undef, .undef, .undef, .undef, .undef, .undef, .undef, .undef, .undef, .undef, .undef, .undef, .undef, .undef, .undef, .undef, .undef, .undef, .undef], [.undef, .undef, .undef, .undef, .undef, .undef, .undef, .undef, .undef, .undef, .undef, .undef, .undef, .undef, .undef, .undef, .undef, .undef, .undef, .undef]⟩ := ⟨Tryd.sizeOf212, Tryd.isAgg212, trivial, ⟨_, Tryd.typeInfo212, rfl⟩, by decide, by decide, ⟨_, Tryd.zeroValue212, rfl, fun w C ι => z_cons z_un (z_cons z_un (z_cons z_un (z_cons z_un (z_cons z_un (z_cons z_un (z_cons z_un (z_cons z_un (z_cons z_un (z_cons z_un (z_cons z_un (z_cons z_un (z_cons z_un (z_cons z_un (z_cons z_un (z_cons z_un (z_cons z_un (z_cons z_un (z_cons z_un (z_cons z_un (z_end))))))))))))))))))))⟩⟩
theorem ty20 : TIok Tryd.prog 20 ⟨1, 16, false, .other, [.undef], [.undef]⟩ := ⟨Tryd.sizeOf20, Tryd.isAgg20, trivial, ⟨_, Tryd.typeInfo20, rfl⟩, by decide, by decide, ⟨_, Tryd.zeroValue20, rfl, fun w C ι => z_cons z_un (z_end)⟩⟩
theorem ty213 : TIok Tryd.prog 213 ⟨65, 65, true, .other, [.undef, .undef, .undef, .undef, .undef, .undef, .undef, .undef, .undef, .undef, .undef, .undef, .undef, .undef, .undef, .undef, .undef, .undef, .undef, .undef, .undef, .undef, .undef, .undef, .undef, .undef, .undef, .undef, .undef, .undef, .undef, .undef, .undef, .undef, .undef, .undef, .undef, .undef, .undef, .undef, .undef, .undef, .undef, .undef, .undef, .undef, .undef, .undef, .undef, .undef, .undef, .undef, .undef, .undef, .undef, .undef, .undef, .undef, .undef, .undef, .undef, .undef, .undef, .undef, .undef], [.undef, .undef, .undef, .undef, .undef, .undef, .undef, .undef, .undef, .undef, .undef, .undef, .undef, .undef, .undef, .undef, .undef, .undef, .undef, .undef, .undef, .undef, .undef, .undef, .undef, .undef, .undef, .undef, .undef, .undef, .undef, .undef, .undef, .undef, .undef, .undef, .undef, .undef, .undef, .undef, .undef, .undef, .undef, .undef, .undef, .undef, .undef, .undef, .undef, .undef, .undef, .undef, .undef, .undef, .undef, .undef, .undef, .undef, .undef, .undef, .undef, .undef, .undef, .undef, .undef]⟩ := ⟨Tryd.sizeOf213, Tryd.isAgg213, trivial, ⟨_, Tryd.typeInfo213, rfl⟩, by decide, by decide, ⟨_, Tryd.zeroValue213, rfl, fun w C ι => z_cons z_un (z_cons z_un (z_cons z_un (z_cons z_un (z_cons z_un (z_cons z_un (z_cons z_un (z_cons z_un (z_cons z_un (z_cons z_un (z_cons z_un (z_cons z_un (z_cons z_un (z_cons z_un (z_cons z_un (z_cons z_un (z_cons z_un (z_cons z_un (z_cons z_un (z_cons z_un (z_cons z_un (z_cons z_un (z_cons z_un (z_cons z_un (z_cons z_un (z_cons z_un (z_cons z_un (z_cons z_un (z_cons z_un (z_cons z_un (z_cons z_un (z_cons z_un (z_cons z_un (z_cons z_un (z_cons z_un (z_cons z_un (z_cons z_un (z_cons z_un (z_cons z_un (z_cons z_un (z_cons z_un (z_cons z_un (z_cons z_un (z_cons z_un (z_cons z_un (z_cons z_un (z_cons z_un (z_cons z_un (z_cons z_un (z_cons z_un (z_cons z_un (z_cons z_un (z_cons z_un (z_cons z_un (z_cons z_un (z_cons z_un (z_cons z_un (z_cons z_un (z_cons z_un (z_cons z_un (z_cons z_un (z_cons z_un (z_cons z_un (z_cons z_un (z_cons z_un (z_end)))))))))))))))))))))))))))))))))))))))))))))))))))))))))))))))))⟩⟩
theorem ty215 : TIok Tryd.prog 215 ⟨1, 8, false, (.int .i64), [.d (.int .i64 0)], [.int .i64]⟩ := ⟨Tryd.sizeOf215, Tryd.isAgg215, Tryd.runUnderlying215, ⟨_, Tryd.typeInfo215, rfl⟩, by decide, by decide, ⟨_, Tryd.zeroValue215, rfl, fun w C ι => z_cons z_int (z_end)⟩⟩
theorem ty218 : TIok Tryd.prog 218 ⟨1, 8, false, .other, [.undef], [.undef]⟩ := ⟨Tryd.sizeOf218, Tryd.isAgg218, trivial, ⟨_, Tryd.typeInfo218, rfl⟩, by decide, by decide, ⟨_, Tryd.zeroValue218, rfl, fun w C ι => z_cons z_un (z_end)⟩⟩
theorem ty237 : TIok Tryd.prog 237 ⟨3, 48, true, (.st [(0, 9), (1, 9), (2, 188)]), [.d (.str ⟨#[]⟩), .d (.str ⟨#[]⟩), .undef], [.str, .str, .undef]⟩ := ⟨Tryd.sizeOf237, Tryd.isAgg237, ⟨_, Tryd.runUnderlying237, rfl, f_cons Tryd.sizeOf9 (f_cons Tryd.sizeOf9 (f_cons Tryd.sizeOf188 (f_end)))⟩, ⟨_, Tryd.typeInfo237, rfl⟩, by decide, by decide, ⟨_, Tryd.zeroValue237, rfl, fun w C ι => z_cons z_str (z_cons z_str (z_cons z_un (z_end)))⟩⟩
theorem ty239 : TIok Tryd.prog 239 ⟨1, 8, false, .other, [.undef], [.undef]⟩ := ⟨Tryd.sizeOf239, Tryd.isAgg239, trivial, ⟨_, Tryd.typeInfo239, rfl⟩, by decide, by decide, ⟨_, Tryd.zeroValue239, rfl, fun w C ι => z_cons z_un (z_end)⟩⟩
theorem ty240 : TIok Tryd.prog 240 ⟨1, 8, false, .other, [.undef], [.undef]⟩ := ⟨Tryd.sizeOf240, Tryd.isAgg240, trivial, ⟨_, Tryd.typeInfo240, rfl⟩, by decide, by decide, ⟨_, Tryd.zeroValue240, rfl, fun w C ι => z_cons z_un (z_end)⟩⟩
theorem ty241 : TIok Tryd.prog 241 ⟨32, 32, true, .other, [.undef, .undef, .undef, .undef, .undef, .undef, .undef, .undef, .undef, .undef, .undef, .undef, .undef, .undef, .undef, .undef, .undef, .undef, .undef, .undef, .undef, .undef, .undef, .undef, .undef, .undef, .undef, .undef, .undef, .undef, .undef, .undef], [.undef, .undef, .undef, .undef, .undef, .undef, .undef, .undef, .undef, .undef, .undef, .undef, .undef, .undef, .undef, .undef, .undef, .undef, .undef, .undef, .undef, .undef, .undef, .undef, .undef, .undef, .undef, .undef, .undef, .undef, .undef, .undef]⟩ := ⟨Tryd.sizeOf241, Tryd.isAgg241, trivial, ⟨_, Tryd.typeInfo241, rfl⟩, by decide, by decide, ⟨_, Tryd.zeroValue241, rfl, fun w C ι => z_cons z_un (z_cons z_un (z_cons z_un (z_cons z_un (z_cons z_un (z_cons z_un (z_cons z_un (z_cons z_un (z_cons z_un (z_cons z_un (z_cons z_un (z_cons z_un (z_cons z_un (z_cons z_un (z_cons z_un (z_cons z_un (z_cons z_un (z_cons z_un (z_cons z_un (z_cons z_un (z_cons z_un (z_cons z_un (z_cons z_un (z_cons z_un (z_cons z_un (z_cons z_un (z_cons z_un (z_cons z_un (z_cons z_un (z_cons z_un (z_cons z_un (z_cons z_un (z_end))))))))))))))))))))))))))))))))⟩⟩
theorem ty242 : TIok Tryd.prog 242 ⟨64, 64, true, .other, [.undef, .undef, .undef, .undef, .undef, .undef, .undef, .undef, .undef, .undef, .undef, .undef, .undef, .undef, .undef, .undef, .undef, .undef, .undef, .undef, .undef, .undef, .undef, .undef, .undef, .undef, .undef, .undef, .undef, .undef, .undef, .undef, .undef, .undef, .undef, .undef, .undef, .undef, .undef, .undef, .undef, .undef, .undef, .undef, .undef, .undef, .undef, .undef, .undef, .undef, .undef, .undef, .undef, .undef, .undef, .undef, .undef, .undef, .undef, .undef, .undef, .undef, .undef, .undef], [.undef, .undef, .undef, .undef, .undef, .undef, .undef, .undef, .undef, .undef, .undef, .undef, .undef, .undef, .undef, .undef, .undef, .undef, .undef, .undef, .undef, .undef, .undef, .undef, .undef, .undef, .undef, .undef, .undef, .undef, .undef, .undef, .undef, .undef, .undef, .undef, .undef, .undef, .undef, .undef, .undef, .undef, .undef, .undef, .undef, .undef, .undef, .undef, .undef, .undef, .undef, .undef, .undef, .undef, .undef, .undef, .undef, .undef, .undef, .undef, .undef, .undef, .undef, .undef]⟩ := ⟨Tryd.sizeOf242, Tryd.isAgg242, trivial, ⟨_, Tryd.typeInfo242, rfl⟩, by decide, by decide, ⟨_, Tryd.zeroValue242, rfl, fun w C ι => z_cons z_un (z_cons z_un (z_cons z_un (z_cons z_un (z_cons z_un (z_cons z_un (z_cons z_un (z_cons z_un (z_cons z_un (z_cons z_un (z_cons z_un (z_cons z_un (z_cons z_un (z_cons z_un (z_cons z_un (z_cons z_un (z_cons z_un (z_cons z_un (z_cons z_un (z_cons z_un (z_cons z_un (z_cons z_un (z_cons z_un (z_cons z_un (z_cons z_un (z_cons z_un (z_cons z_un (z_cons z_un (z_cons z_un (z_cons z_un (z_cons z_un (z_cons z_un (z_cons z_un (z_cons z_un (z_cons z_un (z_cons z_un (z_cons z_un (z_cons z_un (z_cons z_un (z_cons z_un (z_cons z_un (z_cons z_un (z_cons z_un (z_cons z_un (z_cons z_un (z_cons z_un (z_cons z_un (z_cons z_un (z_cons z_un (z_cons z_un (z_cons z_un (z_cons z_un (z_cons z_un (z_cons z_un (z_cons z_un (z_cons z_un (z_cons z_un (z_cons z_un (z_cons z_un (z_cons z_un (z_cons z_un (z_cons z_un (z_cons z_un (z_cons z_un (z_end))))))))))))))))))))))))))))))))))))))))))))))))))))))))))))))))⟩⟩
theorem ty244 : TIok Tryd.prog 244 ⟨1, 8, false, .other, [.undef], [.undef]⟩ := ⟨Tryd.sizeOf244, Tryd.isAgg244, trivial, ⟨_, Tryd.typeInfo244, rfl⟩, by decide, by decide, ⟨_, Tryd.zeroValue244, rfl, fun w C ι => z_cons z_un (z_end)⟩⟩
theorem ty247 : TIok Tryd.prog 247 ⟨1, 16, true, (.st [(0, 9)]), [.d (.str ⟨#[]⟩)], [.str]⟩ := ⟨Tryd.sizeOf247, Tryd.isAgg247, ⟨_, Tryd.runUnderlying247, rfl, f_cons Tryd.sizeOf9 (f_end)⟩, ⟨_, Tryd.typeInfo247, rfl⟩, by decide, by decide, ⟨_, Tryd.zeroValue247, rfl, fun w C ι => z_cons z_str (z_end)⟩⟩
theorem ty245 : TIok Tryd.prog 245 ⟨1, 8, false, .other, [.undef], [.undef]⟩ := ⟨Tryd.sizeOf245, Tryd.isAgg245, trivial, ⟨_, Tryd.typeInfo245, rfl⟩, by decide, by decide, ⟨_, Tryd.zeroValue245, rfl, fun w C ι => z_cons z_un (z_end)⟩⟩
theorem ty8 : TIok Tryd.prog 8 ⟨4, 24, true, (.st [(0, 2), (1, 3), (2, 4), (3, 6)]), [.d (.int .i64 0), .d (.int .i64 0), .d (.bool false), .d (.int .u8 0)], [.int .i64, .int .i64, .bool, .int .u8]⟩ := ⟨Tryd.sizeOf8, Tryd.isAgg8, ⟨_, Tryd.runUnderlying8, rfl, f_cons Tryd.sizeOf2 (f_cons Tryd.sizeOf3 (f_cons Tryd.sizeOf4 (f_cons Tryd.sizeOf6 (f_end))))⟩, ⟨_, Tryd.typeInfo8, rfl⟩, by decide, by decide, ⟨_, Tryd.zeroValue8, rfl, fun w C ι => z_cons z_int (z_cons z_int (z_cons z_bool (z_cons z_int (z_end))))⟩⟩
theorem ty6 : TIok Tryd.prog 6 ⟨1, 1, false, (.int .u8), [.d (.int .u8 0)], [.int .u8]⟩ := ⟨Tryd.sizeOf6, Tryd.isAgg6, Tryd.runUnderlying6, ⟨_, Tryd.typeInfo6, rfl⟩, by decide, by decide, ⟨_, Tryd.zeroValue6, rfl, fun w C ι => z_cons z_int (z_end)⟩⟩
theorem ty10 : TIok Tryd.prog 10 ⟨1, 16, false, .str, [.d (.str ⟨#[]⟩)], [.str]⟩ := ⟨Tryd.sizeOf10, Tryd.isAgg10, Tryd.runUnderlying10, ⟨_, Tryd.typeInfo10, rfl⟩, by decide, by decide, ⟨_, Tryd.zeroValue10, rfl, fun w C ι => z_cons z_str (z_end)⟩⟩
theorem ty11 : TIok Tryd.prog 11 ⟨1, 16, false, .str, [.d (.str ⟨#[]⟩)], [.str]⟩ := ⟨Tryd.sizeOf11, Tryd.isAgg11, Tryd.runUnderlying11, ⟨_, Tryd.typeInfo11, rfl⟩, by decide, by decide, ⟨_, Tryd.zeroValue11, rfl, fun w C ι => z_cons z_str (z_end)⟩⟩
theorem ty14 : TIok Tryd.prog 14 ⟨2, 24, true, (.st [(0, 9), (1, 12)]), [.d (.str ⟨#[]⟩), .d (.int .u64 0)], [.str, .int .u64]⟩ := ⟨Tryd.sizeOf14, Tryd.isAgg14, ⟨_, Tryd.runUnderlying14, rfl, f_cons Tryd.sizeOf9 (f_cons Tryd.sizeOf12 (f_end))⟩, ⟨_, Tryd.typeInfo14, rfl⟩, by decide, by decide, ⟨_, Tryd.zeroValue14, rfl, fun w C ι => z_cons z_str (z_cons z_int (z_end))⟩⟩
theorem ty12 : TIok Tryd.prog 12 ⟨1, 8, false, (.int .u64), [.d (.int .u64 0)], [.int .u64]⟩ := ⟨Tryd.sizeOf12, Tryd.isAgg12, Tryd.runUnderlying12, ⟨_, Tryd.typeInfo12, rfl⟩, by decide, by decide, ⟨_, Tryd.zeroValue12, rfl, fun w C ι => z_cons z_int (z_end)⟩⟩
theorem ty15 : TIok Tryd.prog 15 ⟨1, 8, false, .other, [.undef], [.undef]⟩ := ⟨Tryd.sizeOf15, Tryd.isAgg15, trivial, ⟨_, Tryd.typeInfo15, rfl⟩, by decide, by decide, ⟨_, Tryd.zeroValue15, rfl, fun w C ι => z_cons z_un (z_end)⟩⟩
theorem ty250 : TIok Tryd.prog 250 ⟨4, 40, true, (.st [(0, 17), (1, 17), (2, 17), (3, 9)]), [.undef, .undef, .undef, .d (.str ⟨#[]⟩)], [.undef, .undef, .undef, .str]⟩ := ⟨Tryd.sizeOf250, Tryd.isAgg250, ⟨_, Tryd.runUnderlying250, rfl, f_cons Tryd.sizeOf17 (f_cons Tryd.sizeOf17 (f_cons Tryd.sizeOf17 (f_cons Tryd.sizeOf9 (f_end))))⟩, ⟨_, Tryd.typeInfo250, rfl⟩, by decide, by decide, ⟨_, Tryd.zeroValue250, rfl, fun w C ι => z_cons z_un (z_cons z_un (z_cons z_un (z_cons z_str (z_end))))⟩⟩
theorem ty17 : TIok Tryd.prog 17 ⟨1, 8, false, .other, [.undef], [.undef]⟩ := ⟨Tryd.sizeOf17, Tryd.isAgg17, trivial, ⟨_, Tryd.typeInfo17, rfl⟩, by decide, by decide, ⟨_, Tryd.zeroValue17, rfl, fun w C ι => z_cons z_un (z_end)⟩⟩
theorem ty261 : TIok Tryd.prog 261 ⟨11, 48, true, (.st [(0, 12), (1, 12), (2, 207), (3, 255), (4, 5), (5, 5), (6, 256), (7, 257), (8, 244), (9, 258), (10, 259)]), [.d (.int .u64 0), .d (.int .u64 0), .d (.int .u32 0), .d (.int .u8 0), .d (.int .u8 0), .d (.int .u8 0), .d (.int .u8 0), .undef, .undef, .d (.int .i32 0), .d (.int .i32 0)], [.int .u64, .int .u64, .int .u32, .int .u8, .int .u8, .int .u8, .int .u8, .undef, .undef, .int .i32, .int .i32]⟩ := ⟨Tryd.sizeOf261, Tryd.isAgg261, ⟨_, Tryd.runUnderlying261, rfl, f_cons Tryd.sizeOf12 (f_cons Tryd.sizeOf12 (f_cons Tryd.sizeOf207 (f_cons Tryd.sizeOf255 (f_cons Tryd.sizeOf5 (f_cons Tryd.sizeOf5 (f_cons Tryd.sizeOf256 (f_cons Tryd.sizeOf257 (f_cons Tryd.sizeOf244 (f_cons Tryd.sizeOf258 (f_cons Tryd.sizeOf259 (f_end)))))))))))⟩, ⟨_, Tryd.typeInfo261, rfl⟩, by decide, by decide, ⟨_, Tryd.zeroValue261, rfl, fun w C ι => z_cons z_int (z_cons z_int (z_cons z_int (z_cons z_int (z_cons z_int (z_cons z_int (z_cons z_int (z_cons z_un (z_cons z_un (z_cons z_int (z_cons z_int (z_end)))))))))))⟩⟩
theorem ty255 : TIok Tryd.prog 255 ⟨1, 1, false, (.int .u8), [.d (.int .u8 0)], [.int .u8]⟩ := ⟨Tryd.sizeOf255, Tryd.isAgg255, Tryd.runUnderlying255, ⟨_, Tryd.typeInfo255, rfl⟩, by decide, by decide, ⟨_, Tryd.zeroValue255, rfl, fun w C ι => z_cons z_int (z_end)⟩⟩
theorem ty256 : TIok Tryd.prog 256 ⟨1, 1, false, (.int .u8), [.d (.int .u8 0)], [.int .u8]⟩ := ⟨Tryd.sizeOf256, Tryd.isAgg256, Tryd.runUnderlying256, ⟨_, Tryd.typeInfo256, rfl⟩, by decide, by decide, ⟨_, Tryd.zeroValue256, rfl, fun w C ι => z_cons z_int (z_end)⟩⟩
theorem ty257 : TIok Tryd.prog 257 ⟨1, 8, false, .other, [.undef], [.undef]⟩ := ⟨Tryd.sizeOf257, Tryd.isAgg257, trivial, ⟨_, Tryd.typeInfo257, rfl⟩, by decide, by decide, ⟨_, Tryd.zeroValue257, rfl, fun w C ι => z_cons z_un (z_end)⟩⟩
theorem ty258 : TIok Tryd.prog 258 ⟨1, 4, false, (.int .i32), [.d (.int .i32 0)], [.int .i32]⟩ := ⟨Tryd.sizeOf258, Tryd.isAgg258, Tryd.runUnderlying258, ⟨_, Tryd.typeInfo258, rfl⟩, by decide, by decide, ⟨_, Tryd.zeroValue258, rfl, fun w C ι => z_cons z_int (z_end)⟩⟩
theorem ty259 : TIok Tryd.prog 259 ⟨1, 4, false, (.int .i32), [.d (.int .i32 0)], [.int .i32]⟩ := ⟨Tryd.sizeOf259, Tryd.isAgg259, Tryd.runUnderlying259, ⟨_, Tryd.typeInfo259, rfl⟩, by decide, by decide, ⟨_, Tryd.zeroValue259, rfl, fun w C ι => z_cons z_int (z_end)⟩⟩
theorem ty16 : TIok Tryd.prog 16 ⟨1, 8, false, .other, [.undef], [.undef]⟩ := ⟨Tryd.sizeOf16, Tryd.isAgg16, trivial, ⟨_, Tryd.typeInfo16, rfl⟩, by decide, by decide, ⟨_, Tryd.zeroValue16, rfl, fun w C ι => z_cons z_un (z_end)⟩⟩
theorem ty19 : TIok Tryd.prog 19 ⟨1, 8, true, (.st [(0, 17)]), [.undef], [.undef]⟩ := ⟨Tryd.sizeOf19, Tryd.isAgg19, ⟨_, Tryd.runUnderlying19, rfl, f_cons Tryd.sizeOf17 (f_end)⟩, ⟨_, Tryd.typeInfo19, rfl⟩, by decide, by decide, ⟨_, Tryd.zeroValue19, rfl, fun w C ι => z_cons z_un (z_end)⟩⟩
theorem fn6 : FnOk Tryd.prog 6 I6 := .text rfl Tryd.call6 Tryd.func6 (by kernel_rfl) (by kernel_rfl) (by kernel_rfl)
theorem fn20 : FnOk Tryd.prog 20 I20 := .text rfl Tryd.call20 Tryd.func20 (by kernel_rfl) (by kernel_rfl) (by kernel_rfl)
theorem fn24 : FnOk Tryd.prog 24 I24 := .text rfl Tryd.call24 Tryd.func24 (by kernel_rfl) (by kernel_rfl) (by kernel_rfl)
theorem fn28 : FnOk Tryd.prog 28 I28 := .text rfl Tryd.call28 Tryd.func28 (by kernel_rfl) (by kernel_rfl) (by kernel_rfl)
theorem fn30 : FnOk Tryd.prog 30 I30 := .text rfl Tryd.call30 Tryd.func30 (by kernel_rfl) (by kernel_rfl) (by kernel_rfl)
theorem fn31 : FnOk Tryd.prog 31 I31 := .text rfl Tryd.call31 Tryd.func31 (by kernel_rfl) (by kernel_rfl) (by kernel_rfl)
theorem fn32 : FnOk Tryd.prog 32 I32 := .text rfl Tryd.call32 Tryd.func32 (by kernel_rfl) (by kernel_rfl) (by kernel_rfl)
theorem fn33 : FnOk Tryd.prog 33 I33 := .text rfl Tryd.call33 Tryd.func33 (by kernel_rfl) (by kernel_rfl) (by kernel_rfl)
theorem fn34 : FnOk Tryd.prog 34 I34 := .text rfl Tryd.call34 Tryd.func34 (by kernel_rfl) (by kernel_rfl) (by kernel_rfl)
theorem fn35 : FnOk Tryd.prog 35 I35 := .text rfl Tryd.call35 Tryd.func35 (by kernel_rfl) (by kernel_rfl) (by kernel_rfl)
theorem fn36 : FnOk Tryd.prog 36 I36 := .text rfl Tryd.call36 Tryd.func36 (by kernel_rfl) (by kernel_rfl) (by kernel_rfl)
theorem fn37 : FnOk Tryd.prog 37 I37 := .text rfl Tryd.call37 Tryd.func37 (by kernel_rfl) (by kernel_rfl) (by kernel_rfl)
theorem fn53 : FnOk Tryd.prog 53 I53 := .text rfl Tryd.call53 Tryd.func53 (by kernel_rfl) (by kernel_rfl) (by kernel_rfl)
theorem fn69 : FnOk Tryd.prog 69 I69 := .text rfl Tryd.call69 Tryd.func69 (by kernel_rfl) (by kernel_rfl) (by kernel_rfl)
theorem fn71 : FnOk Tryd.prog 71 I71 := .text rfl Tryd.call71 Tryd.func71 (by kernel_rfl) (by kernel_rfl) (by kernel_rfl)
theorem fn78 : FnOk Tryd.prog 78 I78 := .text rfl Tryd.call78 Tryd.func78 (by kernel_rfl) (by kernel_rfl) (by kernel_rfl)
theorem fn79 : FnOk Tryd.prog 79 I79 := .text rfl Tryd.call79 Tryd.func79 (by kernel_rfl) (by kernel_rfl) (by kernel_rfl)
theorem fn80 : FnOk Tryd.prog 80 I80 := .text rfl Tryd.call80 Tryd.func80 (by kernel_rfl) (by kernel_rfl) (by kernel_rfl)
theorem fn81 : FnOk Tryd.prog 81 I81 := .known rfl Tryd.call81 con81
theorem fn83 : FnOk Tryd.prog 83 I83 := .text rfl Tryd.call83 Tryd.func83 (by kernel_rfl) (by kernel_rfl) (by kernel_rfl)
theorem fn84 : FnOk Tryd.prog 84 I84 := .text rfl Tryd.call84 Tryd.func84 (by kernel_rfl) (by kernel_rfl) (by kernel_rfl)
theorem fn85 : FnOk Tryd.prog 85 I85 := .text rfl Tryd.call85 Tryd.func85 (by kernel_rfl) (by kernel_rfl) (by kernel_rfl)
theorem fn86 : FnOk Tryd.prog 86 I86 := .text rfl Tryd.call86 Tryd.func86 (by kernel_rfl) (by kernel_rfl) (by kernel_rfl)
theorem fn87 : FnOk Tryd.prog 87 I87 := .text rfl Tryd.call87 Tryd.func87 (by kernel_rfl) (by kernel_rfl) (by kernel_rfl)
theorem fn121 : FnOk Tryd.prog 121 I121 := .text rfl Tryd.call121 Tryd.func121 (by kernel_rfl) (by kernel_rfl) (by kernel_rfl)
theorem fn123 : FnOk Tryd.prog 123 I123 := .text rfl Tryd.call123 Tryd.func123 (by kernel_rfl) (by kernel_rfl) (by kernel_rfl)
theorem fn126 : FnOk Tryd.prog 126 I126 := .text rfl Tryd.call126 Tryd.func126 (by kernel_rfl) (by kernel_rfl) (by kernel_rfl)
theorem fn129 : FnOk Tryd.prog 129 I129 := .text rfl Tryd.call129 Tryd.func129 (by kernel_rfl) (by kernel_rfl) (by kernel_rfl)
theorem fn158 : FnOk Tryd.prog 158 I158 := .text rfl Tryd.call158 Tryd.func158 (by kernel_rfl) (by kernel_rfl) (by kernel_rfl)
theorem cxOk : CxOk Tryd.prog cx := cxOk_of ⟨ty4, ty3, ty22, ty76, ty29, ty5, ty74, ty165, ty59, ty61, ty25, ty79, ty77, ty82, ty43, ty45, ty33, ty30, ty31, ty137, ty135, ty39, ty36, ty37, ty143, ty67, ty120, ty9, ty99, ty103, ty151, ty111, ty114, ty127, ty48, ty156, ty51, ty171, ty58, ty182, ty2, ty185, ty188, ty192, ty194, ty197, ty204, ty206, ty21, ty207, ty209, ty224, ty221, ty227, ty225, ty222, ty230, ty212, ty20, ty213, ty215, ty218, ty237, ty239, ty240, ty241, ty242, ty244, ty247, ty245, ty8, ty6, ty10, ty11, ty14, ty12, ty15, ty250, ty17, ty261, ty255, ty256, ty257, ty258, ty259, ty16, ty19, trivial⟩ ⟨fn6, fn20, fn24, fn28, fn30, fn31, fn32, fn33, fn34, fn35, fn36, fn37, fn53, fn69, fn71, fn78, fn79, fn80, fn81, fn83, fn84, fn85, fn86, fn87, fn121, fn123, fn126, fn129, fn158, trivial⟩ (by kernel_rfl)
end Go.Ev.Q
