/- The equations of the functions that a law reaches, printed out of the translation by a program of this session; Lean checks each. -/
import Derived.Test.YtkgabahlbmonfaaEvDat
import Derived.Test.YtkgabahlbmonfaaKn
import Derived.KernelRfl
import Derived.Test.YtkgabahlbmonfaaProg
open Go Go.Ev Go.Proofs
set_option maxRecDepth 100000
set_option linter.unusedVariables false
namespace Go.Ev.Q
noncomputable def tyL : List (Nat × TI) := [(24, ⟨3, 40, true, (.st [(0, 3), (1, 3), (2, 22)]), [.d (.int .i64 0), .d (.int .i64 0), .d (.sl true 3 0 [])], [.int .i64, .int .i64, .sl 3]⟩),
  (3, ⟨1, 8, false, (.int .i64), [.d (.int .i64 0)], [.int .i64]⟩),
  (22, ⟨1, 24, false, (.sl 24), [.d (.sl true 3 0 [])], [.sl 3]⟩),
  (4, ⟨1, 1, false, .bool, [.d (.bool false)], [.bool]⟩),
  (29, ⟨3, 40, true, (.st [(0, 3), (1, 3), (2, 27)]), [.d (.int .i64 0), .d (.int .i64 0), .d (.sl true 3 0 [])], [.int .i64, .int .i64, .sl 3]⟩),
  (27, ⟨1, 24, false, (.sl 29), [.d (.sl true 3 0 [])], [.sl 3]⟩),
  (39, ⟨1, 24, false, (.sl 88), [.d (.sl true 4 0 [])], [.sl 4]⟩),
  (88, ⟨4, 48, true, (.st [(0, 3), (1, 24)]), [.d (.int .i64 0), .d (.int .i64 0), .d (.int .i64 0), .d (.sl true 3 0 [])], [.int .i64, .int .i64, .int .i64, .sl 3]⟩),
  (42, ⟨1, 24, false, (.sl 63), [.d (.sl true 4 0 [])], [.sl 4]⟩),
  (63, ⟨4, 48, true, (.st [(0, 3), (1, 29)]), [.d (.int .i64 0), .d (.int .i64 0), .d (.int .i64 0), .d (.sl true 3 0 [])], [.int .i64, .int .i64, .int .i64, .sl 3]⟩),
  (50, ⟨1, 24, false, (.sl 5), [.d (.sl true 1 0 [])], [.sl 1]⟩),
  (5, ⟨1, 1, false, (.int .u8), [.d (.int .u8 0)], [.int .u8]⟩),
  (55, ⟨1, 24, false, (.sl 3), [.d (.sl true 1 0 [])], [.sl 1]⟩),
  (67, ⟨13, 184, true, (.st [(0, 3), (1, 3), (2, 3), (3, 3), (4, 50), (5, 24), (8, 24), (11, 64), (12, 65)]), [.d (.int .i64 0), .d (.int .i64 0), .d (.int .i64 0), .d (.int .i64 0), .d (.sl true 1 0 []), .d (.int .i64 0), .d (.int .i64 0), .d (.sl true 3 0 []), .d (.int .i64 0), .d (.int .i64 0), .d (.sl true 3 0 []), .d (.sl true 13 0 []), .d (.sl true 15 0 [])], [.int .i64, .int .i64, .int .i64, .int .i64, .sl 1, .int .i64, .int .i64, .sl 3, .int .i64, .int .i64, .sl 3, .sl 13, .sl 15]⟩),
  (64, ⟨1, 24, false, (.sl 67), [.d (.sl true 13 0 [])], [.sl 13]⟩),
  (65, ⟨1, 24, false, (.sl 147), [.d (.sl true 15 0 [])], [.sl 15]⟩),
  (147, ⟨15, 216, true, (.st [(0, 3), (1, 55), (2, 67)]), [.d (.int .i64 0), .d (.sl true 1 0 []), .d (.int .i64 0), .d (.int .i64 0), .d (.int .i64 0), .d (.int .i64 0), .d (.sl true 1 0 []), .d (.int .i64 0), .d (.int .i64 0), .d (.sl true 3 0 []), .d (.int .i64 0), .d (.int .i64 0), .d (.sl true 3 0 []), .d (.sl true 13 0 []), .d (.sl true 15 0 [])], [.int .i64, .sl 1, .int .i64, .int .i64, .int .i64, .int .i64, .sl 1, .int .i64, .int .i64, .sl 3, .int .i64, .int .i64, .sl 3, .sl 13, .sl 15]⟩),
  (73, ⟨13, 184, true, (.st [(0, 3), (1, 3), (2, 3), (3, 3), (4, 50), (5, 29), (8, 29), (11, 70), (12, 71)]), [.d (.int .i64 0), .d (.int .i64 0), .d (.int .i64 0), .d (.int .i64 0), .d (.sl true 1 0 []), .d (.int .i64 0), .d (.int .i64 0), .d (.sl true 3 0 []), .d (.int .i64 0), .d (.int .i64 0), .d (.sl true 3 0 []), .d (.sl true 13 0 []), .d (.sl true 15 0 [])], [.int .i64, .int .i64, .int .i64, .int .i64, .sl 1, .int .i64, .int .i64, .sl 3, .int .i64, .int .i64, .sl 3, .sl 13, .sl 15]⟩),
  (70, ⟨1, 24, false, (.sl 73), [.d (.sl true 13 0 [])], [.sl 13]⟩),
  (71, ⟨1, 24, false, (.sl 150), [.d (.sl true 15 0 [])], [.sl 15]⟩),
  (150, ⟨15, 216, true, (.st [(0, 3), (1, 55), (2, 73)]), [.d (.int .i64 0), .d (.sl true 1 0 []), .d (.int .i64 0), .d (.int .i64 0), .d (.int .i64 0), .d (.int .i64 0), .d (.sl true 1 0 []), .d (.int .i64 0), .d (.int .i64 0), .d (.sl true 3 0 []), .d (.int .i64 0), .d (.int .i64 0), .d (.sl true 3 0 []), .d (.sl true 13 0 []), .d (.sl true 15 0 [])], [.int .i64, .sl 1, .int .i64, .int .i64, .int .i64, .int .i64, .sl 1, .int .i64, .int .i64, .sl 3, .int .i64, .int .i64, .sl 3, .sl 13, .sl 15]⟩),
  (84, ⟨1, 8, false, .other, [.undef], [.undef]⟩),
  (92, ⟨1, 8, false, .other, [.undef], [.undef]⟩),
  (99, ⟨2, 32, true, (.st [(0, 42), (1, 97)]), [.d (.sl true 4 0 []), .undef], [.sl 4, .undef]⟩),
  (97, ⟨1, 8, false, .other, [.undef], [.undef]⟩),
  (101, ⟨1, 8, false, .other, [.undef], [.undef]⟩),
  (138, ⟨3, 40, true, (.st [(0, 50), (1, 3), (2, 3)]), [.d (.sl true 1 0 []), .d (.int .i64 0), .d (.int .i64 0)], [.sl 1, .int .i64, .int .i64]⟩),
  (107, ⟨1, 8, false, .other, [.undef], [.undef]⟩),
  (114, ⟨1, 8, false, .other, [.undef], [.undef]⟩),
  (125, ⟨1, 8, false, .other, [.undef], [.undef]⟩),
  (53, ⟨1, 8, false, .other, [.undef], [.undef]⟩),
  (133, ⟨1, 8, false, .other, [.undef], [.undef]⟩),
  (144, ⟨1, 8, false, (.int .u64), [.d (.int .u64 0)], [.int .u64]⟩),
  (154, ⟨1, 8, false, .other, [.undef], [.undef]⟩),
  (159, ⟨1, 8, false, (.int .i64), [.d (.int .i64 0)], [.int .i64]⟩),
  (168, ⟨1, 4, false, (.int .u32), [.d (.int .u32 0)], [.int .u32]⟩),
  (170, ⟨1, 8, false, (.int .u64), [.d (.int .u64 0)], [.int .u64]⟩),
  (1, ⟨1, 8, false, .other, [.undef], [.undef]⟩),
  (172, ⟨1, 8, false, (.int .u64), [.d (.int .u64 0)], [.int .u64]⟩),
  (9, ⟨1, 16, false, .str, [.d (.str ⟨#[]⟩)], [.str]⟩),
  (178, ⟨1, 8, false, .other, [.undef], [.undef]⟩),
  (8, ⟨4, 24, true, (.st [(0, 2), (1, 3), (2, 4), (3, 6)]), [.d (.int .i64 0), .d (.int .i64 0), .d (.bool false), .d (.int .u8 0)], [.int .i64, .int .i64, .bool, .int .u8]⟩),
  (2, ⟨1, 8, false, (.int .i64), [.d (.int .i64 0)], [.int .i64]⟩),
  (6, ⟨1, 1, false, (.int .u8), [.d (.int .u8 0)], [.int .u8]⟩),
  (10, ⟨1, 16, false, .str, [.d (.str ⟨#[]⟩)], [.str]⟩),
  (11, ⟨1, 16, false, .str, [.d (.str ⟨#[]⟩)], [.str]⟩),
  (14, ⟨2, 24, true, (.st [(0, 9), (1, 12)]), [.d (.str ⟨#[]⟩), .d (.int .u64 0)], [.str, .int .u64]⟩),
  (12, ⟨1, 8, false, (.int .u64), [.d (.int .u64 0)], [.int .u64]⟩),
  (15, ⟨1, 8, false, .other, [.undef], [.undef]⟩),
  (183, ⟨4, 40, true, (.st [(0, 17), (1, 17), (2, 17), (3, 9)]), [.undef, .undef, .undef, .d (.str ⟨#[]⟩)], [.undef, .undef, .undef, .str]⟩),
  (17, ⟨1, 8, false, .other, [.undef], [.undef]⟩),
  (195, ⟨11, 48, true, (.st [(0, 12), (1, 12), (2, 168), (3, 188), (4, 5), (5, 5), (6, 189), (7, 190), (8, 191), (9, 192), (10, 193)]), [.d (.int .u64 0), .d (.int .u64 0), .d (.int .u32 0), .d (.int .u8 0), .d (.int .u8 0), .d (.int .u8 0), .d (.int .u8 0), .undef, .undef, .d (.int .i32 0), .d (.int .i32 0)], [.int .u64, .int .u64, .int .u32, .int .u8, .int .u8, .int .u8, .int .u8, .undef, .undef, .int .i32, .int .i32]⟩),
  (188, ⟨1, 1, false, (.int .u8), [.d (.int .u8 0)], [.int .u8]⟩),
  (189, ⟨1, 1, false, (.int .u8), [.d (.int .u8 0)], [.int .u8]⟩),
  (190, ⟨1, 8, false, .other, [.undef], [.undef]⟩),
  (191, ⟨1, 8, false, .other, [.undef], [.undef]⟩),
  (192, ⟨1, 4, false, (.int .i32), [.d (.int .i32 0)], [.int .i32]⟩),
  (193, ⟨1, 4, false, (.int .i32), [.d (.int .i32 0)], [.int .i32]⟩),
  (16, ⟨1, 8, false, .other, [.undef], [.undef]⟩),
  (19, ⟨1, 8, true, (.st [(0, 17)]), [.undef], [.undef]⟩)]
def ann6 : Ann := (.s .o (.s .o (.s .o (.s (.s .o (.b (.l ⟨1, [(5, 3)], [], [6, 5, 4, 3], [], []⟩ (.s (.s .o (.s .o .o)) (.s (.b .o) .o))))) (.s .o (.j ⟨2, [], [], [4, 3], [], []⟩ (.j ⟨3, [], [], [4, 3, 48], [], []⟩ .o (.s (.s .o .o) .o)) (.s .o (.s (.s .o (.s (.s .o .o) .o)) (.s .o (.s (.s .o (.b (.l ⟨4, [], [], [9, 12, 11, 4], [], []⟩ (.s (.s .o (.s .o .o)) (.s (.b (.s .o (.s (.s .o (.s .o (.b (.l ⟨5, [], [], [14, 13, 9, 11, 4, 12], [], []⟩ (.s (.s .o (.s .o .o)) (.s (.b (.s (.f [2, 3, 0, 1, 4, 5, 6, 7] 2 [0, 4, 5, 7] [(1, [4, 5])]) (.s (.s .o .o) .o))) .o)))))) (.s (.f [2, 3, 0, 1, 4, 5, 6, 7] 2 [0, 4, 5, 7] [(1, [4, 5])]) (.s (.s .o .o) .o))))) .o))))) (.s .o .o)))))))))))
def ann15 : Ann := (.s .o (.j ⟨1, [], [], [4, 1, 2], [], []⟩ (.j ⟨2, [], [], [4, 1, 2, 18], [], []⟩ .o (.s (.s .o .o) .o)) (.s (.f [1, 2, 0, 3, 4, 5, 6, 7, 8, 9, 10] 1 [0, 4, 5, 7, 8, 10] [(2, [0])]) .o)))
def ann30 : Ann := (.s .o (.s .o (.s .o (.s .o (.s .o (.s (.s .o (.b (.l ⟨1, [(7, 3)], [(0, (2, 3))], [8, 4, 7, 2, 5, 6], [], []⟩ (.s (.s .o (.s .o .o)) (.s (.b .o) .o))))) (.s .o .o)))))))
def ann31 : Ann := (.s .o (.s .o .o))
def ann32 : Ann := (.s .o (.j ⟨1, [], [], [3, 2], [], []⟩ (.j ⟨2, [], [], [3, 2, 26], [], []⟩ .o (.s (.s .o .o) .o)) (.s (.s .o (.b (.l ⟨3, [], [], [5, 3, 2], [], []⟩ (.s (.s .o (.s .o .o)) (.s (.b (.s (.f [0, 2, 5, 7, 1, 3, 4, 6, 8, 9, 10, 11] 4 [1, 3, 4, 6, 8, 9, 11] []) (.s (.s .o .o) .o))) .o))))) (.s .o .o))))
def ann33 : Ann := (.s .o (.s (.s .o (.s .o (.s (.s .o .o) .o))) (.s .o .o)))
def ann34 : Ann := (.s .o (.s (.s .o (.s (.s .o .o) .o)) (.s .o .o)))
def ann35 : Ann := (.s .o (.s (.s .o (.b (.l ⟨1, [], [], [5, 1, 0], [], []⟩ (.s (.s .o (.s .o .o)) (.s (.b (.s .o (.s (.s .o .o) .o))) .o))))) (.s .o .o)))
def ann36 : Ann := (.s .o (.s (.s .o (.s (.s .o .o) .o)) (.s .o (.s .o (.s .o (.s .o .o))))))
def ann39 : Ann := (.s .o (.s .o .o))
def ann50 : Ann := (.s .o (.s .o .o))
def ann51 : Ann := (.s .o (.s (.s .o (.s (.s .o .o) .o)) (.s .o .o)))
def ann52 : Ann := (.s .o (.s .o (.s .o (.s (.f [1, 2, 3, 4, 0, 6, 5, 7] 2 [0, 5, 7] [(3, [0]), (4, [0]), (6, [5])]) .o))))
def ann53 : Ann := (.s .o (.s .o .o))
def ann65 : Ann := (.s .o (.s .o (.s (.s .o (.b (.l ⟨1, [], [(2, (2, 1003)), (1, (2, 1003))], [14, 3, 12, 2, 13], [], []⟩ (.s .o (.s (.s .o .o) (.s (.b (.s .o (.r [0, 1, 2, 3, 4, 5, 6, 7] 1 4 [3, 4]))) .o)))))) (.s .o .o))))
def ann67 : Ann := (.s .o (.s .o (.s (.s .o (.b (.l ⟨1, [], [], [4, 0, 3], [], []⟩ (.j ⟨2, [], [], [0, 4, 3], [], []⟩ (.j ⟨3, [], [], [0, 4, 3, 15], [], []⟩ .o (.s .o .o)) (.s (.b .o) .o))))) (.s .o .o))))
def ann68 : Ann := (.s .o (.s .o (.j ⟨1, [], [(1, (2, 1003))], [3, 2, 0], [], []⟩ (.s .o (.s (.s .o (.s .o (.b (.l ⟨2, [], [(1, (2, 1003))], [5, 3, 2, 0, 4], [], []⟩ (.s (.s .o (.s .o .o)) (.s (.b .o) .o)))))) .o)) (.j ⟨3, [], [], [2, 3, 0], [], []⟩ (.s .o (.s (.s .o (.s .o (.b (.l ⟨4, [], [], [7, 3, 2, 0, 6], [], []⟩ (.s (.s .o (.s .o .o)) (.s (.b (.f [0, 1, 2, 3, 4, 5, 6] 0 [0, 2, 5] [(1, [2])])) .o)))))) .o)) (.j ⟨5, [], [(2, (2, 1003))], [2, 3], [], []⟩ (.s .o (.s (.s .o (.b (.s .o (.s .o (.s .o (.s .o (.s .o (.s .o (.s .o (.s .o (.s .o (.s .o .o)))))))))))) .o)) (.s .o .o))))))
def ann69 : Ann := (.s .o (.s (.s .o (.s (.s .o .o) .o)) (.s (.s .o (.s (.s .o .o) .o)) (.s .o (.s .o (.s .o (.s .o (.s .o .o))))))))
def ann70 : Ann := (.s .o (.s (.s .o (.s (.s .o .o) .o)) (.s .o (.j ⟨1, [], [], [1, 2, 6, 5], [], []⟩ (.s .o (.b (.j ⟨2, [], [], [1, 2, 6, 5, 13, 14], [], []⟩ (.s .o (.s .o (.s .o (.s .o .o)))) (.s .o (.j ⟨3, [], [], [1, 2, 6, 5, 13, 18], [], []⟩ (.s .o (.s .o .o)) (.s .o (.s .o (.s .o (.s .o (.s (.s .o (.s .o (.s .o (.s (.s .o .o) .o)))) (.s .o (.s .o (.s .o .o))))))))))))) (.j ⟨4, [], [], [1, 2], [], []⟩ (.j ⟨5, [], [], [1, 2, 47], [], []⟩ .o (.s (.s .o .o) .o)) (.s .o (.s (.s .o (.b (.l ⟨6, [], [], [8, 7, 1, 2], [], []⟩ (.s (.s .o (.s .o .o)) (.s (.b (.s .o (.s (.s .o (.s (.s .o .o) .o)) (.s .o (.s .o (.s (.s .o .o) .o)))))) .o))))) (.s .o .o))))))))
def ann71 : Ann := (.s .o (.j ⟨1, [], [], [1, 2], [], []⟩ (.j ⟨2, [], [], [1, 2, 14], [], []⟩ .o (.s (.s .o .o) .o)) (.s .o (.s (.s .o (.b (.l ⟨3, [], [], [18, 1, 5, 16, 17], [], []⟩ (.s .o (.s (.s .o .o) (.s (.b (.s .o (.s .o (.s .o (.s (.s .o .o) .o))))) .o)))))) (.s .o .o)))))
def ann72 : Ann := (.s .o (.s (.s .o (.s (.s .o .o) .o)) (.s (.s .o (.b (.l ⟨1, [], [], [5, 1, 2], [], []⟩ (.s (.s .o (.s .o .o)) (.s (.b .o) .o))))) (.s .o .o))))
def ann73 : Ann := (.s .o (.j ⟨1, [], [], [1, 2], [], []⟩ (.s .o (.s .o .o)) (.s .o (.b (.l ⟨2, [], [], [16, 1, 14, 15], [], []⟩ (.s .o (.s (.s .o .o) (.s (.b (.s .o .o)) .o))))))))
def ann74 : Ann := .o
def ann75 : Ann := (.s .o .o)
def ann76 : Ann := (.s .o (.s (.s .o (.s (.s .o .o) .o)) (.s (.s .o (.b (.l ⟨1, [], [], [], [], []⟩ (.s (.s .o (.s .o .o)) (.s (.b (.s (.r [0, 1, 2, 3, 4, 5, 6, 7, 8, 9] 0 10 []) (.s (.s .o (.s (.s .o (.b (.l ⟨2, [], [], [], [], []⟩ (.s (.s .o (.s .o .o)) (.s (.b (.s (.r [0, 1, 2, 3, 4, 5, 6, 7, 8, 9] 0 10 []) (.s (.s .o .o) .o))) .o))))) (.s .o (.s .o .o)))) .o))) .o))))) (.s .o .o))))
def ann79 : Ann := (.s .o (.s .o (.j ⟨1, [], [], [8, 2, 0, 3, 1, 9], [], []⟩ (.s .o (.s .o .o)) (.j ⟨2, [], [], [8, 3, 2, 1, 0], [], []⟩ (.s .o (.b (.s .o (.s (.s .o .o) (.s .o (.s (.s .o .o) (.s .o (.s (.s .o .o) (.s .o (.s (.s (.s .o (.s (.s .o .o) .o)) (.s .o .o)) (.s .o (.s (.s .o .o) (.j ⟨3, [], [], [8, 3, 2, 1, 0, 16, 51], [], []⟩ (.s .o (.s .o .o)) (.s (.s .o .o) (.s .o (.s (.s .o .o) .o)))))))))))))))) (.s (.s .o (.s (.s .o .o) .o)) (.s .o .o))))))
def ann80 : Ann := (.s .o (.s .o .o))
def ann81 : Ann := (.s .o (.s .o .o))
def ann99 : Ann := (.s .o (.s .o (.s (.s .o (.b (.l ⟨1, [], [(2, (2, 1003)), (1, (2, 1003))], [4, 3, 1, 2], [], []⟩ (.s (.s .o (.s .o .o)) (.s (.b (.r [0, 2, 4, 1, 3, 5, 6, 7, 8, 9, 10, 11] 3 6 [7, 8])) .o))))) (.s .o .o))))
def ann100 : Ann := (.s .o (.s .o .o))
def ann101 : Ann := (.s .o (.s .o .o))
def ann102 : Ann := (.s .o (.j ⟨1, [], [(3, (2, 1003))], [6, 2, 1, 3], [], []⟩ (.s .o (.s (.s .o (.s .o (.s (.s (.f [0, 1, 3, 4, 2, 5, 6, 7] 2 [2, 3, 5, 6] [(4, [2])]) (.s (.f [2, 3, 0, 1, 6, 4, 5, 7] 2 [0, 4, 5, 7] [(1, [4, 5]), (6, [4, 5])]) .o)) .o))) .o)) (.s .o (.s .o (.s (.s .o (.b (.l ⟨2, [], [(4, (2, 1003)), (5, (2, 1003))], [6, 52, 10, 2, 1, 50, 51], [], []⟩ (.s .o (.s (.s .o .o) (.s (.b (.s .o (.s .o (.j ⟨3, [], [], [6, 10, 2, 1, 50, 51, 52, 13], [], []⟩ (.j ⟨4, [], [], [6, 10, 2, 1, 50, 51, 52, 13, 70], [], []⟩ .o (.s (.s .o .o) .o)) .o)))) .o)))))) (.s (.f [1, 2, 0, 5, 3, 4, 6] 2 [0, 3, 4, 6] [(5, [3, 4])]) .o))))))
def ann103 : Ann := (.s .o (.s (.s .o (.s (.s .o .o) .o)) (.s .o .o)))
def ann108 : Ann := (.s .o (.s .o .o))
def ann109 : Ann := (.s .o (.s .o (.s (.r [0, 1, 2, 3, 4, 5, 6, 7, 8, 9, 10, 11, 12] 0 13 []) (.s (.s (.r [0, 1, 2, 3, 4, 5, 6, 7, 8, 9] 0 10 []) (.s (.s (.f [0, 1, 2, 3, 5, 6, 7, 4, 8, 9, 10, 11, 12, 13, 14] 7 [4, 8, 9, 10, 11, 12, 13] []) .o) .o)) (.s .o .o)))))
def ann110 : Ann := (.s .o (.s .o (.j ⟨1, [], [], [1], [], []⟩ (.j ⟨2, [], [], [1, 25], [], []⟩ .o (.s (.s .o .o) .o)) (.s (.s .o (.b (.s .o (.s (.s .o .o) (.s .o (.s (.s .o .o) .o)))))) (.s .o .o)))))
def ann111 : Ann := (.s .o (.s .o (.s (.b (.l ⟨1, [], [], [5, 0, 1], [], []⟩ (.j ⟨2, [], [], [0, 1, 5], [], []⟩ (.j ⟨3, [], [], [0, 1, 5, 18], [], []⟩ .o (.s .o .o)) (.b .o)))) (.j ⟨4, [], [], [5, 0, 1], [], []⟩ (.j ⟨5, [], [], [0, 5, 1, 32], [], []⟩ .o (.s (.s .o .o) .o)) (.s .o (.s .o (.s .o (.s .o .o))))))))
def ann121 : Ann := (.s .o (.s (.s .o (.b (.l ⟨1, [], [], [8, 0, 1, 7], [], []⟩ (.s .o (.s (.s .o .o) (.s (.b (.s .o (.s .o (.s (.s .o .o) .o)))) .o)))))) (.s .o .o)))
def ann123 : Ann := (.s .o (.s (.s .o (.b (.j ⟨1, [], [], [3, 4], [], []⟩ (.s .o (.s .o (.s .o (.s .o (.s .o (.s .o .o)))))) (.s (.s .o .o) (.j ⟨2, [], [], [3, 9], [], []⟩ (.s .o (.s .o .o)) (.s (.s .o .o) (.s .o (.s (.s .o .o) (.s .o (.s (.s .o .o) .o)))))))))) (.s .o .o)))
noncomputable def I6 : FnI := ⟨Try.f6, Try.f6.body.getD .skip, [false], [], false, [], .m (.one (.bool)), [], [], [], false, false, none, ann6⟩
noncomputable def I15 : FnI := ⟨Try.f15, Try.f15.body.getD .skip, [false, false], [], true, [(0, 2, 1003)], .tup [.agg [.int .i64, .int .i64, .own 1000], .one .bool], [], [.lrow 3 true], [], true, true, none, ann15⟩
noncomputable def I30 : FnI := ⟨Try.f30, Try.f30.body.getD .skip, [false], [], false, [], .tup [.agg [.int .i64, .int .i64, .sl 3], .one (.sl 3)], [], [], [], false, false, none, ann30⟩
noncomputable def I31 : FnI := ⟨Try.f31, Try.f31.body.getD .skip, [false], [], false, [], .m (.one (.bool)), [], [], [], false, false, none, ann31⟩
noncomputable def I32 : FnI := ⟨Try.f32, Try.f32.body.getD .skip, [false, false], [], false, [], .m (.one (.bool)), [], [], [], false, false, none, ann32⟩
noncomputable def I33 : FnI := ⟨Try.f33, Try.f33.body.getD .skip, [false], [], false, [], .m (.one (.int .i64)), [], [], [], false, false, none, ann33⟩
noncomputable def I34 : FnI := ⟨Try.f34, Try.f34.body.getD .skip, [false], [], false, [], .m (.one (.sl 1)), [], [], [], false, false, none, ann34⟩
noncomputable def I35 : FnI := ⟨Try.f35, Try.f35.body.getD .skip, [false, false], [], false, [], .m (.one (.bool)), [], [], [], false, false, none, ann35⟩
noncomputable def I36 : FnI := ⟨Try.f36, Try.f36.body.getD .skip, [false], [], false, [], .m (.one (.sl 1)), [], [], [], false, false, none, ann36⟩
noncomputable def I39 : FnI := ⟨Try.f39, Try.f39.body.getD .skip, [false], [], false, [], .m (.one (.bool)), [], [], [], false, true, none, ann39⟩
noncomputable def I50 : FnI := ⟨Try.f50, Try.f50.body.getD .skip, [false], [], false, [], .m (.one (.bool)), [], [], [], false, false, none, ann50⟩
noncomputable def I51 : FnI := ⟨Try.f51, Try.f51.body.getD .skip, [true, false], [], true, [(0, 2, 1003)], .tup [.agg [.int .i64, .int .i64, .own 0], .one .bool], [.lrow 3 true], [], [(0, 2, 0)], true, false, none, ann51⟩
noncomputable def I52 : FnI := ⟨Try.f52, Try.f52.body.getD .skip, [false, false], [], true, [(0, 2, 1003)], .tup [.agg [.int .i64, .int .i64, .own 1000], .one .bool], [], [.lrow 3 true], [], true, false, none, ann52⟩
noncomputable def I53 : FnI := ⟨Try.f53, Try.f53.body.getD .skip, [false], [], true, [], .m (.fn 103 [.ptr 1000 0]), [], [.box [.sl 3]], [], false, false, none, ann53⟩
noncomputable def I65 : FnI := ⟨Try.f65, Try.f65.body.getD .skip, [false], [], true, [(0, 2, 1003)], .m (.agg [.int .i64, .int .i64, .own 1000]), [], [.lrow 3 true], [], true, false, none, ann65⟩
noncomputable def I67 : FnI := ⟨Try.f67, Try.f67.body.getD .skip, [false], [], true, [], .m (.one (.ptr 1000 0)), [], [.box [.sl 1, .int .i64, .int .i64]], [], false, false, none, ann67⟩
noncomputable def I68 : FnI := ⟨Try.f68, Try.f68.body.getD .skip, [true], [], true, [(0, 2, 1003)], .m (.agg [.int .i64, .int .i64, .own 1000]), [], [.lrow 3 true], [], true, false, none, ann68⟩
noncomputable def I69 : FnI := ⟨Try.f69, Try.f69.body.getD .skip, [true, false], [], false, [], .m (.one (.int .i64)), [], [], [], false, false, none, ann69⟩
noncomputable def I70 : FnI := ⟨Try.f70, Try.f70.body.getD .skip, [false, false], [], false, [], .m (.one (.int .i64)), [], [], [], false, false, none, ann70⟩
noncomputable def I71 : FnI := ⟨Try.f71, Try.f71.body.getD .skip, [false, false], [], false, [], .m (.one (.int .i64)), [], [], [], false, false, none, ann71⟩
noncomputable def I72 : FnI := ⟨Try.f72, Try.f72.body.getD .skip, [false, false], [], false, [], .m (.one (.sl 1)), [], [], [], false, false, none, ann72⟩
noncomputable def I73 : FnI := ⟨Try.f73, Try.f73.body.getD .skip, [false, false], [], false, [], .tup [], [.box [], .row 1 false true], [], [], false, false, none, ann73⟩
noncomputable def I74 : FnI := ⟨Try.f74, Try.f74.body.getD .skip, [false, true], [], false, [], .tup [], [.box [], .row 1 false true], [], [], false, false, none, ann74⟩
noncomputable def I75 : FnI := ⟨Try.f75, Try.f75.body.getD .skip, [true], [], true, [], .tup [], [.row 1 false false], [], [], false, false, some .sortI, ann75⟩
noncomputable def I76 : FnI := ⟨Try.f76, Try.f76.body.getD .skip, [true], [], true, [], .m (.one (.own 0)), [.row 1 false true], [], [], false, false, some .compactI, ann76⟩
noncomputable def I79 : FnI := ⟨Try.f79, Try.f79.body.getD .skip, [true, false, false, false], [], true, [(0, 2, 1003)], .m (.agg [.int .i64, .int .i64, .own 1000]), [], [.lrow 3 true], [], true, false, none, ann79⟩
noncomputable def I80 : FnI := ⟨Try.f80, Try.f80.body.getD .skip, [true, false], [], false, [], .m (.one (.bool)), [], [], [], false, false, none, ann80⟩
noncomputable def I81 : FnI := ⟨Try.f81, Try.f81.body.getD .skip, [false, false, false], [], false, [], .m (.one (.bool)), [], [], [], false, false, none, ann81⟩
noncomputable def I99 : FnI := ⟨Try.f99, Try.f99.body.getD .skip, [false], [], true, [(0, 2, 1003)], .m (.agg [.int .i64, .int .i64, .own 1000]), [], [.lrow 3 true], [], true, true, none, ann99⟩
noncomputable def I100 : FnI := ⟨Try.f100, Try.f100.body.getD .skip, [false, false], [], false, [], .m (.one (.bool)), [], [], [], false, false, none, ann100⟩
noncomputable def I101 : FnI := ⟨Try.f101, Try.f101.body.getD .skip, [false], [], false, [], .m (.one (.bool)), [], [], [], false, false, none, ann101⟩
noncomputable def I102 : FnI := ⟨Try.f102, Try.f102.body.getD .skip, [false, false, true], [], true, [(0, 2, 1003)], .tup [.agg [.int .i64, .int .i64, .own 1000], .one .bool], [], [.lrow 3 true], [], true, false, none, ann102⟩
noncomputable def I103 : FnI := ⟨Try.f103, Try.f103.body.getD .skip, [false, true], [], false, [], .tup [.agg [.int .i64, .int .i64, .sl 3], .one (.bool)], [], [], [], false, false, none, ann103⟩
noncomputable def I108 : FnI := ⟨Try.f108, Try.f108.body.getD .skip, [true, false], [], false, [], .m (.one (.int .i64)), [], [], [], false, false, none, ann108⟩
noncomputable def I109 : FnI := ⟨Try.f109, Try.f109.body.getD .skip, [true], [], false, [], .m (.one (.int .i64)), [], [], [], false, false, none, ann109⟩
noncomputable def I110 : FnI := ⟨Try.f110, Try.f110.body.getD .skip, [false], [], false, [], .m (.one (.bool)), [], [], [], false, false, none, ann110⟩
noncomputable def I111 : FnI := ⟨Try.f111, Try.f111.body.getD .skip, [false, false], [], false, [], .m (.one (.sl 1)), [], [], [], false, false, none, ann111⟩
noncomputable def I121 : FnI := ⟨Try.f121, Try.f121.body.getD .skip, [false, false], [], false, [], .m (.one (.int .i64)), [], [], [], false, false, none, ann121⟩
noncomputable def I123 : FnI := ⟨Try.f123, Try.f123.body.getD .skip, [false], [], false, [], .m (.one (.int .i64)), [], [], [], false, false, none, ann123⟩
noncomputable def fnsL : List (Nat × FnI) := [(6, I6), (15, I15), (30, I30), (31, I31), (32, I32), (33, I33), (34, I34), (35, I35), (36, I36), (39, I39), (50, I50), (51, I51), (52, I52), (53, I53), (65, I65), (67, I67), (68, I68), (69, I69), (70, I70), (71, I71), (72, I72), (73, I73), (74, I74), (75, I75), (76, I76), (79, I79), (80, I80), (81, I81), (99, I99), (100, I100), (101, I101), (102, I102), (103, I103), (108, I108), (109, I109), (110, I110), (111, I111), (121, I121), (123, I123)]
noncomputable def cx : Cx := ⟨tyL, fnsL, false⟩
noncomputable def laws_FnSubsts (x0 : Sl) : Res := evF cx 6 [(.d (.sl false 1 x0.1 x0.2))] []
noncomputable def spec_DrawTySubst (x0 : Sl) : Res := evF cx 30 [(.d (.sl false 1 x0.1 x0.2))] []
noncomputable def impl_TySubst (x0 : T_Ty) (x1 : Sl) : Res := evF cx 15 [(.agg (LS.encs sh_Ty x0)), (.d (.sl false 3 x1.1 x1.2))] []
noncomputable def spec_TyOk (x0 : T_Ty) : Res := evF cx 31 [(.agg (LS.encs sh_Ty x0))] []
noncomputable def laws_sameTy (x0 : T_Ty) (x1 : T_Ty) : Res := evF cx 32 [(.agg (LS.encs sh_Ty x0)), (.agg (LS.encs sh_Ty x1))] []
noncomputable def impl_TySize (x0 : T_Ty) : Res := evF cx 33 [(.agg (LS.encs sh_Ty x0))] []
noncomputable def spec_TyVars (x0 : T_Ty) : Res := evF cx 34 [(.agg (LS.encs sh_Ty x0))] []
noncomputable def impl_TyVars (x0 : T_Ty) : Res := evF cx 36 [(.agg (LS.encs sh_Ty x0))] []
noncomputable def laws_has (x0 : Sl) (x1 : Int) : Res := evF cx 35 [(.d (.sl false 1 x0.1 x0.2)), (.d (.int .i64 x1))] []
noncomputable def spec_l1New (x0 : Sl) : Res := evF cx 67 [(.d (.sl false 1 x0.1 x0.2))] []
noncomputable def spec_l3any (x0 : T_l1Cur) : Res := evF cx 68 [(.ptr 0 0)] [(.box (LS.encs sh_l1Cur x0))]
noncomputable def spec_l1Below (x0 : Int) (x1 : T_l1Cur) : Res := evF cx 69 [(.ptr 0 0), (.d (.int .i64 x0))] [(.box (LS.encs sh_l1Cur x1))]
noncomputable def impl_TyOk (x0 : T_Ty) : Res := evF cx 39 [(.agg (LS.encs sh_Ty x0))] []
noncomputable def impl_tysOk (x0 : Sl) : Res := evF cx 50 [(.d (.sl false 3 x0.1 x0.2))] []
noncomputable def impl_inPlace (x0 : Sl) : Res := evF cx 53 [(.d (.sl false 3 x0.1 x0.2))] []
noncomputable def impl_put_Fimpl_inPlace_1c (x0 : T_Ty) (x1 : Sl) : Res := evF cx 52 [(.agg (LS.encs sh_Ty x0)), (.fn 103 [(.ptr 0 0)])] [(.box [(.d (.sl false 3 x1.1 x1.2))])]
noncomputable def impl_toldTy (x0 : Int) (x1 : Int) (x2 : Bool) (x3 : Sl) : Res := evF cx 51 [(.agg [(.d (.int .i64 x0)), (.d (.int .i64 x1)), (.own 0)]), (.d (.bool x2))] [(.lrow 3 x3.1 false x3.2)]
noncomputable def spec_l3ok (x0 : T_Ty) (x1 : Int) : Res := evF cx 70 [(.agg (LS.encs sh_Ty x0)), (.d (.int .i64 x1))] []
noncomputable def impl_measure (x0 : T_Ty) (x1 : Int) : Res := evF cx 71 [(.agg (LS.encs sh_Ty x0)), (.d (.int .i64 x1))] []
noncomputable def spec_l3vars (x0 : T_Ty) (x1 : Sl) : Res := evF cx 72 [(.agg (LS.encs sh_Ty x0)), (.d (.sl false 1 x1.1 x1.2))] []
noncomputable def impl_eachVar_Fimpl_TyVars_1c (x0 : T_Ty) (x1 : Sl) : Res := evF cx 73 [(.agg (LS.encs sh_Ty x0)), (.fn 74 [(.ptr 0 0)])] [(.box [(.own 1)]), (.row 1 x1.1 false false x1.2)]
noncomputable def slices_Sort_int_int_o (x0 : Sl) : Res := evF cx 75 [(.own 0)] [(.row 1 x0.1 false false x0.2)]
noncomputable def slices_Compact_int_int_o (x0 : Sl) : Res := evF cx 76 [(.own 0)] [(.row 1 x0.1 false false x0.2)]
noncomputable def spec_l3ty (x0 : Int) (x1 : Int) (x2 : Int) (x3 : T_l1Cur) : Res := evF cx 79 [(.ptr 0 0), (.d (.int .i64 x0)), (.d (.int .i64 x1)), (.d (.int .i64 x2))] [(.box (LS.encs sh_l1Cur x3))]
noncomputable def spec_l1Once (x0 : Int) (x1 : T_l1Cur) : Res := evF cx 80 [(.ptr 0 0), (.d (.int .i64 x0))] [(.box (LS.encs sh_l1Cur x1))]
noncomputable def spec_l3copy (x0 : T_Ty) : Res := evF cx 99 [(.agg (LS.encs sh_Ty x0))] []
noncomputable def spec_l1PickInt (x0 : Sl) (x1 : T_l1Cur) : Res := evF cx 108 [(.ptr 0 0), (.d (.sl false 1 x0.1 x0.2))] [(.box (LS.encs sh_l1Cur x1))]
noncomputable def spec_l1Byte (x0 : T_l1Cur) : Res := evF cx 109 [(.ptr 0 0)] [(.box (LS.encs sh_l1Cur x0))]
noncomputable def slices_ContainsFunc_impl_Ty_impl_Ty_Fimpl_tysOk_1 (x0 : Sl) : Res := evF cx 100 [(.d (.sl false 3 x0.1 x0.2)), (.fn 101 [])] []
noncomputable def impl_replace_Fimpl_inPlace_1c (x0 : T_Ty) (x1 : Sl) (x2 : Int) : Res := evF cx 102 [(.agg (LS.encs sh_Ty x0)), (.fn 103 [(.ptr 0 0)]), (.ptr 1 0)] [(.box [(.d (.sl false 3 x1.1 x1.2))]), (.box [(.d (.int .i64 x2))])]
noncomputable def impl_headOk (x0 : T_Ty) : Res := evF cx 110 [(.agg (LS.encs sh_Ty x0))] []
noncomputable def spec_l3insert (x0 : Sl) (x1 : Int) : Res := evF cx 111 [(.d (.sl false 1 x0.1 x0.2)), (.d (.int .i64 x1))] []
noncomputable def impl_TyVars_1 (x0 : Int) (x1 : Sl) : Res := evF cx 74 [(.d (.int .i64 x0)), (.ptr 0 0)] [(.box [(.own 1)]), (.row 1 x1.1 false false x1.2)]
noncomputable def slices_IndexFunc_impl_Ty_impl_Ty_Fimpl_tysOk_1 (x0 : Sl) : Res := evF cx 121 [(.d (.sl false 3 x0.1 x0.2)), (.fn 101 [])] []
noncomputable def impl_inPlace_1 (x0 : Int) (x1 : Sl) : Res := evF cx 103 [(.d (.int .i64 x0)), (.ptr 0 0)] [(.box [(.d (.sl false 3 x1.1 x1.2))])]
noncomputable def impl_cloneTy (x0 : T_Ty) : Res := evF cx 65 [(.agg (LS.encs sh_Ty x0))] []
noncomputable def impl_argsOf (x0 : Int) : Res := evF cx 123 [(.d (.int .i64 x0))] []
noncomputable def impl_within (x0 : Int) (x1 : Int) (x2 : Int) : Res := evF cx 81 [(.d (.int .i64 x0)), (.d (.int .i64 x1)), (.d (.int .i64 x2))] []
noncomputable def impl_tysOk_1 (x0 : T_Ty) : Res := evF cx 101 [(.agg (LS.encs sh_Ty x0))] []
noncomputable def laws_FnSubsts_j1 (x0 : Int) (x1 : Sl) (x2 : Sl) (x3 : T_Ty) : Res := (fun (p : Env × Mem) => evI cx 6 0 1 p.1 p.2) ([(6, (.d (.int .i64 x0))), (5, (.own 0)), (4, (.d (.sl false 3 x1.1 x1.2))), (3, (.ptr 1 0))], [(.row 3 x2.1 false false x2.2), (.box (LS.encs sh_Ty x3))])
noncomputable def laws_FnSubsts_j1v1 (x0 : Int) (x1 : Sl) (x2 : Sl) (x3 : T_Ty) : Res := (fun (p : Env × Mem) => evI cx 6 0 1 p.1 p.2) ([(6, (.d (.int .i64 x0))), (5, (.own 0)), (4, (.d (.sl false 3 x1.1 x1.2))), (3, (.ptr 1 0))], [(.row 3 x2.1 false true x2.2), (.box (LS.encs sh_Ty x3))])
noncomputable def laws_FnSubsts_j3 (x0 : Sl) (x1 : Bool) (x2 : T_Ty) : Res := (fun (p : Env × Mem) => evI cx 6 0 3 p.1 p.2) ([(4, (.d (.sl false 3 x0.1 x0.2))), (3, (.ptr 0 0)), (48, (.d (.bool x1)))], [(.box (LS.encs sh_Ty x2))])
noncomputable def laws_FnSubsts_j2 (x0 : Sl) (x1 : T_Ty) : Res := (fun (p : Env × Mem) => evI cx 6 0 2 p.1 p.2) ([(4, (.d (.sl false 3 x0.1 x0.2))), (3, (.ptr 0 0))], [(.box (LS.encs sh_Ty x1))])
noncomputable def laws_FnSubsts_j4 (x0 : Int) (x1 : Sl) (x2 : Sl) (x3 : Int) (x4 : Int) (x5 : Sl) : Res := (fun (p : Env × Mem) => evI cx 6 0 4 p.1 p.2) ([(9, (.ptr 0 0)), (12, (.d (.int .i64 x0))), (11, (.d (.sl false 1 x1.1 x1.2))), (4, (.d (.sl false 3 x2.1 x2.2)))], [(.box [(.d (.int .i64 x3)), (.d (.int .i64 x4)), (.own 1)]), (.lrow 3 x5.1 true x5.2)])
noncomputable def laws_FnSubsts_j5 (x0 : Int) (x1 : Sl) (x2 : Sl) (x3 : Sl) (x4 : Int) (x5 : Int) (x6 : Int) (x7 : Sl) : Res := (fun (p : Env × Mem) => evI cx 6 0 5 p.1 p.2) ([(14, (.d (.int .i64 x0))), (13, (.d (.sl false 1 x1.1 x1.2))), (9, (.ptr 0 0)), (11, (.d (.sl false 1 x2.1 x2.2))), (4, (.d (.sl false 3 x3.1 x3.2))), (12, (.d (.int .i64 x4)))], [(.box [(.d (.int .i64 x5)), (.d (.int .i64 x6)), (.own 1)]), (.lrow 3 x7.1 true x7.2)])
noncomputable def laws_FnSubsts_j4v1 (x0 : Int) (x1 : Sl) (x2 : Sl) (x3 : Int) (x4 : Int) (x5 : Sl) : Res := (fun (p : Env × Mem) => evI cx 6 0 4 p.1 p.2) ([(9, (.ptr 0 0)), (12, (.d (.int .i64 x0))), (11, (.d (.sl false 1 x1.1 x1.2))), (4, (.d (.sl false 3 x2.1 x2.2)))], [(.box [(.d (.int .i64 x3)), (.d (.int .i64 x4)), (.own 1)]), (.row 3 x5.1 true true x5.2)])
noncomputable def laws_FnSubsts_j5v1 (x0 : Int) (x1 : Sl) (x2 : Sl) (x3 : Sl) (x4 : Int) (x5 : Int) (x6 : Int) (x7 : Sl) : Res := (fun (p : Env × Mem) => evI cx 6 0 5 p.1 p.2) ([(14, (.d (.int .i64 x0))), (13, (.d (.sl false 1 x1.1 x1.2))), (9, (.ptr 0 0)), (11, (.d (.sl false 1 x2.1 x2.2))), (4, (.d (.sl false 3 x3.1 x3.2))), (12, (.d (.int .i64 x4)))], [(.box [(.d (.int .i64 x5)), (.d (.int .i64 x6)), (.own 1)]), (.row 3 x7.1 true true x7.2)])
theorem laws_FnSubsts_eq (x0 : Sl) : laws_FnSubsts x0 =
  ocall (.tup [(.agg sh_Ty), (.one (.sl 3))]) [] (spec_DrawTySubst x0) fun (r0 : (T_Ty × (Sl × Unit))) (m1 : Unit) =>
  laws_FnSubsts_j1 (0 : Int) r0.2.1 (0, []) r0.1 := (evF_eq ..).trans (by kernel_rfl)
-- a loop's head
theorem laws_FnSubsts_j1_eq (x0 : Int) (x1 : Sl) (x2 : Sl) (x3 : T_Ty) : laws_FnSubsts_j1 x0 x1 x2 x3 =
  oite (decide (x0 < ((x1.1 : Nat) : Int)))
    (oguard (decide (((x2.1 + 1) * 40) ≤ 140737488351232)) (
    olet (x2.2 ++ ((vDs (LS.encs sh_Ty ((7 : Int), x0, (0, []), ()))) :: [])) fun (e2 : (List (List D))) =>
    laws_FnSubsts_j1v1 (w64 (x0 + (1 : Int))) x1 ((x2.1 + 1), e2) x3))
    (ocall (.tup [(.agg [(.int .i64), (.int .i64), (.own 0)]), (.one .bool)]) [(.lrow 3 true)] (impl_TySubst x3 x2) fun (r3 : ((Int × (Int × (Unit × Unit))) × (Bool × Unit))) (m4 : (Sl × Unit)) =>
    ocall (.m (.one .bool)) [] (spec_TyOk x3) fun (r5 : Bool) (m6 : Unit) =>
    oite r5
      (oite (!r3.2.1)
        (laws_FnSubsts_j3 x1 true x3)
        (ocall (.m (.one .bool)) [] (laws_sameTy (r3.1.1, r3.1.2.1, m4.1, ()) x3) fun (r7 : Bool) (m8 : Unit) =>
        laws_FnSubsts_j3 x1 (!r7) x3))
      (laws_FnSubsts_j3 x1 false x3)) := (evI_eq ..).trans (by kernel_rfl)
-- a loop's head
theorem laws_FnSubsts_j1v1_eq (x0 : Int) (x1 : Sl) (x2 : Sl) (x3 : T_Ty) : laws_FnSubsts_j1v1 x0 x1 x2 x3 =
  oite (decide (x0 < ((x1.1 : Nat) : Int)))
    (oguard (decide (((x2.1 + 1) * 40) ≤ 140737488351232)) (
    olet (x2.2 ++ ((vDs (LS.encs sh_Ty ((7 : Int), x0, (0, []), ()))) :: [])) fun (e9 : (List (List D))) =>
    laws_FnSubsts_j1v1 (w64 (x0 + (1 : Int))) x1 ((x2.1 + 1), e9) x3))
    (ocall (.tup [(.agg [(.int .i64), (.int .i64), (.own 0)]), (.one .bool)]) [(.lrow 3 true)] (impl_TySubst x3 x2) fun (r10 : ((Int × (Int × (Unit × Unit))) × (Bool × Unit))) (m11 : (Sl × Unit)) =>
    ocall (.m (.one .bool)) [] (spec_TyOk x3) fun (r12 : Bool) (m13 : Unit) =>
    oite r12
      (oite (!r10.2.1)
        (laws_FnSubsts_j3 x1 true x3)
        (ocall (.m (.one .bool)) [] (laws_sameTy (r10.1.1, r10.1.2.1, m11.1, ()) x3) fun (r14 : Bool) (m15 : Unit) =>
        laws_FnSubsts_j3 x1 (!r14) x3))
      (laws_FnSubsts_j3 x1 false x3)) := (evI_eq ..).trans (by kernel_rfl)
theorem laws_FnSubsts_j3_eq (x0 : Sl) (x1 : Bool) (x2 : T_Ty) : laws_FnSubsts_j3 x0 x1 x2 =
  oite x1
    (some ((.d (.bool false)), []))
    (laws_FnSubsts_j2 x0 x2) := (evI_eq ..).trans (by kernel_rfl)
theorem laws_FnSubsts_j2_eq (x0 : Sl) (x1 : T_Ty) : laws_FnSubsts_j2 x0 x1 =
  ocall (.tup [(.agg [(.int .i64), (.int .i64), (.own 0)]), (.one .bool)]) [(.lrow 3 true)] (impl_TySubst x1 x0) fun (r16 : ((Int × (Int × (Unit × Unit))) × (Bool × Unit))) (m17 : (Sl × Unit)) =>
  oite (!r16.2.1)
    (ocall (.m (.one (.int .i64))) [] (impl_TySize ((0 : Int), (0 : Int), (0, []), ())) fun (r18 : Int) (m19 : Unit) =>
    oite (r18 == (1 : Int))
      (some ((.d (.bool (r16.1.1 == (0 : Int)))), []))
      (some ((.d (.bool false)), [])))
    (ocall (.m (.one (.sl 1))) [] (spec_TyVars x1) fun (r20 : Sl) (m21 : Unit) =>
    laws_FnSubsts_j4 (0 : Int) r20 x0 r16.1.1 r16.1.2.1 m17.1) := (evI_eq ..).trans (by kernel_rfl)
-- a loop's head
theorem laws_FnSubsts_j4_eq (x0 : Int) (x1 : Sl) (x2 : Sl) (x3 : Int) (x4 : Int) (x5 : Sl) : laws_FnSubsts_j4 x0 x1 x2 x3 x4 x5 =
  oite (decide (x0 < ((x1.1 : Nat) : Int)))
    (oat [(.int .i64)] x1.1 x1.2 x0 fun (t22 : (Int × Unit)) =>
    oite (decide (t22.1 < ((x2.1 : Nat) : Int)))
      (oat [(.int .i64)] x1.1 x1.2 x0 fun (t23 : (Int × Unit)) =>
      oat sh_Ty x2.1 x2.2 t23.1 fun (t24 : T_Ty) =>
      ocall (.m (.one (.sl 1))) [] (spec_TyVars t24) fun (r25 : Sl) (m26 : Unit) =>
      laws_FnSubsts_j5 (0 : Int) r25 x1 x2 x0 x3 x4 x5)
      (oat [(.int .i64)] x1.1 x1.2 x0 fun (t27 : (Int × Unit)) =>
      ocall (.m (.one (.sl 1))) [] (impl_TyVars (x3, x4, x5, ())) fun (r28 : Sl) (m29 : Unit) =>
      oat [(.int .i64)] x1.1 x1.2 x0 fun (t30 : (Int × Unit)) =>
      osame (α := List V) [(.rp [(.int .i64 t27.1)] 0)] [(.rp [(.int .i64 t30.1)] 0)] (
      osame (α := List V) [(.d (.int .i64 t27.1))] [(.d (.int .i64 t27.1))] (
      oat [(.int .i64)] x1.1 x1.2 x0 fun (t31 : (Int × Unit)) =>
      ocall (.m (.one .bool)) [] (laws_has r28 t31.1) fun (r32 : Bool) (m33 : Unit) =>
      oite (!r32)
        (some ((.d (.bool false)), []))
        (laws_FnSubsts_j4v1 (w64 (x0 + (1 : Int))) x1 x2 x3 x4 x5)))))
    (some ((.d (.bool true)), [])) := (evI_eq ..).trans (by kernel_rfl)
-- a loop's head
theorem laws_FnSubsts_j5_eq (x0 : Int) (x1 : Sl) (x2 : Sl) (x3 : Sl) (x4 : Int) (x5 : Int) (x6 : Int) (x7 : Sl) : laws_FnSubsts_j5 x0 x1 x2 x3 x4 x5 x6 x7 =
  oite (decide (x0 < ((x1.1 : Nat) : Int)))
    (oat [(.int .i64)] x1.1 x1.2 x0 fun (t34 : (Int × Unit)) =>
    ocall (.m (.one (.sl 1))) [] (impl_TyVars (x5, x6, x7, ())) fun (r35 : Sl) (m36 : Unit) =>
    oat [(.int .i64)] x1.1 x1.2 x0 fun (t37 : (Int × Unit)) =>
    osame (α := List V) [(.rp [(.int .i64 t34.1)] 0)] [(.rp [(.int .i64 t37.1)] 0)] (
    osame (α := List V) [(.d (.int .i64 t34.1))] [(.d (.int .i64 t34.1))] (
    oat [(.int .i64)] x1.1 x1.2 x0 fun (t38 : (Int × Unit)) =>
    ocall (.m (.one .bool)) [] (laws_has r35 t38.1) fun (r39 : Bool) (m40 : Unit) =>
    oite (!r39)
      (some ((.d (.bool false)), []))
      (laws_FnSubsts_j5v1 (w64 (x0 + (1 : Int))) x1 x2 x3 x4 x5 x6 x7))))
    (laws_FnSubsts_j4 (w64 (x4 + (1 : Int))) x2 x3 x5 x6 x7) := (evI_eq ..).trans (by kernel_rfl)
-- a loop's head
theorem laws_FnSubsts_j4v1_eq (x0 : Int) (x1 : Sl) (x2 : Sl) (x3 : Int) (x4 : Int) (x5 : Sl) : laws_FnSubsts_j4v1 x0 x1 x2 x3 x4 x5 =
  oite (decide (x0 < ((x1.1 : Nat) : Int)))
    (oat [(.int .i64)] x1.1 x1.2 x0 fun (t41 : (Int × Unit)) =>
    oite (decide (t41.1 < ((x2.1 : Nat) : Int)))
      (oat [(.int .i64)] x1.1 x1.2 x0 fun (t42 : (Int × Unit)) =>
      oat sh_Ty x2.1 x2.2 t42.1 fun (t43 : T_Ty) =>
      ocall (.m (.one (.sl 1))) [] (spec_TyVars t43) fun (r44 : Sl) (m45 : Unit) =>
      laws_FnSubsts_j5v1 (0 : Int) r44 x1 x2 x0 x3 x4 x5)
      (oat [(.int .i64)] x1.1 x1.2 x0 fun (t46 : (Int × Unit)) =>
      ocall (.m (.one (.sl 1))) [] (impl_TyVars (x3, x4, x5, ())) fun (r47 : Sl) (m48 : Unit) =>
      oat [(.int .i64)] x1.1 x1.2 x0 fun (t49 : (Int × Unit)) =>
      osame (α := List V) [(.rp [(.int .i64 t46.1)] 0)] [(.rp [(.int .i64 t49.1)] 0)] (
      osame (α := List V) [(.d (.int .i64 t46.1))] [(.d (.int .i64 t46.1))] (
      oat [(.int .i64)] x1.1 x1.2 x0 fun (t50 : (Int × Unit)) =>
      ocall (.m (.one .bool)) [] (laws_has r47 t50.1) fun (r51 : Bool) (m52 : Unit) =>
      oite (!r51)
        (some ((.d (.bool false)), []))
        (laws_FnSubsts_j4v1 (w64 (x0 + (1 : Int))) x1 x2 x3 x4 x5)))))
    (some ((.d (.bool true)), [])) := (evI_eq ..).trans (by kernel_rfl)
-- a loop's head
theorem laws_FnSubsts_j5v1_eq (x0 : Int) (x1 : Sl) (x2 : Sl) (x3 : Sl) (x4 : Int) (x5 : Int) (x6 : Int) (x7 : Sl) : laws_FnSubsts_j5v1 x0 x1 x2 x3 x4 x5 x6 x7 =
  oite (decide (x0 < ((x1.1 : Nat) : Int)))
    (oat [(.int .i64)] x1.1 x1.2 x0 fun (t53 : (Int × Unit)) =>
    ocall (.m (.one (.sl 1))) [] (impl_TyVars (x5, x6, x7, ())) fun (r54 : Sl) (m55 : Unit) =>
    oat [(.int .i64)] x1.1 x1.2 x0 fun (t56 : (Int × Unit)) =>
    osame (α := List V) [(.rp [(.int .i64 t53.1)] 0)] [(.rp [(.int .i64 t56.1)] 0)] (
    osame (α := List V) [(.d (.int .i64 t53.1))] [(.d (.int .i64 t53.1))] (
    oat [(.int .i64)] x1.1 x1.2 x0 fun (t57 : (Int × Unit)) =>
    ocall (.m (.one .bool)) [] (laws_has r54 t57.1) fun (r58 : Bool) (m59 : Unit) =>
    oite (!r58)
      (some ((.d (.bool false)), []))
      (laws_FnSubsts_j5v1 (w64 (x0 + (1 : Int))) x1 x2 x3 x4 x5 x6 x7))))
    (laws_FnSubsts_j4v1 (w64 (x4 + (1 : Int))) x2 x3 x5 x6 x7) := (evI_eq ..).trans (by kernel_rfl)
noncomputable def spec_DrawTySubst_j1 (x0 : Int) (x1 : Int) (x2 : T_l1Cur) (x3 : Sl) (x4 : Int) (x5 : Int) (x6 : Int) (x7 : Int) (x8 : Sl) (x9 : Sl) : Res := (fun (p : Env × Mem) => evI cx 30 0 1 p.1 p.2) ([(8, (.d (.int .i64 x0))), (4, (.ptr 0 0)), (7, (.own 1)), (2, (.ptr 2 0)), (5, (.ptr 3 0)), (6, (.d (.int .i64 x1)))], [(.box (LS.encs sh_l1Cur x2)), (.row 3 x3.1 false false x3.2), (.box [(.d (.int .i64 x4)), (.d (.int .i64 x5)), (.own 4)]), (.box [(.d (.int .i64 x6)), (.d (.int .i64 x7)), (.own 5)]), (.row 3 x8.1 false false x8.2), (.lrow 3 x9.1 true x9.2)])
noncomputable def spec_DrawTySubst_j1v1 (x0 : Int) (x1 : Int) (x2 : T_l1Cur) (x3 : Sl) (x4 : Int) (x5 : Int) (x6 : Int) (x7 : Int) (x8 : Sl) (x9 : Sl) : Res := (fun (p : Env × Mem) => evI cx 30 0 1 p.1 p.2) ([(8, (.d (.int .i64 x0))), (4, (.ptr 0 0)), (7, (.own 1)), (2, (.ptr 2 0)), (5, (.ptr 3 0)), (6, (.d (.int .i64 x1)))], [(.box (LS.encs sh_l1Cur x2)), (.row 3 x3.1 false true x3.2), (.box [(.d (.int .i64 x4)), (.d (.int .i64 x5)), (.own 4)]), (.box [(.d (.int .i64 x6)), (.d (.int .i64 x7)), (.own 5)]), (.row 3 x8.1 false false x8.2), (.lrow 3 x9.1 true x9.2)])
theorem spec_DrawTySubst_eq (x0 : Sl) : spec_DrawTySubst x0 =
  ocall (.m (.one (.ptr 0 0))) [(.box sh_l1Cur)] (spec_l1New x0) fun (r0 : Unit) (m1 : (T_l1Cur × Unit)) =>
  ocall (.m (.agg [(.int .i64), (.int .i64), (.own (0 + (List.length ((Ent.box ((V.d (D.sl false 1 m1.1.1.1 m1.1.1.2)) :: ((V.d (D.int .i64 m1.1.2.1)) :: ((V.d (D.int .i64 m1.1.2.2.1)) :: [])))) :: []))))])) [(.box sh_l1Cur), (.lrow 3 true)] (spec_l3any m1.1) fun (r2 : (Int × (Int × (Unit × Unit)))) (m3 : (T_l1Cur × (Sl × Unit))) =>
  ocall (.m (.one (.int .i64))) [(.box sh_l1Cur)] (spec_l1Below (5 : Int) m3.1) fun (r4 : Int) (m5 : (T_l1Cur × Unit)) =>
  spec_DrawTySubst_j1 (0 : Int) r4 m5.1 (0, []) (0 : Int) (0 : Int) r2.1 r2.2.1 (0, []) m3.2.1 := (evF_eq ..).trans (by kernel_rfl)
-- a loop's head
theorem spec_DrawTySubst_j1_eq (x0 : Int) (x1 : Int) (x2 : T_l1Cur) (x3 : Sl) (x4 : Int) (x5 : Int) (x6 : Int) (x7 : Int) (x8 : Sl) (x9 : Sl) : spec_DrawTySubst_j1 x0 x1 x2 x3 x4 x5 x6 x7 x8 x9 =
  oite (decide (x0 < x1))
    (ocall (.m (.agg [(.int .i64), (.int .i64), (.own (0 + (List.length ((Ent.box ((V.d (D.sl false 1 x2.1.1 x2.1.2)) :: ((V.d (D.int .i64 x2.2.1)) :: ((V.d (D.int .i64 x2.2.2.1)) :: [])))) :: []))))])) [(.box sh_l1Cur), (.lrow 3 true)] (spec_l3any x2) fun (r6 : (Int × (Int × (Unit × Unit)))) (m7 : (T_l1Cur × (Sl × Unit))) =>
    oguard (decide (((x3.1 + 1) * 40) ≤ 140737488351232)) (
    olet (x3.2 ++ ((vDs (LS.encs sh_Ty (r6.1, r6.2.1, m7.2.1, ()))) :: [])) fun (e8 : (List (List D))) =>
    spec_DrawTySubst_j1v1 (w64 (x0 + (1 : Int))) x1 m7.1 ((x3.1 + 1), e8) x4 x5 x6 x7 x8 x9))
    (some ((.tup [(.agg (LS.encs sh_Ty (x6, x7, x9, ()))), (.d (.sl false 3 x3.1 x3.2))]), [])) := (evI_eq ..).trans (by kernel_rfl)
-- a loop's head
theorem spec_DrawTySubst_j1v1_eq (x0 : Int) (x1 : Int) (x2 : T_l1Cur) (x3 : Sl) (x4 : Int) (x5 : Int) (x6 : Int) (x7 : Int) (x8 : Sl) (x9 : Sl) : spec_DrawTySubst_j1v1 x0 x1 x2 x3 x4 x5 x6 x7 x8 x9 =
  oite (decide (x0 < x1))
    (ocall (.m (.agg [(.int .i64), (.int .i64), (.own (0 + (List.length ((Ent.box ((V.d (D.sl false 1 x2.1.1 x2.1.2)) :: ((V.d (D.int .i64 x2.2.1)) :: ((V.d (D.int .i64 x2.2.2.1)) :: [])))) :: []))))])) [(.box sh_l1Cur), (.lrow 3 true)] (spec_l3any x2) fun (r9 : (Int × (Int × (Unit × Unit)))) (m10 : (T_l1Cur × (Sl × Unit))) =>
    oguard (decide (((x3.1 + 1) * 40) ≤ 140737488351232)) (
    olet (x3.2 ++ ((vDs (LS.encs sh_Ty (r9.1, r9.2.1, m10.2.1, ()))) :: [])) fun (e11 : (List (List D))) =>
    spec_DrawTySubst_j1v1 (w64 (x0 + (1 : Int))) x1 m10.1 ((x3.1 + 1), e11) x4 x5 x6 x7 x8 x9))
    (some ((.tup [(.agg (LS.encs sh_Ty (x6, x7, x9, ()))), (.d (.sl false 3 x3.1 x3.2))]), [])) := (evI_eq ..).trans (by kernel_rfl)
noncomputable def impl_TySubst_j2 (x0 : Sl) (x1 : Bool) (x2 : T_Ty) (x3 : T_Ty) : Res := (fun (p : Env × Mem) => evI cx 15 0 2 p.1 p.2) ([(4, (.ptr 0 0)), (1, (.d (.sl false 3 x0.1 x0.2))), (2, (.ptr 1 0)), (18, (.d (.bool x1)))], [(.box (LS.encs sh_Ty x2)), (.box (LS.encs sh_Ty x3))])
noncomputable def impl_TySubst_j1 (x0 : Sl) (x1 : T_Ty) (x2 : T_Ty) : Res := (fun (p : Env × Mem) => evI cx 15 0 1 p.1 p.2) ([(4, (.ptr 0 0)), (1, (.d (.sl false 3 x0.1 x0.2))), (2, (.ptr 1 0))], [(.box (LS.encs sh_Ty x1)), (.box (LS.encs sh_Ty x2))])
theorem impl_TySubst_eq (x0 : T_Ty) (x1 : Sl) : impl_TySubst x0 x1 =
  oite (decide (((x1.1 : Nat) : Int) > (60 : Int)))
    (impl_TySubst_j2 x1 true ((0 : Int), (0 : Int), (0, []), ()) x0)
    (ocall (.m (.one .bool)) [] (impl_TyOk x0) fun (r0 : Bool) (m1 : Unit) =>
    oite (!r0)
      (impl_TySubst_j2 x1 true ((0 : Int), (0 : Int), (0, []), ()) x0)
      (ocall (.m (.one .bool)) [] (impl_tysOk x1) fun (r2 : Bool) (m3 : Unit) =>
      impl_TySubst_j2 x1 (!r2) ((0 : Int), (0 : Int), (0, []), ()) x0)) := (evF_eq ..).trans (by kernel_rfl)
theorem impl_TySubst_j2_eq (x0 : Sl) (x1 : Bool) (x2 : T_Ty) (x3 : T_Ty) : impl_TySubst_j2 x0 x1 x2 x3 =
  oite x1
    (some ((.tup [(.agg [(.d (.int .i64 (0 : Int))), (.d (.int .i64 (0 : Int))), (.own 0)]), (.kb false)]), [(.lrow 3 0 false [])]))
    (impl_TySubst_j1 x0 x2 x3) := (evI_eq ..).trans (by kernel_rfl)
theorem impl_TySubst_j1_eq (x0 : Sl) (x1 : T_Ty) (x2 : T_Ty) : impl_TySubst_j1 x0 x1 x2 =
  ocall (.m (.fn 103 [(.ptr 0 0)])) [(.box [(.sl 3)])] (impl_inPlace x0) fun (r4 : (Unit × Unit)) (m5 : ((Sl × Unit) × Unit)) =>
  osame (α := List V) [(.agg [(.d (.int .i64 x2.1)), (.d (.int .i64 x2.2.1)), (.d (.sl false 3 x2.2.2.1.1 x2.2.2.1.2))])] [(.agg [(.d (.int .i64 x2.1)), (.d (.int .i64 x2.2.1)), (.d (.sl false 3 x2.2.2.1.1 x2.2.2.1.2))])] (
  ocall (.tup [(.agg [(.int .i64), (.int .i64), (.own (0 + (List.length ((Ent.box ((V.d (D.sl false 3 m5.1.1.1 m5.1.1.2)) :: [])) :: []))))]), (.one .bool)]) [(.box [(.sl 3)]), (.lrow 3 true)] (impl_put_Fimpl_inPlace_1c x2 m5.1.1) fun (r6 : ((Int × (Int × (Unit × Unit))) × (Bool × Unit))) (m7 : ((Sl × Unit) × (Sl × Unit))) =>
  ocall (.tup [(.agg [(.int .i64), (.int .i64), (.own 0)]), (.one .bool)]) [(.lrow 3 true)] (impl_toldTy r6.1.1 r6.1.2.1 r6.2.1 m7.2.1) fun (r8 : ((Int × (Int × (Unit × Unit))) × (Bool × Unit))) (m9 : (Sl × Unit)) =>
  some ((.tup [(.agg [(.d (.int .i64 r8.1.1)), (.d (.int .i64 r8.1.2.1)), (.own 0)]), (.d (.bool r8.2.1))]), [(.lrow 3 m9.1.1 true m9.1.2)])) := (evI_eq ..).trans (by kernel_rfl)
theorem spec_TyOk_eq (x0 : T_Ty) : spec_TyOk x0 =
  ocall (.m (.one (.int .i64))) [] (spec_l3ok x0 (1 : Int)) fun (r0 : Int) (m1 : Unit) =>
  some ((.d (.bool (decide (r0 > (0 : Int))))), []) := (evF_eq ..).trans (by kernel_rfl)
noncomputable def laws_sameTy_j2 (x0 : Bool) (x1 : T_Ty) (x2 : T_Ty) : Res := (fun (p : Env × Mem) => evI cx 32 0 2 p.1 p.2) ([(3, (.ptr 0 0)), (2, (.ptr 1 0)), (26, (.d (.bool x0)))], [(.box (LS.encs sh_Ty x1)), (.box (LS.encs sh_Ty x2))])
noncomputable def laws_sameTy_j1 (x0 : T_Ty) (x1 : T_Ty) : Res := (fun (p : Env × Mem) => evI cx 32 0 1 p.1 p.2) ([(3, (.ptr 0 0)), (2, (.ptr 1 0))], [(.box (LS.encs sh_Ty x0)), (.box (LS.encs sh_Ty x1))])
noncomputable def laws_sameTy_j3 (x0 : Int) (x1 : T_Ty) (x2 : T_Ty) : Res := (fun (p : Env × Mem) => evI cx 32 0 3 p.1 p.2) ([(5, (.d (.int .i64 x0))), (3, (.ptr 0 0)), (2, (.ptr 1 0))], [(.box (LS.encs sh_Ty x1)), (.box (LS.encs sh_Ty x2))])
theorem laws_sameTy_eq (x0 : T_Ty) (x1 : T_Ty) : laws_sameTy x0 x1 =
  oite (!(x0.1 == x1.1))
    (laws_sameTy_j2 true x1 x0)
    (oite (!(x0.2.1 == x1.2.1))
      (laws_sameTy_j2 true x1 x0)
      (laws_sameTy_j2 (!(((x0.2.2.1.1 : Nat) : Int) == ((x1.2.2.1.1 : Nat) : Int))) x1 x0)) := (evF_eq ..).trans (by kernel_rfl)
theorem laws_sameTy_j2_eq (x0 : Bool) (x1 : T_Ty) (x2 : T_Ty) : laws_sameTy_j2 x0 x1 x2 =
  oite x0
    (some ((.d (.bool false)), []))
    (laws_sameTy_j1 x1 x2) := (evI_eq ..).trans (by kernel_rfl)
theorem laws_sameTy_j1_eq (x0 : T_Ty) (x1 : T_Ty) : laws_sameTy_j1 x0 x1 =
  laws_sameTy_j3 (0 : Int) x0 x1 := (evI_eq ..).trans (by kernel_rfl)
-- a loop's head
theorem laws_sameTy_j3_eq (x0 : Int) (x1 : T_Ty) (x2 : T_Ty) : laws_sameTy_j3 x0 x1 x2 =
  oite (decide (x0 < ((x2.2.2.1.1 : Nat) : Int)))
    (oat sh_Ty x2.2.2.1.1 x2.2.2.1.2 x0 fun (t0 : T_Ty) =>
    oat sh_Ty x1.2.2.1.1 x1.2.2.1.2 x0 fun (t1 : T_Ty) =>
    ocall (.m (.one .bool)) [] (laws_sameTy t0 t1) fun (r2 : Bool) (m3 : Unit) =>
    oite (!r2)
      (some ((.d (.bool false)), []))
      (laws_sameTy_j3 (w64 (x0 + (1 : Int))) x1 x2))
    (some ((.d (.bool true)), [])) := (evI_eq ..).trans (by kernel_rfl)
theorem impl_TySize_eq (x0 : T_Ty) : impl_TySize x0 =
  ocall (.m (.one (.int .i64))) [] (impl_measure x0 (1 : Int)) fun (r0 : Int) (m1 : Unit) =>
  oite (decide (r0 ≤ (60 : Int)))
    (some ((.d (.int .i64 r0)), []))
    (some ((.d (.int .i64 (0 : Int))), [])) := (evF_eq ..).trans (by kernel_rfl)
theorem spec_TyVars_eq (x0 : T_Ty) : spec_TyVars x0 =
  ocall (.m (.one .bool)) [] (spec_TyOk x0) fun (r0 : Bool) (m1 : Unit) =>
  oite (!r0)
    (some ((.d (.sl false 1 0 [])), []))
    (ocall (.m (.one (.sl 1))) [] (spec_l3vars x0 (0, [])) fun (r2 : Sl) (m3 : Unit) =>
    some ((.d (.sl false 1 r2.1 r2.2)), [])) := (evF_eq ..).trans (by kernel_rfl)
theorem impl_TyVars_eq (x0 : T_Ty) : impl_TyVars x0 =
  ocall (.m (.one .bool)) [] (impl_TyOk x0) fun (r0 : Bool) (m1 : Unit) =>
  oite (!r0)
    (some ((.d (.sl false 1 0 [])), []))
    (ocall (.tup []) [(.box [(.own 1)]), (.row 1 false true)] (impl_eachVar_Fimpl_TyVars_1c x0 (0, [])) fun (r2 : Unit) (m3 : ((Unit × Unit) × (Sl × Unit))) =>
    ocall (.tup []) [(.row 1 false false)] (slices_Sort_int_int_o m3.2.1) fun (r4 : Unit) (m5 : (Sl × Unit)) =>
    ocall (.m (.one (.own 0))) [(.row 1 false true)] (slices_Compact_int_int_o m5.1) fun (r6 : Unit) (m7 : (Sl × Unit)) =>
    some ((.d (.sl false 1 m7.1.1 m7.1.2)), [])) := (evF_eq ..).trans (by kernel_rfl)
noncomputable def laws_has_j1 (x0 : Int) (x1 : Int) (x2 : Sl) : Res := (fun (p : Env × Mem) => evI cx 35 0 1 p.1 p.2) ([(5, (.d (.int .i64 x0))), (1, (.d (.int .i64 x1))), (0, (.d (.sl false 1 x2.1 x2.2)))], [])
theorem laws_has_eq (x0 : Sl) (x1 : Int) : laws_has x0 x1 =
  laws_has_j1 (0 : Int) x1 x0 := (evF_eq ..).trans (by kernel_rfl)
-- a loop's head
theorem laws_has_j1_eq (x0 : Int) (x1 : Int) (x2 : Sl) : laws_has_j1 x0 x1 x2 =
  oite (decide (x0 < ((x2.1 : Nat) : Int)))
    (oat [(.int .i64)] x2.1 x2.2 x0 fun (t0 : (Int × Unit)) =>
    oite (t0.1 == x1)
      (some ((.d (.bool true)), []))
      (laws_has_j1 (w64 (x0 + (1 : Int))) x1 x2))
    (some ((.d (.bool false)), [])) := (evI_eq ..).trans (by kernel_rfl)
noncomputable def spec_l1New_j1 (x0 : Int) (x1 : Sl) (x2 : Int) : Res := (fun (p : Env × Mem) => evI cx 67 0 1 p.1 p.2) ([(4, (.d (.int .i64 x0))), (0, (.d (.sl false 1 x1.1 x1.2))), (3, (.d (.int .i64 x2)))], [])
noncomputable def spec_l1New_j3 (x0 : Sl) (x1 : Int) (x2 : Int) (x3 : Bool) : Res := (fun (p : Env × Mem) => evI cx 67 0 3 p.1 p.2) ([(0, (.d (.sl false 1 x0.1 x0.2))), (4, (.d (.int .i64 x1))), (3, (.d (.int .i64 x2))), (15, (.d (.bool x3)))], [])
noncomputable def spec_l1New_j2 (x0 : Sl) (x1 : Int) (x2 : Int) : Res := (fun (p : Env × Mem) => evI cx 67 0 2 p.1 p.2) ([(0, (.d (.sl false 1 x0.1 x0.2))), (4, (.d (.int .i64 x1))), (3, (.d (.int .i64 x2)))], [])
theorem spec_l1New_eq (x0 : Sl) : spec_l1New x0 =
  spec_l1New_j1 (0 : Int) x0 (w64 ((29393 : Int) + ((x0.1 : Nat) : Int))) := (evF_eq ..).trans (by kernel_rfl)
-- a loop's head
theorem spec_l1New_j1_eq (x0 : Int) (x1 : Sl) (x2 : Int) : spec_l1New_j1 x0 x1 x2 =
  oite (decide (x0 < ((x1.1 : Nat) : Int)))
    (spec_l1New_j3 x1 x0 x2 (decide (x0 < (4000 : Int))))
    (spec_l1New_j3 x1 x0 x2 false) := (evI_eq ..).trans (by kernel_rfl)
theorem spec_l1New_j3_eq (x0 : Sl) (x1 : Int) (x2 : Int) (x3 : Bool) : spec_l1New_j3 x0 x1 x2 x3 =
  oite x3
    (spec_l1New_j2 x0 x1 x2)
    (some ((.ptr 0 0), [(.box (LS.encs sh_l1Cur (x0, (0 : Int), x2, ())))])) := (evI_eq ..).trans (by kernel_rfl)
theorem spec_l1New_j2_eq (x0 : Sl) (x1 : Int) (x2 : Int) : spec_l1New_j2 x0 x1 x2 =
  oat [(.int .u8)] x0.1 x0.2 x1 fun (t0 : (Int × Unit)) =>
  spec_l1New_j1 (w64 (x1 + (1 : Int))) x0 (w64 (((BitVec.toNat ((BitVec.ofInt 64 (w64 ((w64 ((w64 (x2 * (131 : Int))) + (w64 t0.1))) + (7 : Int)))) &&& (BitVec.ofInt 64 (1073741823 : Int)))) : Nat) : Int)) := (evI_eq ..).trans (by kernel_rfl)
noncomputable def spec_l3any_j2 (x0 : Int) (x1 : Int) (x2 : T_l1Cur) (x3 : Int) (x4 : Int) (x5 : Int) (x6 : Int) (x7 : Sl) (x8 : Sl) : Res := (fun (p : Env × Mem) => evI cx 68 1 2 p.1 p.2) ([(5, (.d (.int .i64 x0))), (3, (.ptr 1 0)), (2, (.ptr 2 0)), (0, (.ptr 0 0)), (4, (.d (.int .i64 x1)))], [(.box (LS.encs sh_l1Cur x2)), (.box [(.d (.int .i64 x3)), (.d (.int .i64 x4)), (.own 3)]), (.box [(.d (.int .i64 x5)), (.d (.int .i64 x6)), (.own 4)]), (.lrow 3 x7.1 true x7.2), (.lrow 3 x8.1 false x8.2)])
noncomputable def spec_l3any_j1 (x0 : T_l1Cur) (x1 : Int) (x2 : Int) (x3 : Int) (x4 : Int) (x5 : Sl) (x6 : Sl) : Res := (fun (p : Env × Mem) => evI cx 68 1 1 p.1 p.2) ([(3, (.ptr 1 0)), (2, (.ptr 2 0)), (0, (.ptr 0 0))], [(.box (LS.encs sh_l1Cur x0)), (.box [(.d (.int .i64 x1)), (.d (.int .i64 x2)), (.own 3)]), (.box [(.d (.int .i64 x3)), (.d (.int .i64 x4)), (.own 4)]), (.lrow 3 x5.1 true x5.2), (.lrow 3 x6.1 false x6.2)])
noncomputable def spec_l3any_j2v1 (x0 : Int) (x1 : Int) (x2 : T_l1Cur) (x3 : Int) (x4 : Int) (x5 : Int) (x6 : Int) (x7 : Sl) (x8 : Sl) : Res := (fun (p : Env × Mem) => evI cx 68 1 2 p.1 p.2) ([(5, (.d (.int .i64 x0))), (3, (.ptr 1 0)), (2, (.ptr 2 0)), (0, (.ptr 0 0)), (4, (.d (.int .i64 x1)))], [(.box (LS.encs sh_l1Cur x2)), (.box [(.d (.int .i64 x3)), (.d (.int .i64 x4)), (.own 3)]), (.box [(.d (.int .i64 x5)), (.d (.int .i64 x6)), (.own 4)]), (.lrow 3 x7.1 false x7.2), (.lrow 3 x8.1 false x8.2)])
noncomputable def spec_l3any_j4 (x0 : Int) (x1 : Int) (x2 : T_l1Cur) (x3 : Int) (x4 : Int) (x5 : Int) (x6 : Int) (x7 : Sl) (x8 : Sl) : Res := (fun (p : Env × Mem) => evI cx 68 1 4 p.1 p.2) ([(7, (.d (.int .i64 x0))), (3, (.ptr 1 0)), (2, (.ptr 2 0)), (0, (.ptr 0 0)), (6, (.d (.int .i64 x1)))], [(.box (LS.encs sh_l1Cur x2)), (.box [(.d (.int .i64 x3)), (.d (.int .i64 x4)), (.own 3)]), (.box [(.d (.int .i64 x5)), (.d (.int .i64 x6)), (.own 4)]), (.lrow 3 x7.1 true x7.2), (.lrow 3 x8.1 false x8.2)])
noncomputable def spec_l3any_j3 (x0 : T_l1Cur) (x1 : Int) (x2 : Int) (x3 : Int) (x4 : Int) (x5 : Sl) (x6 : Sl) : Res := (fun (p : Env × Mem) => evI cx 68 1 3 p.1 p.2) ([(2, (.ptr 1 0)), (3, (.ptr 2 0)), (0, (.ptr 0 0))], [(.box (LS.encs sh_l1Cur x0)), (.box [(.d (.int .i64 x1)), (.d (.int .i64 x2)), (.own 3)]), (.box [(.d (.int .i64 x3)), (.d (.int .i64 x4)), (.own 4)]), (.lrow 3 x5.1 false x5.2), (.lrow 3 x6.1 true x6.2)])
noncomputable def spec_l3any_j1v1 (x0 : T_l1Cur) (x1 : Int) (x2 : Int) (x3 : Int) (x4 : Int) (x5 : Sl) (x6 : Sl) : Res := (fun (p : Env × Mem) => evI cx 68 1 1 p.1 p.2) ([(3, (.ptr 1 0)), (2, (.ptr 2 0)), (0, (.ptr 0 0))], [(.box (LS.encs sh_l1Cur x0)), (.box [(.d (.int .i64 x1)), (.d (.int .i64 x2)), (.own 3)]), (.box [(.d (.int .i64 x3)), (.d (.int .i64 x4)), (.own 4)]), (.lrow 3 x5.1 false x5.2), (.lrow 3 x6.1 false x6.2)])
noncomputable def spec_l3any_j4v1 (x0 : Int) (x1 : Int) (x2 : T_l1Cur) (x3 : Int) (x4 : Int) (x5 : Int) (x6 : Int) (x7 : Sl) (x8 : Sl) : Res := (fun (p : Env × Mem) => evI cx 68 1 4 p.1 p.2) ([(7, (.d (.int .i64 x0))), (3, (.ptr 1 0)), (2, (.ptr 2 0)), (0, (.ptr 0 0)), (6, (.d (.int .i64 x1)))], [(.box (LS.encs sh_l1Cur x2)), (.box [(.d (.int .i64 x3)), (.d (.int .i64 x4)), (.own 3)]), (.box [(.d (.int .i64 x5)), (.d (.int .i64 x6)), (.own 4)]), (.lrow 3 x7.1 false x7.2), (.lrow 3 x8.1 false x8.2)])
noncomputable def spec_l3any_j5 (x0 : T_l1Cur) (x1 : Int) (x2 : Int) (x3 : Int) (x4 : Int) (x5 : Sl) (x6 : Sl) : Res := (fun (p : Env × Mem) => evI cx 68 1 5 p.1 p.2) ([(2, (.ptr 1 0)), (3, (.ptr 2 0))], [(.box (LS.encs sh_l1Cur x0)), (.box [(.d (.int .i64 x1)), (.d (.int .i64 x2)), (.own 3)]), (.box [(.d (.int .i64 x3)), (.d (.int .i64 x4)), (.own 4)]), (.lrow 3 x5.1 false x5.2), (.lrow 3 x6.1 true x6.2)])
noncomputable def spec_l3any_j5v1 (x0 : T_l1Cur) (x1 : Int) (x2 : Int) (x3 : Int) (x4 : Int) (x5 : Sl) (x6 : Sl) : Res := (fun (p : Env × Mem) => evI cx 68 1 5 p.1 p.2) ([(2, (.ptr 1 0)), (3, (.ptr 2 0))], [(.box (LS.encs sh_l1Cur x0)), (.box [(.d (.int .i64 x1)), (.d (.int .i64 x2)), (.own 3)]), (.box [(.d (.int .i64 x3)), (.d (.int .i64 x4)), (.own 4)]), (.lrow 3 x5.1 false x5.2), (.lrow 3 x6.1 false x6.2)])
noncomputable def spec_l3any_j3v1 (x0 : T_l1Cur) (x1 : Int) (x2 : Int) (x3 : Int) (x4 : Int) (x5 : Sl) (x6 : Sl) : Res := (fun (p : Env × Mem) => evI cx 68 1 3 p.1 p.2) ([(2, (.ptr 1 0)), (3, (.ptr 2 0)), (0, (.ptr 0 0))], [(.box (LS.encs sh_l1Cur x0)), (.box [(.d (.int .i64 x1)), (.d (.int .i64 x2)), (.own 3)]), (.box [(.d (.int .i64 x3)), (.d (.int .i64 x4)), (.own 4)]), (.lrow 3 x5.1 false x5.2), (.lrow 3 x6.1 false x6.2)])
theorem spec_l3any_eq (x0 : T_l1Cur) : spec_l3any x0 =
  ocall (.m (.one (.int .i64))) [(.box sh_l1Cur)] (spec_l1Below (4 : Int) x0) fun (r0 : Int) (m1 : (T_l1Cur × Unit)) =>
  ocall (.m (.agg [(.int .i64), (.int .i64), (.own (0 + (List.length ((Ent.box ((V.d (D.sl false 1 m1.1.1.1 m1.1.1.2)) :: ((V.d (D.int .i64 m1.1.2.1)) :: ((V.d (D.int .i64 m1.1.2.2.1)) :: [])))) :: []))))])) [(.box sh_l1Cur), (.lrow 3 true)] (spec_l3ty (w64 ((1 : Int) + r0)) (4 : Int) (3 : Int) m1.1) fun (r2 : (Int × (Int × (Unit × Unit)))) (m3 : (T_l1Cur × (Sl × Unit))) =>
  ocall (.m (.one .bool)) [(.box sh_l1Cur)] (spec_l1Once (12 : Int) m3.1) fun (r4 : Bool) (m5 : (T_l1Cur × Unit)) =>
  oite r4
    (ocall (.m (.one (.int .i64))) [(.box sh_l1Cur)] (spec_l1Below (12 : Int) m5.1) fun (r6 : Int) (m7 : (T_l1Cur × Unit)) =>
    spec_l3any_j2 (0 : Int) r6 m7.1 r2.1 r2.2.1 (0 : Int) (0 : Int) m3.2.1 (0, []))
    (spec_l3any_j1 m5.1 r2.1 r2.2.1 (0 : Int) (0 : Int) m3.2.1 (0, [])) := (evF_eq ..).trans (by kernel_rfl)
-- a loop's head
theorem spec_l3any_j2_eq (x0 : Int) (x1 : Int) (x2 : T_l1Cur) (x3 : Int) (x4 : Int) (x5 : Int) (x6 : Int) (x7 : Sl) (x8 : Sl) : spec_l3any_j2 x0 x1 x2 x3 x4 x5 x6 x7 x8 =
  oite (decide (x0 < x1))
    (spec_l3any_j2v1 (w64 (x0 + (1 : Int))) x1 x2 (5 : Int) (0 : Int) x5 x6 (1, ((vDs (LS.encs sh_Ty (x3, x4, x7, ()))) :: [])) x8)
    (spec_l3any_j1 x2 x3 x4 x5 x6 x7 x8) := (evI_eq ..).trans (by kernel_rfl)
theorem spec_l3any_j1_eq (x0 : T_l1Cur) (x1 : Int) (x2 : Int) (x3 : Int) (x4 : Int) (x5 : Sl) (x6 : Sl) : spec_l3any_j1 x0 x1 x2 x3 x4 x5 x6 =
  ocall (.m (.one .bool)) [(.box sh_l1Cur)] (spec_l1Once (20 : Int) x0) fun (r8 : Bool) (m9 : (T_l1Cur × Unit)) =>
  oite r8
    (ocall (.m (.one (.int .i64))) [(.box sh_l1Cur)] (spec_l1Below (7 : Int) m9.1) fun (r10 : Int) (m11 : (T_l1Cur × Unit)) =>
    spec_l3any_j4 (0 : Int) r10 m11.1 x1 x2 x3 x4 x5 x6)
    (spec_l3any_j3 m9.1 x3 x4 x1 x2 x6 x5) := (evI_eq ..).trans (by kernel_rfl)
-- a loop's head
theorem spec_l3any_j2v1_eq (x0 : Int) (x1 : Int) (x2 : T_l1Cur) (x3 : Int) (x4 : Int) (x5 : Int) (x6 : Int) (x7 : Sl) (x8 : Sl) : spec_l3any_j2v1 x0 x1 x2 x3 x4 x5 x6 x7 x8 =
  oite (decide (x0 < x1))
    (spec_l3any_j2v1 (w64 (x0 + (1 : Int))) x1 x2 (5 : Int) (0 : Int) x5 x6 (1, ((vDs (LS.encs sh_Ty (x3, x4, x7, ()))) :: [])) x8)
    (spec_l3any_j1v1 x2 x3 x4 x5 x6 x7 x8) := (evI_eq ..).trans (by kernel_rfl)
-- a loop's head
theorem spec_l3any_j4_eq (x0 : Int) (x1 : Int) (x2 : T_l1Cur) (x3 : Int) (x4 : Int) (x5 : Int) (x6 : Int) (x7 : Sl) (x8 : Sl) : spec_l3any_j4 x0 x1 x2 x3 x4 x5 x6 x7 x8 =
  oite (decide (x0 < x1))
    (ocall (.m (.agg [(.int .i64), (.int .i64), (.own 0)])) [(.lrow 3 true)] (spec_l3copy (x3, x4, x7, ())) fun (r12 : (Int × (Int × (Unit × Unit)))) (m13 : (Sl × Unit)) =>
    osame (α := List V) [(.agg [(.d (.int .i64 x3)), (.d (.int .i64 x4)), (.own 3)])] [(.agg [(.d (.int .i64 x3)), (.d (.int .i64 x4)), (.own 3)])] (
    ocall (.m (.agg [(.int .i64), (.int .i64), (.own 0)])) [(.lrow 3 true)] (spec_l3copy (x3, x4, x7, ())) fun (r14 : (Int × (Int × (Unit × Unit)))) (m15 : (Sl × Unit)) =>
    spec_l3any_j4v1 (w64 (x0 + (1 : Int))) x1 x2 (3 : Int) (0 : Int) x5 x6 (2, ((vDs (LS.encs sh_Ty (r12.1, r12.2.1, m13.1, ()))) :: ((vDs (LS.encs sh_Ty (r14.1, r14.2.1, m15.1, ()))) :: []))) x8))
    (spec_l3any_j3 x2 x5 x6 x3 x4 x8 x7) := (evI_eq ..).trans (by kernel_rfl)
theorem spec_l3any_j3_eq (x0 : T_l1Cur) (x1 : Int) (x2 : Int) (x3 : Int) (x4 : Int) (x5 : Sl) (x6 : Sl) : spec_l3any_j3 x0 x1 x2 x3 x4 x5 x6 =
  ocall (.m (.one .bool)) [(.box sh_l1Cur)] (spec_l1Once (15 : Int) x0) fun (r16 : Bool) (m17 : (T_l1Cur × Unit)) =>
  oite r16
    (ocall (.m (.one (.int .i64))) [(.box sh_l1Cur)] (spec_l1Below (6 : Int) m17.1) fun (r18 : Int) (m19 : (T_l1Cur × Unit)) =>
    oite (r18 == (0 : Int))
      (ocall (.m (.one (.int .i64))) [(.box sh_l1Cur)] (spec_l1PickInt (4, (((D.int .i64 (-1 : Int)) :: []) :: (((D.int .i64 (8 : Int)) :: []) :: (((D.int .i64 (3 : Int)) :: []) :: (((D.int .i64 (5 : Int)) :: []) :: []))))) m19.1) fun (r20 : Int) (m21 : (T_l1Cur × Unit)) =>
      spec_l3any_j5 m21.1 x1 x2 r20 x4 x5 x6)
      (oite (r18 == (1 : Int))
        (ocall (.m (.one (.int .i64))) [(.box sh_l1Cur)] (spec_l1PickInt (4, (((D.int .i64 (-1 : Int)) :: []) :: (((D.int .i64 (1 : Int)) :: []) :: (((D.int .i64 (20 : Int)) :: []) :: (((D.int .i64 (100000 : Int)) :: []) :: []))))) m19.1) fun (r22 : Int) (m23 : (T_l1Cur × Unit)) =>
        spec_l3any_j5 m23.1 x1 x2 x3 r22 x5 x6)
        (oite (r18 == (2 : Int))
          (oguard (decide (((x6.1 + 1) * 40) ≤ 140737488351232)) (
          olet (x6.2 ++ ((vDs (LS.encs sh_Ty ((0 : Int), (0 : Int), (0, []), ()))) :: [])) fun (e24 : (List (List D))) =>
          spec_l3any_j5 m19.1 x1 x2 x3 x4 x5 ((x6.1 + 1), e24)))
          (oite (r18 == (3 : Int))
            (ocall (.m (.one (.int .i64))) [(.box sh_l1Cur)] (spec_l1Below (2 : Int) m19.1) fun (r25 : Int) (m26 : (T_l1Cur × Unit)) =>
            spec_l3any_j5v1 m26.1 x1 x2 (7 : Int) (w64 ((100000 : Int) - r25)) x5 (0, []))
            (oite (r18 == (4 : Int))
              (ocall (.m (.one (.int .i64))) [(.box sh_l1Cur)] (spec_l1Below (2 : Int) m19.1) fun (r27 : Int) (m28 : (T_l1Cur × Unit)) =>
              ocall (.m (.one (.int .i64))) [(.box sh_l1Cur)] (spec_l1Below (5 : Int) m28.1) fun (r29 : Int) (m30 : (T_l1Cur × Unit)) =>
              oguard (decide (((0 : Int) ≤ r29) ∧ ((r29 = r29) ∧ ((r29 * (40 : Int)) ≤ (140737488351232 : Int))))) (
              olet (List.replicate (Int.toNat r29) (vDs (LS.encs sh_Ty ((0 : Int), (0 : Int), (0, []), ())))) fun (e31 : (List (List D))) =>
              spec_l3any_j5v1 m30.1 x1 x2 (6 : Int) (w64 ((20 : Int) - r27)) x5 ((Int.toNat r29), e31)))
              (spec_l3any_j5v1 m19.1 x1 x2 (4 : Int) (0 : Int) x5 (2, ((vDs (LS.encs sh_Ty (x3, x4, x6, ()))) :: ((vDs (LS.encs sh_Ty ((9 : Int), (0 : Int), (0, []), ()))) :: [])))))))))
    (spec_l3any_j5 m17.1 x1 x2 x3 x4 x5 x6) := (evI_eq ..).trans (by kernel_rfl)
theorem spec_l3any_j1v1_eq (x0 : T_l1Cur) (x1 : Int) (x2 : Int) (x3 : Int) (x4 : Int) (x5 : Sl) (x6 : Sl) : spec_l3any_j1v1 x0 x1 x2 x3 x4 x5 x6 =
  ocall (.m (.one .bool)) [(.box sh_l1Cur)] (spec_l1Once (20 : Int) x0) fun (r32 : Bool) (m33 : (T_l1Cur × Unit)) =>
  oite r32
    (ocall (.m (.one (.int .i64))) [(.box sh_l1Cur)] (spec_l1Below (7 : Int) m33.1) fun (r34 : Int) (m35 : (T_l1Cur × Unit)) =>
    spec_l3any_j4v1 (0 : Int) r34 m35.1 x1 x2 x3 x4 x5 x6)
    (spec_l3any_j3v1 m33.1 x3 x4 x1 x2 x6 x5) := (evI_eq ..).trans (by kernel_rfl)
-- a loop's head
theorem spec_l3any_j4v1_eq (x0 : Int) (x1 : Int) (x2 : T_l1Cur) (x3 : Int) (x4 : Int) (x5 : Int) (x6 : Int) (x7 : Sl) (x8 : Sl) : spec_l3any_j4v1 x0 x1 x2 x3 x4 x5 x6 x7 x8 =
  oite (decide (x0 < x1))
    (ocall (.m (.agg [(.int .i64), (.int .i64), (.own 0)])) [(.lrow 3 true)] (spec_l3copy (x3, x4, x7, ())) fun (r36 : (Int × (Int × (Unit × Unit)))) (m37 : (Sl × Unit)) =>
    osame (α := List V) [(.agg [(.d (.int .i64 x3)), (.d (.int .i64 x4)), (.own 3)])] [(.agg [(.d (.int .i64 x3)), (.d (.int .i64 x4)), (.own 3)])] (
    ocall (.m (.agg [(.int .i64), (.int .i64), (.own 0)])) [(.lrow 3 true)] (spec_l3copy (x3, x4, x7, ())) fun (r38 : (Int × (Int × (Unit × Unit)))) (m39 : (Sl × Unit)) =>
    spec_l3any_j4v1 (w64 (x0 + (1 : Int))) x1 x2 (3 : Int) (0 : Int) x5 x6 (2, ((vDs (LS.encs sh_Ty (r36.1, r36.2.1, m37.1, ()))) :: ((vDs (LS.encs sh_Ty (r38.1, r38.2.1, m39.1, ()))) :: []))) x8))
    (spec_l3any_j3v1 x2 x5 x6 x3 x4 x8 x7) := (evI_eq ..).trans (by kernel_rfl)
theorem spec_l3any_j5_eq (x0 : T_l1Cur) (x1 : Int) (x2 : Int) (x3 : Int) (x4 : Int) (x5 : Sl) (x6 : Sl) : spec_l3any_j5 x0 x1 x2 x3 x4 x5 x6 =
  some ((.agg [(.d (.int .i64 x3)), (.d (.int .i64 x4)), (.own 1)]), [(.box (LS.encs sh_l1Cur x0)), (.lrow 3 x6.1 true x6.2)]) := (evI_eq ..).trans (by kernel_rfl)
theorem spec_l3any_j5v1_eq (x0 : T_l1Cur) (x1 : Int) (x2 : Int) (x3 : Int) (x4 : Int) (x5 : Sl) (x6 : Sl) : spec_l3any_j5v1 x0 x1 x2 x3 x4 x5 x6 =
  some ((.agg [(.d (.int .i64 x3)), (.d (.int .i64 x4)), (.own 1)]), [(.box (LS.encs sh_l1Cur x0)), (.lrow 3 x6.1 false x6.2)]) := (evI_eq ..).trans (by kernel_rfl)
theorem spec_l3any_j3v1_eq (x0 : T_l1Cur) (x1 : Int) (x2 : Int) (x3 : Int) (x4 : Int) (x5 : Sl) (x6 : Sl) : spec_l3any_j3v1 x0 x1 x2 x3 x4 x5 x6 =
  ocall (.m (.one .bool)) [(.box sh_l1Cur)] (spec_l1Once (15 : Int) x0) fun (r40 : Bool) (m41 : (T_l1Cur × Unit)) =>
  oite r40
    (ocall (.m (.one (.int .i64))) [(.box sh_l1Cur)] (spec_l1Below (6 : Int) m41.1) fun (r42 : Int) (m43 : (T_l1Cur × Unit)) =>
    oite (r42 == (0 : Int))
      (ocall (.m (.one (.int .i64))) [(.box sh_l1Cur)] (spec_l1PickInt (4, (((D.int .i64 (-1 : Int)) :: []) :: (((D.int .i64 (8 : Int)) :: []) :: (((D.int .i64 (3 : Int)) :: []) :: (((D.int .i64 (5 : Int)) :: []) :: []))))) m43.1) fun (r44 : Int) (m45 : (T_l1Cur × Unit)) =>
      spec_l3any_j5v1 m45.1 x1 x2 r44 x4 x5 x6)
      (oite (r42 == (1 : Int))
        (ocall (.m (.one (.int .i64))) [(.box sh_l1Cur)] (spec_l1PickInt (4, (((D.int .i64 (-1 : Int)) :: []) :: (((D.int .i64 (1 : Int)) :: []) :: (((D.int .i64 (20 : Int)) :: []) :: (((D.int .i64 (100000 : Int)) :: []) :: []))))) m43.1) fun (r46 : Int) (m47 : (T_l1Cur × Unit)) =>
        spec_l3any_j5v1 m47.1 x1 x2 x3 r46 x5 x6)
        (oite (r42 == (2 : Int))
          (oguard (decide (((x6.1 + 1) * 40) ≤ 140737488351232)) (
          olet (x6.2 ++ ((vDs (LS.encs sh_Ty ((0 : Int), (0 : Int), (0, []), ()))) :: [])) fun (e48 : (List (List D))) =>
          spec_l3any_j5 m43.1 x1 x2 x3 x4 x5 ((x6.1 + 1), e48)))
          (oite (r42 == (3 : Int))
            (ocall (.m (.one (.int .i64))) [(.box sh_l1Cur)] (spec_l1Below (2 : Int) m43.1) fun (r49 : Int) (m50 : (T_l1Cur × Unit)) =>
            spec_l3any_j5v1 m50.1 x1 x2 (7 : Int) (w64 ((100000 : Int) - r49)) x5 (0, []))
            (oite (r42 == (4 : Int))
              (ocall (.m (.one (.int .i64))) [(.box sh_l1Cur)] (spec_l1Below (2 : Int) m43.1) fun (r51 : Int) (m52 : (T_l1Cur × Unit)) =>
              ocall (.m (.one (.int .i64))) [(.box sh_l1Cur)] (spec_l1Below (5 : Int) m52.1) fun (r53 : Int) (m54 : (T_l1Cur × Unit)) =>
              oguard (decide (((0 : Int) ≤ r53) ∧ ((r53 = r53) ∧ ((r53 * (40 : Int)) ≤ (140737488351232 : Int))))) (
              olet (List.replicate (Int.toNat r53) (vDs (LS.encs sh_Ty ((0 : Int), (0 : Int), (0, []), ())))) fun (e55 : (List (List D))) =>
              spec_l3any_j5v1 m54.1 x1 x2 (6 : Int) (w64 ((20 : Int) - r51)) x5 ((Int.toNat r53), e55)))
              (spec_l3any_j5v1 m43.1 x1 x2 (4 : Int) (0 : Int) x5 (2, ((vDs (LS.encs sh_Ty (x3, x4, x6, ()))) :: ((vDs (LS.encs sh_Ty ((9 : Int), (0 : Int), (0, []), ()))) :: [])))))))))
    (spec_l3any_j5v1 m41.1 x1 x2 x3 x4 x5 x6) := (evI_eq ..).trans (by kernel_rfl)
theorem spec_l1Below_eq (x0 : Int) (x1 : T_l1Cur) : spec_l1Below x0 x1 =
  oite (decide (x0 ≤ (0 : Int)))
    (some ((.d (.int .i64 (0 : Int))), [(.box (LS.encs sh_l1Cur x1))]))
    (oite (decide (x0 ≤ (256 : Int)))
      (ocall (.m (.one (.int .i64))) [(.box sh_l1Cur)] (spec_l1Byte x1) fun (r0 : Int) (m1 : (T_l1Cur × Unit)) =>
      oguard (decide (x0 ≠ (0 : Int))) (
      some ((.d (.int .i64 (Int.tmod r0 x0))), [(.box (LS.encs sh_l1Cur m1.1))])))
      (ocall (.m (.one (.int .i64))) [(.box sh_l1Cur)] (spec_l1Byte x1) fun (r2 : Int) (m3 : (T_l1Cur × Unit)) =>
      ocall (.m (.one (.int .i64))) [(.box sh_l1Cur)] (spec_l1Byte m3.1) fun (r4 : Int) (m5 : (T_l1Cur × Unit)) =>
      ocall (.m (.one (.int .i64))) [(.box sh_l1Cur)] (spec_l1Byte m5.1) fun (r6 : Int) (m7 : (T_l1Cur × Unit)) =>
      ocall (.m (.one (.int .i64))) [(.box sh_l1Cur)] (spec_l1Byte m7.1) fun (r8 : Int) (m9 : (T_l1Cur × Unit)) =>
      oguard (decide (x0 ≠ (0 : Int))) (
      some ((.d (.int .i64 (Int.tmod (w64 ((w64 ((w64 ((w64 (r2 * (16777216 : Int))) + (w64 (r4 * (65536 : Int))))) + (w64 (r6 * (256 : Int))))) + r8)) x0))), [(.box (LS.encs sh_l1Cur m9.1))])))) := (evF_eq ..).trans (by kernel_rfl)
theorem impl_TyOk_eq (x0 : T_Ty) : impl_TyOk x0 =
  ocall (.m (.one (.int .i64))) [] (impl_measure x0 (1 : Int)) fun (r0 : Int) (m1 : Unit) =>
  some ((.d (.bool (decide (r0 ≤ (60 : Int))))), []) := (evF_eq ..).trans (by kernel_rfl)
theorem impl_tysOk_eq (x0 : Sl) : impl_tysOk x0 =
  ocall (.m (.one .bool)) [] (slices_ContainsFunc_impl_Ty_impl_Ty_Fimpl_tysOk_1 x0) fun (r0 : Bool) (m1 : Unit) =>
  some ((.d (.bool (!r0))), []) := (evF_eq ..).trans (by kernel_rfl)
theorem impl_inPlace_eq (x0 : Sl) : impl_inPlace x0 =
  some ((.fn 103 [(.ptr 0 0)]), [(.box [(.d (.sl false 3 x0.1 x0.2))])]) := (evF_eq ..).trans (by kernel_rfl)
theorem impl_put_Fimpl_inPlace_1c_eq (x0 : T_Ty) (x1 : Sl) : impl_put_Fimpl_inPlace_1c x0 x1 =
  ocall (.tup [(.agg [(.int .i64), (.int .i64), (.own (0 + (List.length ((Ent.box ((V.d (D.sl false 3 x1.1 x1.2)) :: [])) :: ((Ent.box ((V.d (D.int .i64 (60 : Int))) :: [])) :: [])))))]), (.one .bool)]) [(.box [(.sl 3)]), (.box [(.int .i64)]), (.lrow 3 true)] (impl_replace_Fimpl_inPlace_1c x0 x1 (60 : Int)) fun (r0 : ((Int × (Int × (Unit × Unit))) × (Bool × Unit))) (m1 : ((Sl × Unit) × ((Int × Unit) × (Sl × Unit)))) =>
  oite r0.2.1
    (osame (α := List V) [(.agg [(.d (.int .i64 r0.1.1)), (.d (.int .i64 r0.1.2.1)), (.own 4)])] [(.agg [(.d (.int .i64 r0.1.1)), (.d (.int .i64 r0.1.2.1)), (.own 4)])] (
    ocall (.m (.one .bool)) [] (impl_TyOk (r0.1.1, r0.1.2.1, m1.2.2.1, ())) fun (r2 : Bool) (m3 : Unit) =>
    osame (α := List V) [(.agg [(.d (.int .i64 r0.1.1)), (.d (.int .i64 r0.1.2.1)), (.own 4)])] [(.agg [(.d (.int .i64 r0.1.1)), (.d (.int .i64 r0.1.2.1)), (.own 4)])] (
    osame (α := List V) [(.d (.bool r2))] [(.d (.bool r2))] (
    some ((.tup [(.agg [(.d (.int .i64 r0.1.1)), (.d (.int .i64 r0.1.2.1)), (.own 1)]), (.d (.bool r2))]), [(.box [(.d (.sl false 3 m1.1.1.1 m1.1.1.2))]), (.lrow 3 m1.2.2.1.1 true m1.2.2.1.2)])))))
    (osame (α := List V) [(.agg [(.d (.int .i64 r0.1.1)), (.d (.int .i64 r0.1.2.1)), (.own 4)])] [(.agg [(.d (.int .i64 r0.1.1)), (.d (.int .i64 r0.1.2.1)), (.own 4)])] (
    osame (α := List V) [(.agg [(.d (.int .i64 r0.1.1)), (.d (.int .i64 r0.1.2.1)), (.own 4)])] [(.agg [(.d (.int .i64 r0.1.1)), (.d (.int .i64 r0.1.2.1)), (.own 4)])] (
    osame (α := List V) [(.kb false)] [(.kb false)] (
    some ((.tup [(.agg [(.d (.int .i64 r0.1.1)), (.d (.int .i64 r0.1.2.1)), (.own 1)]), (.kb false)]), [(.box [(.d (.sl false 3 m1.1.1.1 m1.1.1.2))]), (.lrow 3 m1.2.2.1.1 true m1.2.2.1.2)]))))) := (evF_eq ..).trans (by kernel_rfl)
theorem impl_toldTy_eq (x0 : Int) (x1 : Int) (x2 : Bool) (x3 : Sl) : impl_toldTy x0 x1 x2 x3 =
  oite (!x2)
    (some ((.tup [(.agg [(.d (.int .i64 (0 : Int))), (.d (.int .i64 (0 : Int))), (.own 0)]), (.kb false)]), [(.lrow 3 0 true [])]))
    (some ((.tup [(.agg [(.d (.int .i64 x0)), (.d (.int .i64 x1)), (.own 0)]), (.kb true)]), [(.lrow 3 x3.1 false x3.2)])) := (evF_eq ..).trans (by kernel_rfl)
noncomputable def spec_l3ok_j2 (x0 : Int) (x1 : Int) (x2 : Int) (x3 : Int) (x4 : Bool) (x5 : T_Ty) : Res := (fun (p : Env × Mem) => evI cx 70 0 2 p.1 p.2) ([(1, (.d (.int .i64 x0))), (2, (.ptr 0 0)), (6, (.d (.int .i64 x1))), (5, (.d (.int .i64 x2))), (13, (.d (.int .i64 x3))), (14, (.d (.bool x4)))], [(.box (LS.encs sh_Ty x5))])
noncomputable def spec_l3ok_j1 (x0 : Int) (x1 : Int) (x2 : Int) (x3 : T_Ty) : Res := (fun (p : Env × Mem) => evI cx 70 0 1 p.1 p.2) ([(1, (.d (.int .i64 x0))), (2, (.ptr 0 0)), (6, (.d (.int .i64 x1))), (5, (.d (.int .i64 x2)))], [(.box (LS.encs sh_Ty x3))])
noncomputable def spec_l3ok_j3 (x0 : Int) (x1 : Int) (x2 : Int) (x3 : Int) (x4 : Bool) (x5 : T_Ty) : Res := (fun (p : Env × Mem) => evI cx 70 0 3 p.1 p.2) ([(1, (.d (.int .i64 x0))), (2, (.ptr 0 0)), (6, (.d (.int .i64 x1))), (5, (.d (.int .i64 x2))), (13, (.d (.int .i64 x3))), (18, (.d (.bool x4)))], [(.box (LS.encs sh_Ty x5))])
noncomputable def spec_l3ok_j5 (x0 : Int) (x1 : Bool) (x2 : T_Ty) : Res := (fun (p : Env × Mem) => evI cx 70 0 5 p.1 p.2) ([(1, (.d (.int .i64 x0))), (2, (.ptr 0 0)), (47, (.d (.bool x1)))], [(.box (LS.encs sh_Ty x2))])
noncomputable def spec_l3ok_j4 (x0 : Int) (x1 : T_Ty) : Res := (fun (p : Env × Mem) => evI cx 70 0 4 p.1 p.2) ([(1, (.d (.int .i64 x0))), (2, (.ptr 0 0))], [(.box (LS.encs sh_Ty x1))])
noncomputable def spec_l3ok_j6 (x0 : Int) (x1 : Int) (x2 : Int) (x3 : T_Ty) : Res := (fun (p : Env × Mem) => evI cx 70 0 6 p.1 p.2) ([(8, (.d (.int .i64 x0))), (7, (.d (.int .i64 x1))), (1, (.d (.int .i64 x2))), (2, (.ptr 0 0))], [(.box (LS.encs sh_Ty x3))])
theorem spec_l3ok_eq (x0 : T_Ty) (x1 : Int) : spec_l3ok x0 x1 =
  oite (decide (x1 > (10 : Int)))
    (some ((.d (.int .i64 (-1 : Int))), []))
    (oite (x0.1 == (0 : Int))
      (spec_l3ok_j2 x1 (0 : Int) (0 : Int) x0.1 (x0.1 == (0 : Int)) x0)
      (oite (x0.1 == (1 : Int))
        (spec_l3ok_j2 x1 (0 : Int) (0 : Int) x0.1 (x0.1 == (1 : Int)) x0)
        (spec_l3ok_j2 x1 (0 : Int) (0 : Int) x0.1 (x0.1 == (2 : Int)) x0))) := (evF_eq ..).trans (by kernel_rfl)
theorem spec_l3ok_j2_eq (x0 : Int) (x1 : Int) (x2 : Int) (x3 : Int) (x4 : Bool) (x5 : T_Ty) : spec_l3ok_j2 x0 x1 x2 x3 x4 x5 =
  oite x4
    (spec_l3ok_j1 x0 x1 x2 x5)
    (oite (x3 == (3 : Int))
      (spec_l3ok_j3 x0 x1 x2 x3 (x3 == (3 : Int)) x5)
      (spec_l3ok_j3 x0 x1 x2 x3 (x3 == (4 : Int)) x5)) := (evI_eq ..).trans (by kernel_rfl)
theorem spec_l3ok_j1_eq (x0 : Int) (x1 : Int) (x2 : Int) (x3 : T_Ty) : spec_l3ok_j1 x0 x1 x2 x3 =
  oite (!(((x3.2.2.1.1 : Nat) : Int) == x2))
    (spec_l3ok_j5 x0 true x3)
    (oite (decide (x3.2.1 < (0 : Int)))
      (spec_l3ok_j5 x0 true x3)
      (spec_l3ok_j5 x0 (decide (x3.2.1 > x1)) x3)) := (evI_eq ..).trans (by kernel_rfl)
theorem spec_l3ok_j3_eq (x0 : Int) (x1 : Int) (x2 : Int) (x3 : Int) (x4 : Bool) (x5 : T_Ty) : spec_l3ok_j3 x0 x1 x2 x3 x4 x5 =
  oite x4
    (spec_l3ok_j1 x0 x1 (2 : Int) x5)
    (oite (x3 == (5 : Int))
      (spec_l3ok_j1 x0 x1 (1 : Int) x5)
      (oite (x3 == (6 : Int))
        (oite (decide (((x5.2.2.1.1 : Nat) : Int) > (3 : Int)))
          (some ((.d (.int .i64 (-1 : Int))), []))
          (spec_l3ok_j1 x0 (19 : Int) ((x5.2.2.1.1 : Nat) : Int) x5))
        (oite (x3 == (7 : Int))
          (spec_l3ok_j1 x0 (99999 : Int) x2 x5)
          (some ((.d (.int .i64 (-1 : Int))), []))))) := (evI_eq ..).trans (by kernel_rfl)
theorem spec_l3ok_j5_eq (x0 : Int) (x1 : Bool) (x2 : T_Ty) : spec_l3ok_j5 x0 x1 x2 =
  oite x1
    (some ((.d (.int .i64 (-1 : Int))), []))
    (spec_l3ok_j4 x0 x2) := (evI_eq ..).trans (by kernel_rfl)
theorem spec_l3ok_j4_eq (x0 : Int) (x1 : T_Ty) : spec_l3ok_j4 x0 x1 =
  spec_l3ok_j6 (0 : Int) (1 : Int) x0 x1 := (evI_eq ..).trans (by kernel_rfl)
-- a loop's head
theorem spec_l3ok_j6_eq (x0 : Int) (x1 : Int) (x2 : Int) (x3 : T_Ty) : spec_l3ok_j6 x0 x1 x2 x3 =
  oite (decide (x0 < ((x3.2.2.1.1 : Nat) : Int)))
    (oat sh_Ty x3.2.2.1.1 x3.2.2.1.2 x0 fun (t0 : T_Ty) =>
    ocall (.m (.one (.int .i64))) [] (spec_l3ok t0 (w64 (x2 + (1 : Int)))) fun (r1 : Int) (m2 : Unit) =>
    oite (decide (r1 < (0 : Int)))
      (some ((.d (.int .i64 (-1 : Int))), []))
      (oite (decide ((w64 (x1 + r1)) > (60 : Int)))
        (some ((.d (.int .i64 (-1 : Int))), []))
        (spec_l3ok_j6 (w64 (x0 + (1 : Int))) (w64 (x1 + r1)) x2 x3)))
    (some ((.d (.int .i64 x1)), [])) := (evI_eq ..).trans (by kernel_rfl)
noncomputable def impl_measure_j2 (x0 : Int) (x1 : Bool) (x2 : T_Ty) : Res := (fun (p : Env × Mem) => evI cx 71 0 2 p.1 p.2) ([(1, (.d (.int .i64 x0))), (2, (.ptr 0 0)), (14, (.d (.bool x1)))], [(.box (LS.encs sh_Ty x2))])
noncomputable def impl_measure_j1 (x0 : Int) (x1 : T_Ty) : Res := (fun (p : Env × Mem) => evI cx 71 0 1 p.1 p.2) ([(1, (.d (.int .i64 x0))), (2, (.ptr 0 0))], [(.box (LS.encs sh_Ty x1))])
noncomputable def impl_measure_j3 (x0 : Int) (x1 : Int) (x2 : Int) (x3 : Sl) (x4 : Int) : Res := (fun (p : Env × Mem) => evI cx 71 0 3 p.1 p.2) ([(18, (.d (.int .i64 x0))), (1, (.d (.int .i64 x1))), (5, (.d (.int .i64 x2))), (16, (.d (.sl false 3 x3.1 x3.2))), (17, (.d (.int .i64 x4)))], [])
theorem impl_measure_eq (x0 : T_Ty) (x1 : Int) : impl_measure x0 x1 =
  oite (decide (x1 > (10 : Int)))
    (impl_measure_j2 x1 true x0)
    (ocall (.m (.one .bool)) [] (impl_headOk x0) fun (r0 : Bool) (m1 : Unit) =>
    impl_measure_j2 x1 (!r0) x0) := (evF_eq ..).trans (by kernel_rfl)
theorem impl_measure_j2_eq (x0 : Int) (x1 : Bool) (x2 : T_Ty) : impl_measure_j2 x0 x1 x2 =
  oite x1
    (some ((.d (.int .i64 (61 : Int))), []))
    (impl_measure_j1 x0 x2) := (evI_eq ..).trans (by kernel_rfl)
theorem impl_measure_j1_eq (x0 : Int) (x1 : T_Ty) : impl_measure_j1 x0 x1 =
  impl_measure_j3 (0 : Int) x0 (1 : Int) x1.2.2.1 ((x1.2.2.1.1 : Nat) : Int) := (evI_eq ..).trans (by kernel_rfl)
-- a loop's head
theorem impl_measure_j3_eq (x0 : Int) (x1 : Int) (x2 : Int) (x3 : Sl) (x4 : Int) : impl_measure_j3 x0 x1 x2 x3 x4 =
  oite (decide (x0 < x4))
    (oat sh_Ty x3.1 x3.2 x0 fun (t2 : T_Ty) =>
    ocall (.m (.one (.int .i64))) [] (impl_measure t2 (w64 (x1 + (1 : Int)))) fun (r3 : Int) (m4 : Unit) =>
    oite (decide ((w64 (x2 + r3)) > (60 : Int)))
      (some ((.d (.int .i64 (61 : Int))), []))
      (impl_measure_j3 (w64 (x0 + (1 : Int))) x1 (w64 (x2 + r3)) x3 x4))
    (some ((.d (.int .i64 x2)), [])) := (evI_eq ..).trans (by kernel_rfl)
noncomputable def spec_l3vars_j1 (x0 : Int) (x1 : Sl) (x2 : T_Ty) : Res := (fun (p : Env × Mem) => evI cx 72 0 1 p.1 p.2) ([(5, (.d (.int .i64 x0))), (1, (.d (.sl false 1 x1.1 x1.2))), (2, (.ptr 0 0))], [(.box (LS.encs sh_Ty x2))])
theorem spec_l3vars_eq (x0 : T_Ty) (x1 : Sl) : spec_l3vars x0 x1 =
  oite (x0.1 == (7 : Int))
    (ocall (.m (.one (.sl 1))) [] (spec_l3insert x1 x0.2.1) fun (r0 : Sl) (m1 : Unit) =>
    some ((.d (.sl false 1 r0.1 r0.2)), []))
    (spec_l3vars_j1 (0 : Int) x1 x0) := (evF_eq ..).trans (by kernel_rfl)
-- a loop's head
theorem spec_l3vars_j1_eq (x0 : Int) (x1 : Sl) (x2 : T_Ty) : spec_l3vars_j1 x0 x1 x2 =
  oite (decide (x0 < ((x2.2.2.1.1 : Nat) : Int)))
    (oat sh_Ty x2.2.2.1.1 x2.2.2.1.2 x0 fun (t2 : T_Ty) =>
    ocall (.m (.one (.sl 1))) [] (spec_l3vars t2 x1) fun (r3 : Sl) (m4 : Unit) =>
    spec_l3vars_j1 (w64 (x0 + (1 : Int))) r3 x2)
    (some ((.d (.sl false 1 x1.1 x1.2)), [])) := (evI_eq ..).trans (by kernel_rfl)
noncomputable def impl_eachVar_Fimpl_TyVars_1c_j1 (x0 : Sl) (x1 : T_Ty) : Res := (fun (p : Env × Mem) => evI cx 73 2 1 p.1 p.2) ([(1, (.fn 74 [(.ptr 0 0)])), (2, (.ptr 2 0))], [(.box [(.own 1)]), (.row 1 x0.1 false true x0.2), (.box (LS.encs sh_Ty x1))])
noncomputable def impl_eachVar_Fimpl_TyVars_1c_j1v1 (x0 : Sl) (x1 : T_Ty) : Res := (fun (p : Env × Mem) => evI cx 73 2 1 p.1 p.2) ([(1, (.fn 74 [(.ptr 0 0)])), (2, (.ptr 2 0))], [(.box [(.own 1)]), (.row 1 x0.1 false false x0.2), (.box (LS.encs sh_Ty x1))])
noncomputable def impl_eachVar_Fimpl_TyVars_1c_j2 (x0 : Int) (x1 : Sl) (x2 : Int) (x3 : Sl) : Res := (fun (p : Env × Mem) => evI cx 73 2 2 p.1 p.2) ([(16, (.d (.int .i64 x0))), (1, (.fn 74 [(.ptr 0 0)])), (14, (.d (.sl false 3 x1.1 x1.2))), (15, (.d (.int .i64 x2)))], [(.box [(.own 1)]), (.row 1 x3.1 false true x3.2)])
noncomputable def impl_eachVar_Fimpl_TyVars_1c_j2v1 (x0 : Int) (x1 : Sl) (x2 : Int) (x3 : Sl) : Res := (fun (p : Env × Mem) => evI cx 73 2 2 p.1 p.2) ([(16, (.d (.int .i64 x0))), (1, (.fn 74 [(.ptr 0 0)])), (14, (.d (.sl false 3 x1.1 x1.2))), (15, (.d (.int .i64 x2)))], [(.box [(.own 1)]), (.row 1 x3.1 false false x3.2)])
theorem impl_eachVar_Fimpl_TyVars_1c_eq (x0 : T_Ty) (x1 : Sl) : impl_eachVar_Fimpl_TyVars_1c x0 x1 =
  oite (x0.1 == (7 : Int))
    (ocall (.tup []) [(.box [(.own 1)]), (.row 1 false true)] (impl_TyVars_1 x0.2.1 x1) fun (r0 : Unit) (m1 : ((Unit × Unit) × (Sl × Unit))) =>
    impl_eachVar_Fimpl_TyVars_1c_j1 m1.2.1 x0)
    (impl_eachVar_Fimpl_TyVars_1c_j1v1 x1 x0) := (evF_eq ..).trans (by kernel_rfl)
theorem impl_eachVar_Fimpl_TyVars_1c_j1_eq (x0 : Sl) (x1 : T_Ty) : impl_eachVar_Fimpl_TyVars_1c_j1 x0 x1 =
  impl_eachVar_Fimpl_TyVars_1c_j2 (0 : Int) x1.2.2.1 ((x1.2.2.1.1 : Nat) : Int) x0 := (evI_eq ..).trans (by kernel_rfl)
theorem impl_eachVar_Fimpl_TyVars_1c_j1v1_eq (x0 : Sl) (x1 : T_Ty) : impl_eachVar_Fimpl_TyVars_1c_j1v1 x0 x1 =
  impl_eachVar_Fimpl_TyVars_1c_j2v1 (0 : Int) x1.2.2.1 ((x1.2.2.1.1 : Nat) : Int) x0 := (evI_eq ..).trans (by kernel_rfl)
-- a loop's head
theorem impl_eachVar_Fimpl_TyVars_1c_j2_eq (x0 : Int) (x1 : Sl) (x2 : Int) (x3 : Sl) : impl_eachVar_Fimpl_TyVars_1c_j2 x0 x1 x2 x3 =
  oite (decide (x0 < x2))
    (oat sh_Ty x1.1 x1.2 x0 fun (t2 : T_Ty) =>
    ocall (.tup []) [(.box [(.own 1)]), (.row 1 false true)] (impl_eachVar_Fimpl_TyVars_1c t2 x3) fun (r3 : Unit) (m4 : ((Unit × Unit) × (Sl × Unit))) =>
    impl_eachVar_Fimpl_TyVars_1c_j2 (w64 (x0 + (1 : Int))) x1 x2 m4.2.1)
    (some ((.tup []), [(.box [(.own 1)]), (.row 1 x3.1 false true x3.2)])) := (evI_eq ..).trans (by kernel_rfl)
-- a loop's head
theorem impl_eachVar_Fimpl_TyVars_1c_j2v1_eq (x0 : Int) (x1 : Sl) (x2 : Int) (x3 : Sl) : impl_eachVar_Fimpl_TyVars_1c_j2v1 x0 x1 x2 x3 =
  oite (decide (x0 < x2))
    (oat sh_Ty x1.1 x1.2 x0 fun (t5 : T_Ty) =>
    ocall (.tup []) [(.box [(.own 1)]), (.row 1 false true)] (impl_eachVar_Fimpl_TyVars_1c t5 x3) fun (r6 : Unit) (m7 : ((Unit × Unit) × (Sl × Unit))) =>
    impl_eachVar_Fimpl_TyVars_1c_j2 (w64 (x0 + (1 : Int))) x1 x2 m7.2.1)
    (some ((.tup []), [(.box [(.own 1)]), (.row 1 x3.1 false false x3.2)])) := (evI_eq ..).trans (by kernel_rfl)
theorem slices_Sort_int_int_o_eq (x0 : Sl) : slices_Sort_int_int_o x0 =
  oguard ((intsB x0.2) && (decide (x0.1 ≤ 140737488351232))) (
  some ((.tup []), [(.row 1 x0.1 false false (sortEs x0.2))])) := (evF_eq ..).trans (by kernel_rfl)
theorem slices_Compact_int_int_o_eq (x0 : Sl) : slices_Compact_int_int_o x0 =
  oguard ((intsB x0.2) && (decide (x0.1 ≤ 140737488351232))) (
  some ((.own 0), [(.row 1 (compN x0.2) false true (compEs x0.2))])) := (evF_eq ..).trans (by kernel_rfl)
noncomputable def spec_l3ty_j1 (x0 : Int) (x1 : Int) (x2 : Int) (x3 : Int) (x4 : T_l1Cur) (x5 : T_Ty) : Res := (fun (p : Env × Mem) => evI cx 79 1 1 p.1 p.2) ([(8, (.ptr 1 0)), (2, (.d (.int .i64 x0))), (0, (.ptr 0 0)), (3, (.d (.int .i64 x1))), (1, (.d (.int .i64 x2))), (9, (.d (.int .i64 x3)))], [(.box (LS.encs sh_l1Cur x4)), (.box (LS.encs sh_Ty x5))])
noncomputable def spec_l3ty_j3 (x0 : Int) (x1 : Int) (x2 : Int) (x3 : Int) (x4 : Bool) (x5 : T_l1Cur) (x6 : T_Ty) : Res := (fun (p : Env × Mem) => evI cx 79 1 3 p.1 p.2) ([(8, (.ptr 1 0)), (3, (.d (.int .i64 x0))), (2, (.d (.int .i64 x1))), (1, (.d (.int .i64 x2))), (0, (.ptr 0 0)), (16, (.d (.int .i64 x3))), (51, (.d (.bool x4)))], [(.box (LS.encs sh_l1Cur x5)), (.box (LS.encs sh_Ty x6))])
noncomputable def spec_l3ty_j2 (x0 : Int) (x1 : Int) (x2 : Int) (x3 : T_l1Cur) (x4 : T_Ty) : Res := (fun (p : Env × Mem) => evI cx 79 1 2 p.1 p.2) ([(8, (.ptr 1 0)), (3, (.d (.int .i64 x0))), (2, (.d (.int .i64 x1))), (1, (.d (.int .i64 x2))), (0, (.ptr 0 0))], [(.box (LS.encs sh_l1Cur x3)), (.box (LS.encs sh_Ty x4))])
theorem spec_l3ty_eq (x0 : Int) (x1 : Int) (x2 : Int) (x3 : T_l1Cur) : spec_l3ty x0 x1 x2 x3 =
  ocall (.m (.one (.int .i64))) [(.box sh_l1Cur)] (spec_l1Below (9 : Int) x3) fun (r0 : Int) (m1 : (T_l1Cur × Unit)) =>
  oite (decide (x0 ≤ (0 : Int)))
    (ocall (.m (.one (.int .i64))) [(.box sh_l1Cur)] (spec_l1Below (4 : Int) m1.1) fun (r2 : Int) (m3 : (T_l1Cur × Unit)) =>
    spec_l3ty_j1 x1 x2 x0 r2 m3.1 ((0 : Int), (0 : Int), (0, []), ()))
    (spec_l3ty_j1 x1 x2 x0 r0 m1.1 ((0 : Int), (0 : Int), (0, []), ())) := (evF_eq ..).trans (by kernel_rfl)
theorem spec_l3ty_j1_eq (x0 : Int) (x1 : Int) (x2 : Int) (x3 : Int) (x4 : T_l1Cur) (x5 : T_Ty) : spec_l3ty_j1 x0 x1 x2 x3 x4 x5 =
  oite (x3 == (0 : Int))
    (some ((.agg [(.d (.int .i64 (0 : Int))), (.d (.int .i64 (0 : Int))), (.own 1)]), [(.box (LS.encs sh_l1Cur x4)), (.lrow 3 0 false [])]))
    (oite (x3 == (1 : Int))
      (some ((.agg [(.d (.int .i64 (1 : Int))), (.d (.int .i64 (0 : Int))), (.own 1)]), [(.box (LS.encs sh_l1Cur x4)), (.lrow 3 0 false [])]))
      (oite (x3 == (2 : Int))
        (some ((.agg [(.d (.int .i64 (2 : Int))), (.d (.int .i64 (0 : Int))), (.own 1)]), [(.box (LS.encs sh_l1Cur x4)), (.lrow 3 0 false [])]))
        (oite (x3 == (3 : Int))
          (oite (decide (x0 > (0 : Int)))
            (ocall (.m (.one (.int .i64))) [(.box sh_l1Cur)] (spec_l1Below x0 x4) fun (r4 : Int) (m5 : (T_l1Cur × Unit)) =>
            some ((.agg [(.d (.int .i64 (7 : Int))), (.d (.int .i64 r4)), (.own 1)]), [(.box (LS.encs sh_l1Cur m5.1)), (.lrow 3 0 false [])]))
            (some ((.agg [(.d (.int .i64 (1 : Int))), (.d (.int .i64 (0 : Int))), (.own 1)]), [(.box (LS.encs sh_l1Cur x4)), (.lrow 3 0 false [])])))
          (oite (x3 == (4 : Int))
            (ocall (.m (.agg [(.int .i64), (.int .i64), (.own (0 + (List.length ((Ent.box ((V.d (D.sl false 1 x4.1.1 x4.1.2)) :: ((V.d (D.int .i64 x4.2.1)) :: ((V.d (D.int .i64 x4.2.2.1)) :: [])))) :: []))))])) [(.box sh_l1Cur), (.lrow 3 true)] (spec_l3ty (w64 (x2 - (1 : Int))) x0 x1 x4) fun (r6 : (Int × (Int × (Unit × Unit)))) (m7 : (T_l1Cur × (Sl × Unit))) =>
            ocall (.m (.agg [(.int .i64), (.int .i64), (.own (0 + (List.length ((Ent.box ((V.d (D.sl false 1 m7.1.1.1 m7.1.1.2)) :: ((V.d (D.int .i64 m7.1.2.1)) :: ((V.d (D.int .i64 m7.1.2.2.1)) :: [])))) :: []))))])) [(.box sh_l1Cur), (.lrow 3 true)] (spec_l3ty (w64 (x2 - (1 : Int))) x0 x1 m7.1) fun (r8 : (Int × (Int × (Unit × Unit)))) (m9 : (T_l1Cur × (Sl × Unit))) =>
            some ((.agg [(.d (.int .i64 (3 : Int))), (.d (.int .i64 (0 : Int))), (.own 1)]), [(.box (LS.encs sh_l1Cur m9.1)), (.lrow 3 2 false ((vDs (LS.encs sh_Ty (r6.1, r6.2.1, m7.2.1, ()))) :: ((vDs (LS.encs sh_Ty (r8.1, r8.2.1, m9.2.1, ()))) :: [])))]))
            (oite (x3 == (5 : Int))
              (spec_l3ty_j3 x1 x0 x2 x3 (x3 == (5 : Int)) x4 x5)
              (spec_l3ty_j3 x1 x0 x2 x3 (x3 == (6 : Int)) x4 x5)))))) := (evI_eq ..).trans (by kernel_rfl)
theorem spec_l3ty_j3_eq (x0 : Int) (x1 : Int) (x2 : Int) (x3 : Int) (x4 : Bool) (x5 : T_l1Cur) (x6 : T_Ty) : spec_l3ty_j3 x0 x1 x2 x3 x4 x5 x6 =
  oite x4
    (ocall (.m (.agg [(.int .i64), (.int .i64), (.own (0 + (List.length ((Ent.box ((V.d (D.sl false 1 x5.1.1 x5.1.2)) :: ((V.d (D.int .i64 x5.2.1)) :: ((V.d (D.int .i64 x5.2.2.1)) :: [])))) :: []))))])) [(.box sh_l1Cur), (.lrow 3 true)] (spec_l3ty (w64 (x2 - (1 : Int))) x1 x0 x5) fun (r10 : (Int × (Int × (Unit × Unit)))) (m11 : (T_l1Cur × (Sl × Unit))) =>
    ocall (.m (.agg [(.int .i64), (.int .i64), (.own (0 + (List.length ((Ent.box ((V.d (D.sl false 1 m11.1.1.1 m11.1.1.2)) :: ((V.d (D.int .i64 m11.1.2.1)) :: ((V.d (D.int .i64 m11.1.2.2.1)) :: [])))) :: []))))])) [(.box sh_l1Cur), (.lrow 3 true)] (spec_l3ty (w64 (x2 - (1 : Int))) x1 x0 m11.1) fun (r12 : (Int × (Int × (Unit × Unit)))) (m13 : (T_l1Cur × (Sl × Unit))) =>
    some ((.agg [(.d (.int .i64 (4 : Int))), (.d (.int .i64 (0 : Int))), (.own 1)]), [(.box (LS.encs sh_l1Cur m13.1)), (.lrow 3 2 false ((vDs (LS.encs sh_Ty (r10.1, r10.2.1, m11.2.1, ()))) :: ((vDs (LS.encs sh_Ty (r12.1, r12.2.1, m13.2.1, ()))) :: [])))]))
    (oite (x3 == (7 : Int))
      (ocall (.m (.agg [(.int .i64), (.int .i64), (.own (0 + (List.length ((Ent.box ((V.d (D.sl false 1 x5.1.1 x5.1.2)) :: ((V.d (D.int .i64 x5.2.1)) :: ((V.d (D.int .i64 x5.2.2.1)) :: [])))) :: []))))])) [(.box sh_l1Cur), (.lrow 3 true)] (spec_l3ty (w64 (x2 - (1 : Int))) x1 x0 x5) fun (r14 : (Int × (Int × (Unit × Unit)))) (m15 : (T_l1Cur × (Sl × Unit))) =>
      some ((.agg [(.d (.int .i64 (5 : Int))), (.d (.int .i64 (0 : Int))), (.own 1)]), [(.box (LS.encs sh_l1Cur m15.1)), (.lrow 3 1 false ((vDs (LS.encs sh_Ty (r14.1, r14.2.1, m15.2.1, ()))) :: []))]))
      (spec_l3ty_j2 x0 x1 x2 x5 x6)) := (evI_eq ..).trans (by kernel_rfl)
theorem spec_l3ty_j2_eq (x0 : Int) (x1 : Int) (x2 : Int) (x3 : T_l1Cur) (x4 : T_Ty) : spec_l3ty_j2 x0 x1 x2 x3 x4 =
  oite (decide (x0 > (0 : Int)))
    (ocall (.m (.one (.int .i64))) [(.box sh_l1Cur)] (spec_l1Below x0 x3) fun (r16 : Int) (m17 : (T_l1Cur × Unit)) =>
    ocall (.m (.agg [(.int .i64), (.int .i64), (.own (0 + (List.length ((Ent.box ((V.d (D.sl false 1 m17.1.1.1 m17.1.1.2)) :: ((V.d (D.int .i64 m17.1.2.1)) :: ((V.d (D.int .i64 m17.1.2.2.1)) :: [])))) :: []))))])) [(.box sh_l1Cur), (.lrow 3 true)] (spec_l3ty (w64 (x2 - (1 : Int))) x1 x0 m17.1) fun (r18 : (Int × (Int × (Unit × Unit)))) (m19 : (T_l1Cur × (Sl × Unit))) =>
    some ((.agg [(.d (.int .i64 (6 : Int))), (.d (.int .i64 r16)), (.own 1)]), [(.box (LS.encs sh_l1Cur m19.1)), (.lrow 3 1 false ((vDs (LS.encs sh_Ty (r18.1, r18.2.1, m19.2.1, ()))) :: []))]))
    (some ((.agg [(.d (.int .i64 (0 : Int))), (.d (.int .i64 (0 : Int))), (.own 1)]), [(.box (LS.encs sh_l1Cur x3)), (.lrow 3 0 false [])])) := (evI_eq ..).trans (by kernel_rfl)
theorem spec_l1Once_eq (x0 : Int) (x1 : T_l1Cur) : spec_l1Once x0 x1 =
  ocall (.m (.one (.int .i64))) [(.box sh_l1Cur)] (spec_l1Below x0 x1) fun (r0 : Int) (m1 : (T_l1Cur × Unit)) =>
  some ((.d (.bool (r0 == (0 : Int)))), [(.box (LS.encs sh_l1Cur m1.1))]) := (evF_eq ..).trans (by kernel_rfl)
noncomputable def spec_l3copy_j1 (x0 : Int) (x1 : Int) (x2 : Int) (x3 : T_Ty) (x4 : Int) (x5 : Int) (x6 : Sl) (x7 : Sl) : Res := (fun (p : Env × Mem) => evI cx 99 0 1 p.1 p.2) ([(4, (.d (.int .i64 x0))), (3, (.ptr 0 0)), (1, (.ptr 1 0)), (2, (.ptr 2 0))], [(.box [(.d (.int .i64 x1)), (.d (.int .i64 x2)), (.own 3)]), (.box (LS.encs sh_Ty x3)), (.box [(.d (.int .i64 x4)), (.d (.int .i64 x5)), (.own 4)]), (.lrow 3 x6.1 false x6.2), (.lrow 3 x7.1 false x7.2)])
noncomputable def spec_l3copy_j1v1 (x0 : Int) (x1 : Int) (x2 : Int) (x3 : T_Ty) (x4 : Int) (x5 : Int) (x6 : Sl) (x7 : Sl) : Res := (fun (p : Env × Mem) => evI cx 99 0 1 p.1 p.2) ([(4, (.d (.int .i64 x0))), (3, (.ptr 0 0)), (1, (.ptr 1 0)), (2, (.ptr 2 0))], [(.box [(.d (.int .i64 x1)), (.d (.int .i64 x2)), (.own 3)]), (.box (LS.encs sh_Ty x3)), (.box [(.d (.int .i64 x4)), (.d (.int .i64 x5)), (.own 4)]), (.lrow 3 x6.1 true x6.2), (.lrow 3 x7.1 false x7.2)])
theorem spec_l3copy_eq (x0 : T_Ty) : spec_l3copy x0 =
  spec_l3copy_j1 (0 : Int) x0.1 x0.2.1 x0 (0 : Int) (0 : Int) (0, []) (0, []) := (evF_eq ..).trans (by kernel_rfl)
-- a loop's head
theorem spec_l3copy_j1_eq (x0 : Int) (x1 : Int) (x2 : Int) (x3 : T_Ty) (x4 : Int) (x5 : Int) (x6 : Sl) (x7 : Sl) : spec_l3copy_j1 x0 x1 x2 x3 x4 x5 x6 x7 =
  oite (decide (x0 < ((x3.2.2.1.1 : Nat) : Int)))
    (oat sh_Ty x3.2.2.1.1 x3.2.2.1.2 x0 fun (t0 : T_Ty) =>
    ocall (.m (.agg [(.int .i64), (.int .i64), (.own 0)])) [(.lrow 3 true)] (spec_l3copy t0) fun (r1 : (Int × (Int × (Unit × Unit)))) (m2 : (Sl × Unit)) =>
    oguard (decide (((x6.1 + 1) * 40) ≤ 140737488351232)) (
    olet (x6.2 ++ ((vDs (LS.encs sh_Ty (r1.1, r1.2.1, m2.1, ()))) :: [])) fun (e3 : (List (List D))) =>
    spec_l3copy_j1v1 (w64 (x0 + (1 : Int))) x1 x2 x3 x4 x5 ((x6.1 + 1), e3) x7))
    (some ((.agg [(.d (.int .i64 x1)), (.d (.int .i64 x2)), (.own 0)]), [(.lrow 3 x6.1 false x6.2)])) := (evI_eq ..).trans (by kernel_rfl)
-- a loop's head
theorem spec_l3copy_j1v1_eq (x0 : Int) (x1 : Int) (x2 : Int) (x3 : T_Ty) (x4 : Int) (x5 : Int) (x6 : Sl) (x7 : Sl) : spec_l3copy_j1v1 x0 x1 x2 x3 x4 x5 x6 x7 =
  oite (decide (x0 < ((x3.2.2.1.1 : Nat) : Int)))
    (oat sh_Ty x3.2.2.1.1 x3.2.2.1.2 x0 fun (t4 : T_Ty) =>
    ocall (.m (.agg [(.int .i64), (.int .i64), (.own 0)])) [(.lrow 3 true)] (spec_l3copy t4) fun (r5 : (Int × (Int × (Unit × Unit)))) (m6 : (Sl × Unit)) =>
    oguard (decide (((x6.1 + 1) * 40) ≤ 140737488351232)) (
    olet (x6.2 ++ ((vDs (LS.encs sh_Ty (r5.1, r5.2.1, m6.1, ()))) :: [])) fun (e7 : (List (List D))) =>
    spec_l3copy_j1v1 (w64 (x0 + (1 : Int))) x1 x2 x3 x4 x5 ((x6.1 + 1), e7) x7))
    (some ((.agg [(.d (.int .i64 x1)), (.d (.int .i64 x2)), (.own 0)]), [(.lrow 3 x6.1 true x6.2)])) := (evI_eq ..).trans (by kernel_rfl)
theorem spec_l1PickInt_eq (x0 : Sl) (x1 : T_l1Cur) : spec_l1PickInt x0 x1 =
  ocall (.m (.one (.int .i64))) [(.box sh_l1Cur)] (spec_l1Below ((x0.1 : Nat) : Int) x1) fun (r0 : Int) (m1 : (T_l1Cur × Unit)) =>
  oat [(.int .i64)] x0.1 x0.2 r0 fun (t2 : (Int × Unit)) =>
  some ((.d (.int .i64 t2.1)), [(.box (LS.encs sh_l1Cur m1.1))]) := (evF_eq ..).trans (by kernel_rfl)
theorem spec_l1Byte_eq (x0 : T_l1Cur) : spec_l1Byte x0 =
  oguard true (
  oguard true (
  oite (decide (x0.2.1 < ((x0.1.1 : Nat) : Int)))
    (oat [(.int .u8)] x0.1.1 x0.1.2 x0.2.1 fun (t0 : (Int × Unit)) =>
    some ((.d (.int .i64 (w64 (((BitVec.toNat ((BitVec.ofInt 64 (w64 ((w64 (((BitVec.toNat ((BitVec.ofInt 64 (w64 (((BitVec.toNat ((BitVec.ofInt 64 (Int.fdiv (w64 ((w64 (x0.2.2.1 * (6364136223846793005 : Int))) + (1442695040888963407 : Int))) (8589934592 : Int))) ^^^ (BitVec.ofInt 64 (Int.fdiv (w64 ((w64 (x0.2.2.1 * (6364136223846793005 : Int))) + (1442695040888963407 : Int))) (35184372088832 : Int))))) : Nat) : Int))) &&& (BitVec.ofInt 64 (255 : Int)))) : Nat) : Int)) + (w64 t0.1)))) &&& (BitVec.ofInt 64 (255 : Int)))) : Nat) : Int)))), [(.box (LS.encs sh_l1Cur (x0.1, (w64 (x0.2.1 + (1 : Int))), (w64 ((w64 (x0.2.2.1 * (6364136223846793005 : Int))) + (1442695040888963407 : Int))), ())))]))
    (some ((.d (.int .i64 (w64 (((BitVec.toNat ((BitVec.ofInt 64 (w64 (((BitVec.toNat ((BitVec.ofInt 64 (Int.fdiv (w64 ((w64 (x0.2.2.1 * (6364136223846793005 : Int))) + (1442695040888963407 : Int))) (8589934592 : Int))) ^^^ (BitVec.ofInt 64 (Int.fdiv (w64 ((w64 (x0.2.2.1 * (6364136223846793005 : Int))) + (1442695040888963407 : Int))) (35184372088832 : Int))))) : Nat) : Int))) &&& (BitVec.ofInt 64 (255 : Int)))) : Nat) : Int)))), [(.box (LS.encs sh_l1Cur (x0.1, x0.2.1, (w64 ((w64 (x0.2.2.1 * (6364136223846793005 : Int))) + (1442695040888963407 : Int))), ())))])))) := (evF_eq ..).trans (by kernel_rfl)
theorem slices_ContainsFunc_impl_Ty_impl_Ty_Fimpl_tysOk_1_eq (x0 : Sl) : slices_ContainsFunc_impl_Ty_impl_Ty_Fimpl_tysOk_1 x0 =
  ocall (.m (.one (.int .i64))) [] (slices_IndexFunc_impl_Ty_impl_Ty_Fimpl_tysOk_1 x0) fun (r0 : Int) (m1 : Unit) =>
  some ((.d (.bool (decide (r0 ≥ (0 : Int))))), []) := (evF_eq ..).trans (by kernel_rfl)
noncomputable def impl_replace_Fimpl_inPlace_1c_j1 (x0 : Sl) (x1 : Int) (x2 : Int) (x3 : Int) (x4 : T_Ty) (x5 : Sl) : Res := (fun (p : Env × Mem) => evI cx 102 2 1 p.1 p.2) ([(6, (.ptr 2 0)), (2, (.ptr 1 0)), (1, (.fn 103 [(.ptr 0 0)])), (3, (.ptr 3 0))], [(.box [(.d (.sl false 3 x0.1 x0.2))]), (.box [(.d (.int .i64 x1))]), (.box [(.d (.int .i64 x2)), (.d (.int .i64 x3)), (.own 4)]), (.box (LS.encs sh_Ty x4)), (.lrow 3 x5.1 false x5.2)])
noncomputable def impl_replace_Fimpl_inPlace_1c_j2 (x0 : Int) (x1 : Sl) (x2 : Int) (x3 : Sl) (x4 : Int) (x5 : Int) (x6 : Int) (x7 : Int) (x8 : Int) (x9 : Sl) (x10 : Sl) : Res := (fun (p : Env × Mem) => evI cx 102 2 2 p.1 p.2) ([(6, (.ptr 2 0)), (52, (.d (.int .i64 x0))), (10, (.ptr 3 0)), (2, (.ptr 1 0)), (1, (.fn 103 [(.ptr 0 0)])), (50, (.d (.sl false 3 x1.1 x1.2))), (51, (.d (.int .i64 x2)))], [(.box [(.d (.sl false 3 x3.1 x3.2))]), (.box [(.d (.int .i64 x4))]), (.box [(.d (.int .i64 x5)), (.d (.int .i64 x6)), (.own 4)]), (.box [(.d (.int .i64 x7)), (.d (.int .i64 x8)), (.own 5)]), (.lrow 3 x9.1 false x9.2), (.lrow 3 x10.1 false x10.2)])
noncomputable def impl_replace_Fimpl_inPlace_1c_j4 (x0 : Sl) (x1 : Int) (x2 : Int) (x3 : Bool) (x4 : Sl) (x5 : Int) (x6 : Int) (x7 : Int) (x8 : Int) (x9 : Int) (x10 : Int) (x11 : Int) (x12 : Sl) (x13 : Sl) (x14 : Sl) : Res := (fun (p : Env × Mem) => evI cx 102 2 4 p.1 p.2) ([(6, (.ptr 2 0)), (10, (.ptr 3 0)), (2, (.ptr 1 0)), (1, (.fn 103 [(.ptr 0 0)])), (50, (.d (.sl false 3 x0.1 x0.2))), (51, (.d (.int .i64 x1))), (52, (.d (.int .i64 x2))), (13, (.ptr 4 0)), (70, (.d (.bool x3)))], [(.box [(.d (.sl false 3 x4.1 x4.2))]), (.box [(.d (.int .i64 x5))]), (.box [(.d (.int .i64 x6)), (.d (.int .i64 x7)), (.own 5)]), (.box [(.d (.int .i64 x8)), (.d (.int .i64 x9)), (.own 6)]), (.box [(.d (.int .i64 x10)), (.d (.int .i64 x11)), (.own 7)]), (.lrow 3 x12.1 false x12.2), (.lrow 3 x13.1 false x13.2), (.lrow 3 x14.1 true x14.2)])
noncomputable def impl_replace_Fimpl_inPlace_1c_j3 (x0 : Sl) (x1 : Int) (x2 : Int) (x3 : Sl) (x4 : Int) (x5 : Int) (x6 : Int) (x7 : Int) (x8 : Int) (x9 : Int) (x10 : Int) (x11 : Sl) (x12 : Sl) (x13 : Sl) : Res := (fun (p : Env × Mem) => evI cx 102 2 3 p.1 p.2) ([(6, (.ptr 2 0)), (10, (.ptr 3 0)), (2, (.ptr 1 0)), (1, (.fn 103 [(.ptr 0 0)])), (50, (.d (.sl false 3 x0.1 x0.2))), (51, (.d (.int .i64 x1))), (52, (.d (.int .i64 x2))), (13, (.ptr 4 0))], [(.box [(.d (.sl false 3 x3.1 x3.2))]), (.box [(.d (.int .i64 x4))]), (.box [(.d (.int .i64 x5)), (.d (.int .i64 x6)), (.own 5)]), (.box [(.d (.int .i64 x7)), (.d (.int .i64 x8)), (.own 6)]), (.box [(.d (.int .i64 x9)), (.d (.int .i64 x10)), (.own 7)]), (.lrow 3 x11.1 false x11.2), (.lrow 3 x12.1 false x12.2), (.lrow 3 x13.1 true x13.2)])
noncomputable def impl_replace_Fimpl_inPlace_1c_j2v1 (x0 : Int) (x1 : Sl) (x2 : Int) (x3 : Sl) (x4 : Int) (x5 : Int) (x6 : Int) (x7 : Int) (x8 : Int) (x9 : Sl) (x10 : Sl) : Res := (fun (p : Env × Mem) => evI cx 102 2 2 p.1 p.2) ([(6, (.ptr 2 0)), (52, (.d (.int .i64 x0))), (10, (.ptr 3 0)), (2, (.ptr 1 0)), (1, (.fn 103 [(.ptr 0 0)])), (50, (.d (.sl false 3 x1.1 x1.2))), (51, (.d (.int .i64 x2)))], [(.box [(.d (.sl false 3 x3.1 x3.2))]), (.box [(.d (.int .i64 x4))]), (.box [(.d (.int .i64 x5)), (.d (.int .i64 x6)), (.own 4)]), (.box [(.d (.int .i64 x7)), (.d (.int .i64 x8)), (.own 5)]), (.lrow 3 x9.1 false x9.2), (.lrow 3 x10.1 true x10.2)])
noncomputable def impl_replace_Fimpl_inPlace_1c_j4v1 (x0 : Sl) (x1 : Int) (x2 : Int) (x3 : Bool) (x4 : Sl) (x5 : Int) (x6 : Int) (x7 : Int) (x8 : Int) (x9 : Int) (x10 : Int) (x11 : Int) (x12 : Sl) (x13 : Sl) (x14 : Sl) : Res := (fun (p : Env × Mem) => evI cx 102 2 4 p.1 p.2) ([(6, (.ptr 2 0)), (10, (.ptr 3 0)), (2, (.ptr 1 0)), (1, (.fn 103 [(.ptr 0 0)])), (50, (.d (.sl false 3 x0.1 x0.2))), (51, (.d (.int .i64 x1))), (52, (.d (.int .i64 x2))), (13, (.ptr 4 0)), (70, (.d (.bool x3)))], [(.box [(.d (.sl false 3 x4.1 x4.2))]), (.box [(.d (.int .i64 x5))]), (.box [(.d (.int .i64 x6)), (.d (.int .i64 x7)), (.own 5)]), (.box [(.d (.int .i64 x8)), (.d (.int .i64 x9)), (.own 6)]), (.box [(.d (.int .i64 x10)), (.d (.int .i64 x11)), (.own 7)]), (.lrow 3 x12.1 false x12.2), (.lrow 3 x13.1 true x13.2), (.lrow 3 x14.1 true x14.2)])
noncomputable def impl_replace_Fimpl_inPlace_1c_j3v1 (x0 : Sl) (x1 : Int) (x2 : Int) (x3 : Sl) (x4 : Int) (x5 : Int) (x6 : Int) (x7 : Int) (x8 : Int) (x9 : Int) (x10 : Int) (x11 : Sl) (x12 : Sl) (x13 : Sl) : Res := (fun (p : Env × Mem) => evI cx 102 2 3 p.1 p.2) ([(6, (.ptr 2 0)), (10, (.ptr 3 0)), (2, (.ptr 1 0)), (1, (.fn 103 [(.ptr 0 0)])), (50, (.d (.sl false 3 x0.1 x0.2))), (51, (.d (.int .i64 x1))), (52, (.d (.int .i64 x2))), (13, (.ptr 4 0))], [(.box [(.d (.sl false 3 x3.1 x3.2))]), (.box [(.d (.int .i64 x4))]), (.box [(.d (.int .i64 x5)), (.d (.int .i64 x6)), (.own 5)]), (.box [(.d (.int .i64 x7)), (.d (.int .i64 x8)), (.own 6)]), (.box [(.d (.int .i64 x9)), (.d (.int .i64 x10)), (.own 7)]), (.lrow 3 x11.1 false x11.2), (.lrow 3 x12.1 true x12.2), (.lrow 3 x13.1 true x13.2)])
theorem impl_replace_Fimpl_inPlace_1c_eq (x0 : T_Ty) (x1 : Sl) (x2 : Int) : impl_replace_Fimpl_inPlace_1c x0 x1 x2 =
  oite (x0.1 == (7 : Int))
    (ocall (.tup [(.agg sh_Ty), (.one .bool)]) [(.box [(.sl 3)])] (impl_inPlace_1 x0.2.1 x1) fun (r0 : (T_Ty × (Bool × Unit))) (m1 : ((Sl × Unit) × Unit)) =>
    oite r0.2.1
      (ocall (.m (.one (.int .i64))) [] (impl_measure r0.1 (1 : Int)) fun (r2 : Int) (m3 : Unit) =>
      osame (α := List V) [(.d (.int .i64 x2))] [(.d (.int .i64 x2))] (
      ocall (.m (.agg [(.int .i64), (.int .i64), (.own 0)])) [(.lrow 3 true)] (impl_cloneTy r0.1) fun (r4 : (Int × (Int × (Unit × Unit)))) (m5 : (Sl × Unit)) =>
      osame (α := List V) [(.d (.int .i64 (w64 (x2 - r2))))] [(.d (.int .i64 (w64 (x2 - r2))))] (
      osame (α := List V) [(.d (.bool (decide ((w64 (x2 - r2)) ≥ (0 : Int)))))] [(.d (.bool (decide ((w64 (x2 - r2)) ≥ (0 : Int)))))] (
      osame (α := List V) [(.d (.int .i64 (w64 (x2 - r2))))] [(.d (.int .i64 (w64 (x2 - r2))))] (
      osame (α := List V) [(.d (.bool (decide ((w64 (x2 - r2)) ≥ (0 : Int)))))] [(.d (.bool (decide ((w64 (x2 - r2)) ≥ (0 : Int)))))] (
      some ((.tup [(.agg [(.d (.int .i64 r4.1)), (.d (.int .i64 r4.2.1)), (.own 2)]), (.d (.bool (decide ((w64 (x2 - r2)) ≥ (0 : Int)))))]), [(.box [(.d (.sl false 3 m1.1.1.1 m1.1.1.2))]), (.box [(.d (.int .i64 (w64 (x2 - r2))))]), (.lrow 3 m5.1.1 true m5.1.2)])))))))
      (impl_replace_Fimpl_inPlace_1c_j1 m1.1.1 x2 (0 : Int) (0 : Int) x0 (0, [])))
    (impl_replace_Fimpl_inPlace_1c_j1 x1 x2 (0 : Int) (0 : Int) x0 (0, [])) := (evF_eq ..).trans (by kernel_rfl)
theorem impl_replace_Fimpl_inPlace_1c_j1_eq (x0 : Sl) (x1 : Int) (x2 : Int) (x3 : Int) (x4 : T_Ty) (x5 : Sl) : impl_replace_Fimpl_inPlace_1c_j1 x0 x1 x2 x3 x4 x5 =
  impl_replace_Fimpl_inPlace_1c_j2 (0 : Int) x4.2.2.1 ((x4.2.2.1.1 : Nat) : Int) x0 (w64 (x1 - (1 : Int))) x2 x3 x4.1 x4.2.1 x5 (0, []) := (evI_eq ..).trans (by kernel_rfl)
-- a loop's head
theorem impl_replace_Fimpl_inPlace_1c_j2_eq (x0 : Int) (x1 : Sl) (x2 : Int) (x3 : Sl) (x4 : Int) (x5 : Int) (x6 : Int) (x7 : Int) (x8 : Int) (x9 : Sl) (x10 : Sl) : impl_replace_Fimpl_inPlace_1c_j2 x0 x1 x2 x3 x4 x5 x6 x7 x8 x9 x10 =
  oite (decide (x0 < x2))
    (oat sh_Ty x1.1 x1.2 x0 fun (t6 : T_Ty) =>
    ocall (.tup [(.agg [(.int .i64), (.int .i64), (.own (0 + (List.length ((Ent.box ((V.d (D.sl false 3 x3.1 x3.2)) :: [])) :: ((Ent.box ((V.d (D.int .i64 x4)) :: [])) :: [])))))]), (.one .bool)]) [(.box [(.sl 3)]), (.box [(.int .i64)]), (.lrow 3 true)] (impl_replace_Fimpl_inPlace_1c t6 x3 x4) fun (r7 : ((Int × (Int × (Unit × Unit))) × (Bool × Unit))) (m8 : ((Sl × Unit) × ((Int × Unit) × (Sl × Unit)))) =>
    oite (!r7.2.1)
      (impl_replace_Fimpl_inPlace_1c_j4 x1 x2 x0 true m8.1.1 m8.2.1.1 x5 x6 x7 x8 r7.1.1 r7.1.2.1 x9 x10 m8.2.2.1)
      (impl_replace_Fimpl_inPlace_1c_j4 x1 x2 x0 (decide (m8.2.1.1 < (0 : Int))) m8.1.1 m8.2.1.1 x5 x6 x7 x8 r7.1.1 r7.1.2.1 x9 x10 m8.2.2.1))
    (osame (α := List V) [(.d (.int .i64 x4))] [(.d (.int .i64 x4))] (
    osame (α := List V) [(.d (.bool (decide (x4 ≥ (0 : Int)))))] [(.d (.bool (decide (x4 ≥ (0 : Int)))))] (
    some ((.tup [(.agg [(.d (.int .i64 x7)), (.d (.int .i64 x8)), (.own 2)]), (.d (.bool (decide (x4 ≥ (0 : Int)))))]), [(.box [(.d (.sl false 3 x3.1 x3.2))]), (.box [(.d (.int .i64 x4))]), (.lrow 3 x10.1 false x10.2)])))) := (evI_eq ..).trans (by kernel_rfl)
theorem impl_replace_Fimpl_inPlace_1c_j4_eq (x0 : Sl) (x1 : Int) (x2 : Int) (x3 : Bool) (x4 : Sl) (x5 : Int) (x6 : Int) (x7 : Int) (x8 : Int) (x9 : Int) (x10 : Int) (x11 : Int) (x12 : Sl) (x13 : Sl) (x14 : Sl) : impl_replace_Fimpl_inPlace_1c_j4 x0 x1 x2 x3 x4 x5 x6 x7 x8 x9 x10 x11 x12 x13 x14 =
  oite x3
    (some ((.tup [(.agg [(.d (.int .i64 (0 : Int))), (.d (.int .i64 (0 : Int))), (.own 2)]), (.kb false)]), [(.box [(.d (.sl false 3 x4.1 x4.2))]), (.box [(.d (.int .i64 x5))]), (.lrow 3 0 false [])]))
    (impl_replace_Fimpl_inPlace_1c_j3 x0 x1 x2 x4 x5 x6 x7 x8 x9 x10 x11 x12 x13 x14) := (evI_eq ..).trans (by kernel_rfl)
theorem impl_replace_Fimpl_inPlace_1c_j3_eq (x0 : Sl) (x1 : Int) (x2 : Int) (x3 : Sl) (x4 : Int) (x5 : Int) (x6 : Int) (x7 : Int) (x8 : Int) (x9 : Int) (x10 : Int) (x11 : Sl) (x12 : Sl) (x13 : Sl) : impl_replace_Fimpl_inPlace_1c_j3 x0 x1 x2 x3 x4 x5 x6 x7 x8 x9 x10 x11 x12 x13 =
  oguard (decide (((x12.1 + 1) * 40) ≤ 140737488351232)) (
  olet (x12.2 ++ ((vDs (LS.encs sh_Ty (x9, x10, x13, ()))) :: [])) fun (e9 : (List (List D))) =>
  impl_replace_Fimpl_inPlace_1c_j2v1 (w64 (x2 + (1 : Int))) x0 x1 x3 x4 x5 x6 x7 x8 x11 ((x12.1 + 1), e9)) := (evI_eq ..).trans (by kernel_rfl)
-- a loop's head
theorem impl_replace_Fimpl_inPlace_1c_j2v1_eq (x0 : Int) (x1 : Sl) (x2 : Int) (x3 : Sl) (x4 : Int) (x5 : Int) (x6 : Int) (x7 : Int) (x8 : Int) (x9 : Sl) (x10 : Sl) : impl_replace_Fimpl_inPlace_1c_j2v1 x0 x1 x2 x3 x4 x5 x6 x7 x8 x9 x10 =
  oite (decide (x0 < x2))
    (oat sh_Ty x1.1 x1.2 x0 fun (t10 : T_Ty) =>
    ocall (.tup [(.agg [(.int .i64), (.int .i64), (.own (0 + (List.length ((Ent.box ((V.d (D.sl false 3 x3.1 x3.2)) :: [])) :: ((Ent.box ((V.d (D.int .i64 x4)) :: [])) :: [])))))]), (.one .bool)]) [(.box [(.sl 3)]), (.box [(.int .i64)]), (.lrow 3 true)] (impl_replace_Fimpl_inPlace_1c t10 x3 x4) fun (r11 : ((Int × (Int × (Unit × Unit))) × (Bool × Unit))) (m12 : ((Sl × Unit) × ((Int × Unit) × (Sl × Unit)))) =>
    oite (!r11.2.1)
      (impl_replace_Fimpl_inPlace_1c_j4v1 x1 x2 x0 true m12.1.1 m12.2.1.1 x5 x6 x7 x8 r11.1.1 r11.1.2.1 x9 x10 m12.2.2.1)
      (impl_replace_Fimpl_inPlace_1c_j4v1 x1 x2 x0 (decide (m12.2.1.1 < (0 : Int))) m12.1.1 m12.2.1.1 x5 x6 x7 x8 r11.1.1 r11.1.2.1 x9 x10 m12.2.2.1))
    (osame (α := List V) [(.d (.int .i64 x4))] [(.d (.int .i64 x4))] (
    osame (α := List V) [(.d (.bool (decide (x4 ≥ (0 : Int)))))] [(.d (.bool (decide (x4 ≥ (0 : Int)))))] (
    some ((.tup [(.agg [(.d (.int .i64 x7)), (.d (.int .i64 x8)), (.own 2)]), (.d (.bool (decide (x4 ≥ (0 : Int)))))]), [(.box [(.d (.sl false 3 x3.1 x3.2))]), (.box [(.d (.int .i64 x4))]), (.lrow 3 x10.1 true x10.2)])))) := (evI_eq ..).trans (by kernel_rfl)
theorem impl_replace_Fimpl_inPlace_1c_j4v1_eq (x0 : Sl) (x1 : Int) (x2 : Int) (x3 : Bool) (x4 : Sl) (x5 : Int) (x6 : Int) (x7 : Int) (x8 : Int) (x9 : Int) (x10 : Int) (x11 : Int) (x12 : Sl) (x13 : Sl) (x14 : Sl) : impl_replace_Fimpl_inPlace_1c_j4v1 x0 x1 x2 x3 x4 x5 x6 x7 x8 x9 x10 x11 x12 x13 x14 =
  oite x3
    (some ((.tup [(.agg [(.d (.int .i64 (0 : Int))), (.d (.int .i64 (0 : Int))), (.own 2)]), (.kb false)]), [(.box [(.d (.sl false 3 x4.1 x4.2))]), (.box [(.d (.int .i64 x5))]), (.lrow 3 0 false [])]))
    (impl_replace_Fimpl_inPlace_1c_j3v1 x0 x1 x2 x4 x5 x6 x7 x8 x9 x10 x11 x12 x13 x14) := (evI_eq ..).trans (by kernel_rfl)
theorem impl_replace_Fimpl_inPlace_1c_j3v1_eq (x0 : Sl) (x1 : Int) (x2 : Int) (x3 : Sl) (x4 : Int) (x5 : Int) (x6 : Int) (x7 : Int) (x8 : Int) (x9 : Int) (x10 : Int) (x11 : Sl) (x12 : Sl) (x13 : Sl) : impl_replace_Fimpl_inPlace_1c_j3v1 x0 x1 x2 x3 x4 x5 x6 x7 x8 x9 x10 x11 x12 x13 =
  oguard (decide (((x12.1 + 1) * 40) ≤ 140737488351232)) (
  olet (x12.2 ++ ((vDs (LS.encs sh_Ty (x9, x10, x13, ()))) :: [])) fun (e13 : (List (List D))) =>
  impl_replace_Fimpl_inPlace_1c_j2v1 (w64 (x2 + (1 : Int))) x0 x1 x3 x4 x5 x6 x7 x8 x11 ((x12.1 + 1), e13)) := (evI_eq ..).trans (by kernel_rfl)
noncomputable def impl_headOk_j2 (x0 : Bool) (x1 : T_Ty) : Res := (fun (p : Env × Mem) => evI cx 110 0 2 p.1 p.2) ([(1, (.ptr 0 0)), (25, (.d (.bool x0)))], [(.box (LS.encs sh_Ty x1))])
noncomputable def impl_headOk_j1 (x0 : T_Ty) : Res := (fun (p : Env × Mem) => evI cx 110 0 1 p.1 p.2) ([(1, (.ptr 0 0))], [(.box (LS.encs sh_Ty x0))])
theorem impl_headOk_eq (x0 : T_Ty) : impl_headOk x0 =
  ocall (.m (.one (.int .i64))) [] (impl_argsOf x0.1) fun (r0 : Int) (m1 : Unit) =>
  oite (r0 == (-1 : Int))
    (oite (decide (((x0.2.2.1.1 : Nat) : Int) > (3 : Int)))
      (impl_headOk_j2 true x0)
      (oite (!(r0 == (-1 : Int)))
        (impl_headOk_j2 (!(r0 == ((x0.2.2.1.1 : Nat) : Int))) x0)
        (impl_headOk_j2 false x0)))
    (oite (!(r0 == (-1 : Int)))
      (impl_headOk_j2 (!(r0 == ((x0.2.2.1.1 : Nat) : Int))) x0)
      (impl_headOk_j2 false x0)) := (evF_eq ..).trans (by kernel_rfl)
theorem impl_headOk_j2_eq (x0 : Bool) (x1 : T_Ty) : impl_headOk_j2 x0 x1 =
  oite x0
    (some ((.d (.bool false)), []))
    (impl_headOk_j1 x1) := (evI_eq ..).trans (by kernel_rfl)
theorem impl_headOk_j1_eq (x0 : T_Ty) : impl_headOk_j1 x0 =
  oite (x0.1 == (6 : Int))
    (ocall (.m (.one .bool)) [] (impl_within x0.2.1 (0 : Int) (19 : Int)) fun (r2 : Bool) (m3 : Unit) =>
    some ((.d (.bool r2)), []))
    (oite (x0.1 == (7 : Int))
      (ocall (.m (.one .bool)) [] (impl_within x0.2.1 (0 : Int) (99999 : Int)) fun (r4 : Bool) (m5 : Unit) =>
      some ((.d (.bool r4)), []))
      (some ((.d (.bool (x0.2.1 == (0 : Int)))), []))) := (evI_eq ..).trans (by kernel_rfl)
noncomputable def spec_l3insert_j1 (x0 : Int) (x1 : Sl) (x2 : Int) : Res := (fun (p : Env × Mem) => evI cx 111 0 1 p.1 p.2) ([(5, (.d (.int .i64 x0))), (0, (.d (.sl false 1 x1.1 x1.2))), (1, (.d (.int .i64 x2)))], [])
noncomputable def spec_l3insert_j3 (x0 : Sl) (x1 : Int) (x2 : Int) (x3 : Bool) : Res := (fun (p : Env × Mem) => evI cx 111 0 3 p.1 p.2) ([(0, (.d (.sl false 1 x0.1 x0.2))), (1, (.d (.int .i64 x1))), (5, (.d (.int .i64 x2))), (18, (.d (.bool x3)))], [])
noncomputable def spec_l3insert_j2 (x0 : Sl) (x1 : Int) (x2 : Int) : Res := (fun (p : Env × Mem) => evI cx 111 0 2 p.1 p.2) ([(0, (.d (.sl false 1 x0.1 x0.2))), (1, (.d (.int .i64 x1))), (5, (.d (.int .i64 x2)))], [])
noncomputable def spec_l3insert_j5 (x0 : Sl) (x1 : Int) (x2 : Int) (x3 : Bool) : Res := (fun (p : Env × Mem) => evI cx 111 0 5 p.1 p.2) ([(0, (.d (.sl false 1 x0.1 x0.2))), (5, (.d (.int .i64 x1))), (1, (.d (.int .i64 x2))), (32, (.d (.bool x3)))], [])
noncomputable def spec_l3insert_j4 (x0 : Int) (x1 : Sl) (x2 : Int) : Res := (fun (p : Env × Mem) => evI cx 111 0 4 p.1 p.2) ([(5, (.d (.int .i64 x0))), (0, (.d (.sl false 1 x1.1 x1.2))), (1, (.d (.int .i64 x2)))], [])
theorem spec_l3insert_eq (x0 : Sl) (x1 : Int) : spec_l3insert x0 x1 =
  spec_l3insert_j1 (0 : Int) x0 x1 := (evF_eq ..).trans (by kernel_rfl)
-- a loop's head
theorem spec_l3insert_j1_eq (x0 : Int) (x1 : Sl) (x2 : Int) : spec_l3insert_j1 x0 x1 x2 =
  oite (decide (x0 < ((x1.1 : Nat) : Int)))
    (oat [(.int .i64)] x1.1 x1.2 x0 fun (t0 : (Int × Unit)) =>
    spec_l3insert_j3 x1 x2 x0 (decide (t0.1 < x2)))
    (spec_l3insert_j3 x1 x2 x0 false) := (evI_eq ..).trans (by kernel_rfl)
theorem spec_l3insert_j3_eq (x0 : Sl) (x1 : Int) (x2 : Int) (x3 : Bool) : spec_l3insert_j3 x0 x1 x2 x3 =
  oite x3
    (spec_l3insert_j2 x0 x1 x2)
    (oite (decide (x2 < ((x0.1 : Nat) : Int)))
      (oat [(.int .i64)] x0.1 x0.2 x2 fun (t1 : (Int × Unit)) =>
      spec_l3insert_j5 x0 x2 x1 (t1.1 == x1))
      (spec_l3insert_j5 x0 x2 x1 false)) := (evI_eq ..).trans (by kernel_rfl)
theorem spec_l3insert_j2_eq (x0 : Sl) (x1 : Int) (x2 : Int) : spec_l3insert_j2 x0 x1 x2 =
  spec_l3insert_j1 (w64 (x2 + (1 : Int))) x0 x1 := (evI_eq ..).trans (by kernel_rfl)
theorem spec_l3insert_j5_eq (x0 : Sl) (x1 : Int) (x2 : Int) (x3 : Bool) : spec_l3insert_j5 x0 x1 x2 x3 =
  oite x3
    (some ((.d (.sl false 1 x0.1 x0.2)), []))
    (spec_l3insert_j4 x1 x0 x2) := (evI_eq ..).trans (by kernel_rfl)
theorem spec_l3insert_j4_eq (x0 : Int) (x1 : Sl) (x2 : Int) : spec_l3insert_j4 x0 x1 x2 =
  oguard (decide (((0 : Int) ≤ x0) ∧ (x0 ≤ ((x1.1 : Nat) : Int)))) (
  olet (List.take (Int.toNat x0) x1.2) fun (e2 : (List (List D))) =>
  oguard (decide (((Int.toNat x0) * 8) ≤ 140737488351232)) (
  oguard (decide ((((Int.toNat x0) + 1) * 8) ≤ 140737488351232)) (
  olet (e2 ++ (((D.int .i64 x2) :: []) :: [])) fun (e3 : (List (List D))) =>
  oguard (decide (((0 : Int) ≤ x0) ∧ (x0 ≤ ((x1.1 : Nat) : Int)))) (
  olet (List.drop (Int.toNat x0) x1.2) fun (e4 : (List (List D))) =>
  oguard (decide (((((Int.toNat x0) + 1) + (x1.1 - (Int.toNat x0))) * 8) ≤ 140737488351232)) (
  olet (e3 ++ e4) fun (e5 : (List (List D))) =>
  some ((.d (.sl false 1 (((Int.toNat x0) + 1) + (x1.1 - (Int.toNat x0))) e5)), [])))))) := (evI_eq ..).trans (by kernel_rfl)
theorem impl_TyVars_1_eq (x0 : Int) (x1 : Sl) : impl_TyVars_1 x0 x1 =
  oguard (decide (((x1.1 + 1) * 8) ≤ 140737488351232)) (
  olet (x1.2 ++ (((D.int .i64 x0) :: []) :: [])) fun (e0 : (List (List D))) =>
  some ((.tup []), [(.box [(.own 1)]), (.row 1 (x1.1 + 1) false true e0)])) := (evF_eq ..).trans (by kernel_rfl)
noncomputable def slices_IndexFunc_impl_Ty_impl_Ty_Fimpl_tysOk_1_j1 (x0 : Int) (x1 : Sl) (x2 : Int) : Res := (fun (p : Env × Mem) => evI cx 121 0 1 p.1 p.2) ([(8, (.d (.int .i64 x0))), (0, (.d (.sl false 3 x1.1 x1.2))), (1, (.fn 101 [])), (7, (.d (.int .i64 x2)))], [])
theorem slices_IndexFunc_impl_Ty_impl_Ty_Fimpl_tysOk_1_eq (x0 : Sl) : slices_IndexFunc_impl_Ty_impl_Ty_Fimpl_tysOk_1 x0 =
  slices_IndexFunc_impl_Ty_impl_Ty_Fimpl_tysOk_1_j1 (0 : Int) x0 ((x0.1 : Nat) : Int) := (evF_eq ..).trans (by kernel_rfl)
-- a loop's head
theorem slices_IndexFunc_impl_Ty_impl_Ty_Fimpl_tysOk_1_j1_eq (x0 : Int) (x1 : Sl) (x2 : Int) : slices_IndexFunc_impl_Ty_impl_Ty_Fimpl_tysOk_1_j1 x0 x1 x2 =
  oite (decide (x0 < x2))
    (oat sh_Ty x1.1 x1.2 x0 fun (t0 : T_Ty) =>
    ocall (.m (.one .bool)) [] (impl_tysOk_1 t0) fun (r1 : Bool) (m2 : Unit) =>
    oite r1
      (some ((.d (.int .i64 x0)), []))
      (slices_IndexFunc_impl_Ty_impl_Ty_Fimpl_tysOk_1_j1 (w64 (x0 + (1 : Int))) x1 x2))
    (some ((.d (.int .i64 (-1 : Int))), [])) := (evI_eq ..).trans (by kernel_rfl)
theorem impl_inPlace_1_eq (x0 : Int) (x1 : Sl) : impl_inPlace_1 x0 x1 =
  oite (decide (x0 ≥ ((x1.1 : Nat) : Int)))
    (some ((.tup [(.agg (LS.encs sh_Ty ((0 : Int), (0 : Int), (0, []), ()))), (.d (.bool false))]), [(.box [(.d (.sl false 3 x1.1 x1.2))])]))
    (oat sh_Ty x1.1 x1.2 x0 fun (t0 : T_Ty) =>
    some ((.tup [(.agg (LS.encs sh_Ty t0)), (.d (.bool true))]), [(.box [(.d (.sl false 3 x1.1 x1.2))])])) := (evF_eq ..).trans (by kernel_rfl)
noncomputable def impl_cloneTy_j1 (x0 : Int) (x1 : Sl) (x2 : Int) (x3 : Int) (x4 : Int) (x5 : Int) (x6 : Int) (x7 : Sl) (x8 : Sl) : Res := (fun (p : Env × Mem) => evI cx 65 0 1 p.1 p.2) ([(14, (.d (.int .i64 x0))), (3, (.ptr 0 0)), (12, (.d (.sl false 3 x1.1 x1.2))), (2, (.ptr 1 0)), (13, (.d (.int .i64 x2)))], [(.box [(.d (.int .i64 x3)), (.d (.int .i64 x4)), (.own 2)]), (.box [(.d (.int .i64 x5)), (.d (.int .i64 x6)), (.own 3)]), (.lrow 3 x7.1 false x7.2), (.lrow 3 x8.1 false x8.2)])
noncomputable def impl_cloneTy_j1v1 (x0 : Int) (x1 : Sl) (x2 : Int) (x3 : Int) (x4 : Int) (x5 : Int) (x6 : Int) (x7 : Sl) (x8 : Sl) : Res := (fun (p : Env × Mem) => evI cx 65 0 1 p.1 p.2) ([(14, (.d (.int .i64 x0))), (3, (.ptr 0 0)), (12, (.d (.sl false 3 x1.1 x1.2))), (2, (.ptr 1 0)), (13, (.d (.int .i64 x2)))], [(.box [(.d (.int .i64 x3)), (.d (.int .i64 x4)), (.own 2)]), (.box [(.d (.int .i64 x5)), (.d (.int .i64 x6)), (.own 3)]), (.lrow 3 x7.1 true x7.2), (.lrow 3 x8.1 false x8.2)])
theorem impl_cloneTy_eq (x0 : T_Ty) : impl_cloneTy x0 =
  impl_cloneTy_j1 (0 : Int) x0.2.2.1 ((x0.2.2.1.1 : Nat) : Int) x0.1 x0.2.1 (0 : Int) (0 : Int) (0, []) (0, []) := (evF_eq ..).trans (by kernel_rfl)
-- a loop's head
theorem impl_cloneTy_j1_eq (x0 : Int) (x1 : Sl) (x2 : Int) (x3 : Int) (x4 : Int) (x5 : Int) (x6 : Int) (x7 : Sl) (x8 : Sl) : impl_cloneTy_j1 x0 x1 x2 x3 x4 x5 x6 x7 x8 =
  oite (decide (x0 < x2))
    (oat sh_Ty x1.1 x1.2 x0 fun (t0 : T_Ty) =>
    ocall (.m (.agg [(.int .i64), (.int .i64), (.own 0)])) [(.lrow 3 true)] (impl_cloneTy t0) fun (r1 : (Int × (Int × (Unit × Unit)))) (m2 : (Sl × Unit)) =>
    oguard (decide (((x7.1 + 1) * 40) ≤ 140737488351232)) (
    olet (x7.2 ++ ((vDs (LS.encs sh_Ty (r1.1, r1.2.1, m2.1, ()))) :: [])) fun (e3 : (List (List D))) =>
    impl_cloneTy_j1v1 (w64 (x0 + (1 : Int))) x1 x2 x3 x4 x5 x6 ((x7.1 + 1), e3) x8))
    (some ((.agg [(.d (.int .i64 x3)), (.d (.int .i64 x4)), (.own 0)]), [(.lrow 3 x7.1 false x7.2)])) := (evI_eq ..).trans (by kernel_rfl)
-- a loop's head
theorem impl_cloneTy_j1v1_eq (x0 : Int) (x1 : Sl) (x2 : Int) (x3 : Int) (x4 : Int) (x5 : Int) (x6 : Int) (x7 : Sl) (x8 : Sl) : impl_cloneTy_j1v1 x0 x1 x2 x3 x4 x5 x6 x7 x8 =
  oite (decide (x0 < x2))
    (oat sh_Ty x1.1 x1.2 x0 fun (t4 : T_Ty) =>
    ocall (.m (.agg [(.int .i64), (.int .i64), (.own 0)])) [(.lrow 3 true)] (impl_cloneTy t4) fun (r5 : (Int × (Int × (Unit × Unit)))) (m6 : (Sl × Unit)) =>
    oguard (decide (((x7.1 + 1) * 40) ≤ 140737488351232)) (
    olet (x7.2 ++ ((vDs (LS.encs sh_Ty (r5.1, r5.2.1, m6.1, ()))) :: [])) fun (e7 : (List (List D))) =>
    impl_cloneTy_j1v1 (w64 (x0 + (1 : Int))) x1 x2 x3 x4 x5 x6 ((x7.1 + 1), e7) x8))
    (some ((.agg [(.d (.int .i64 x3)), (.d (.int .i64 x4)), (.own 0)]), [(.lrow 3 x7.1 true x7.2)])) := (evI_eq ..).trans (by kernel_rfl)
noncomputable def impl_argsOf_j1 (x0 : Int) (x1 : Bool) : Res := (fun (p : Env × Mem) => evI cx 123 0 1 p.1 p.2) ([(3, (.d (.int .i64 x0))), (4, (.d (.bool x1)))], [])
noncomputable def impl_argsOf_j2 (x0 : Int) (x1 : Bool) : Res := (fun (p : Env × Mem) => evI cx 123 0 2 p.1 p.2) ([(3, (.d (.int .i64 x0))), (9, (.d (.bool x1)))], [])
theorem impl_argsOf_eq (x0 : Int) : impl_argsOf x0 =
  oite (x0 == (0 : Int))
    (impl_argsOf_j1 x0 (x0 == (0 : Int)))
    (oite (x0 == (1 : Int))
      (impl_argsOf_j1 x0 (x0 == (1 : Int)))
      (oite (x0 == (2 : Int))
        (impl_argsOf_j1 x0 (x0 == (2 : Int)))
        (impl_argsOf_j1 x0 (x0 == (7 : Int))))) := (evF_eq ..).trans (by kernel_rfl)
theorem impl_argsOf_j1_eq (x0 : Int) (x1 : Bool) : impl_argsOf_j1 x0 x1 =
  oite x1
    (some ((.d (.int .i64 (0 : Int))), []))
    (oite (x0 == (3 : Int))
      (impl_argsOf_j2 x0 (x0 == (3 : Int)))
      (impl_argsOf_j2 x0 (x0 == (4 : Int)))) := (evI_eq ..).trans (by kernel_rfl)
theorem impl_argsOf_j2_eq (x0 : Int) (x1 : Bool) : impl_argsOf_j2 x0 x1 =
  oite x1
    (some ((.d (.int .i64 (2 : Int))), []))
    (oite (x0 == (5 : Int))
      (some ((.d (.int .i64 (1 : Int))), []))
      (oite (x0 == (6 : Int))
        (some ((.d (.int .i64 (-1 : Int))), []))
        (some ((.d (.int .i64 (-2 : Int))), [])))) := (evI_eq ..).trans (by kernel_rfl)
theorem impl_within_eq (x0 : Int) (x1 : Int) (x2 : Int) : impl_within x0 x1 x2 =
  oite (decide (x0 ≥ x1))
    (some ((.d (.bool (decide (x0 ≤ x2)))), []))
    (some ((.d (.bool false)), [])) := (evF_eq ..).trans (by kernel_rfl)
theorem impl_tysOk_1_eq (x0 : T_Ty) : impl_tysOk_1 x0 =
  ocall (.m (.one .bool)) [] (impl_TyOk x0) fun (r0 : Bool) (m1 : Unit) =>
  some ((.d (.bool (!r0))), []) := (evF_eq ..).trans (by kernel_rfl)
theorem ty24 : TIok Try.prog 24 ⟨3, 40, true, (.st [(0, 3), (1, 3), (2, 22)]), [.d (.int .i64 0), .d (.int .i64 0), .d (.sl true 3 0 [])], [.int .i64, .int .i64, .sl 3]⟩ := ⟨Try.sizeOf24, Try.isAgg24, ⟨_, Try.runUnderlying24, rfl, f_cons Try.sizeOf3 (f_cons Try.sizeOf3 (f_cons Try.sizeOf22 (f_end)))⟩, ⟨_, Try.typeInfo24, rfl⟩, by decide, by decide, ⟨_, Try.zeroValue24, rfl, fun w C ι => z_cons z_int (z_cons z_int (z_cons z_nil (z_end)))⟩⟩
theorem ty3 : TIok Try.prog 3 ⟨1, 8, false, (.int .i64), [.d (.int .i64 0)], [.int .i64]⟩ := ⟨Try.sizeOf3, Try.isAgg3, Try.runUnderlying3, ⟨_, Try.typeInfo3, rfl⟩, by decide, by decide, ⟨_, Try.zeroValue3, rfl, fun w C ι => z_cons z_int (z_end)⟩⟩
theorem ty22 : TIok Try.prog 22 ⟨1, 24, false, (.sl 24), [.d (.sl true 3 0 [])], [.sl 3]⟩ := ⟨Try.sizeOf22, Try.isAgg22, Try.runUnderlying22, ⟨_, Try.typeInfo22, rfl⟩, by decide, by decide, ⟨_, Try.zeroValue22, rfl, fun w C ι => z_cons z_nil (z_end)⟩⟩
theorem ty4 : TIok Try.prog 4 ⟨1, 1, false, .bool, [.d (.bool false)], [.bool]⟩ := ⟨Try.sizeOf4, Try.isAgg4, Try.runUnderlying4, ⟨_, Try.typeInfo4, rfl⟩, by decide, by decide, ⟨_, Try.zeroValue4, rfl, fun w C ι => z_cons z_bool (z_end)⟩⟩
theorem ty29 : TIok Try.prog 29 ⟨3, 40, true, (.st [(0, 3), (1, 3), (2, 27)]), [.d (.int .i64 0), .d (.int .i64 0), .d (.sl true 3 0 [])], [.int .i64, .int .i64, .sl 3]⟩ := ⟨Try.sizeOf29, Try.isAgg29, ⟨_, Try.runUnderlying29, rfl, f_cons Try.sizeOf3 (f_cons Try.sizeOf3 (f_cons Try.sizeOf27 (f_end)))⟩, ⟨_, Try.typeInfo29, rfl⟩, by decide, by decide, ⟨_, Try.zeroValue29, rfl, fun w C ι => z_cons z_int (z_cons z_int (z_cons z_nil (z_end)))⟩⟩
theorem ty27 : TIok Try.prog 27 ⟨1, 24, false, (.sl 29), [.d (.sl true 3 0 [])], [.sl 3]⟩ := ⟨Try.sizeOf27, Try.isAgg27, Try.runUnderlying27, ⟨_, Try.typeInfo27, rfl⟩, by decide, by decide, ⟨_, Try.zeroValue27, rfl, fun w C ι => z_cons z_nil (z_end)⟩⟩
theorem ty39 : TIok Try.prog 39 ⟨1, 24, false, (.sl 88), [.d (.sl true 4 0 [])], [.sl 4]⟩ := ⟨Try.sizeOf39, Try.isAgg39, Try.runUnderlying39, ⟨_, Try.typeInfo39, rfl⟩, by decide, by decide, ⟨_, Try.zeroValue39, rfl, fun w C ι => z_cons z_nil (z_end)⟩⟩
theorem ty88 : TIok Try.prog 88 ⟨4, 48, true, (.st [(0, 3), (1, 24)]), [.d (.int .i64 0), .d (.int .i64 0), .d (.int .i64 0), .d (.sl true 3 0 [])], [.int .i64, .int .i64, .int .i64, .sl 3]⟩ := ⟨Try.sizeOf88, Try.isAgg88, ⟨_, Try.runUnderlying88, rfl, f_cons Try.sizeOf3 (f_cons Try.sizeOf24 (f_end))⟩, ⟨_, Try.typeInfo88, rfl⟩, by decide, by decide, ⟨_, Try.zeroValue88, rfl, fun w C ι => z_cons z_int (z_cons z_int (z_cons z_int (z_cons z_nil (z_end))))⟩⟩
theorem ty42 : TIok Try.prog 42 ⟨1, 24, false, (.sl 63), [.d (.sl true 4 0 [])], [.sl 4]⟩ := ⟨Try.sizeOf42, Try.isAgg42, Try.runUnderlying42, ⟨_, Try.typeInfo42, rfl⟩, by decide, by decide, ⟨_, Try.zeroValue42, rfl, fun w C ι => z_cons z_nil (z_end)⟩⟩
theorem ty63 : TIok Try.prog 63 ⟨4, 48, true, (.st [(0, 3), (1, 29)]), [.d (.int .i64 0), .d (.int .i64 0), .d (.int .i64 0), .d (.sl true 3 0 [])], [.int .i64, .int .i64, .int .i64, .sl 3]⟩ := ⟨Try.sizeOf63, Try.isAgg63, ⟨_, Try.runUnderlying63, rfl, f_cons Try.sizeOf3 (f_cons Try.sizeOf29 (f_end))⟩, ⟨_, Try.typeInfo63, rfl⟩, by decide, by decide, ⟨_, Try.zeroValue63, rfl, fun w C ι => z_cons z_int (z_cons z_int (z_cons z_int (z_cons z_nil (z_end))))⟩⟩
theorem ty50 : TIok Try.prog 50 ⟨1, 24, false, (.sl 5), [.d (.sl true 1 0 [])], [.sl 1]⟩ := ⟨Try.sizeOf50, Try.isAgg50, Try.runUnderlying50, ⟨_, Try.typeInfo50, rfl⟩, by decide, by decide, ⟨_, Try.zeroValue50, rfl, fun w C ι => z_cons z_nil (z_end)⟩⟩
theorem ty5 : TIok Try.prog 5 ⟨1, 1, false, (.int .u8), [.d (.int .u8 0)], [.int .u8]⟩ := ⟨Try.sizeOf5, Try.isAgg5, Try.runUnderlying5, ⟨_, Try.typeInfo5, rfl⟩, by decide, by decide, ⟨_, Try.zeroValue5, rfl, fun w C ι => z_cons z_int (z_end)⟩⟩
theorem ty55 : TIok Try.prog 55 ⟨1, 24, false, (.sl 3), [.d (.sl true 1 0 [])], [.sl 1]⟩ := ⟨Try.sizeOf55, Try.isAgg55, Try.runUnderlying55, ⟨_, Try.typeInfo55, rfl⟩, by decide, by decide, ⟨_, Try.zeroValue55, rfl, fun w C ι => z_cons z_nil (z_end)⟩⟩
theorem ty67 : TIok Try.prog 67 ⟨13, 184, true, (.st [(0, 3), (1, 3), (2, 3), (3, 3), (4, 50), (5, 24), (8, 24), (11, 64), (12, 65)]), [.d (.int .i64 0), .d (.int .i64 0), .d (.int .i64 0), .d (.int .i64 0), .d (.sl true 1 0 []), .d (.int .i64 0), .d (.int .i64 0), .d (.sl true 3 0 []), .d (.int .i64 0), .d (.int .i64 0), .d (.sl true 3 0 []), .d (.sl true 13 0 []), .d (.sl true 15 0 [])], [.int .i64, .int .i64, .int .i64, .int .i64, .sl 1, .int .i64, .int .i64, .sl 3, .int .i64, .int .i64, .sl 3, .sl 13, .sl 15]⟩ := ⟨Try.sizeOf67, Try.isAgg67, ⟨_, Try.runUnderlying67, rfl, f_cons Try.sizeOf3 (f_cons Try.sizeOf3 (f_cons Try.sizeOf3 (f_cons Try.sizeOf3 (f_cons Try.sizeOf50 (f_cons Try.sizeOf24 (f_cons Try.sizeOf24 (f_cons Try.sizeOf64 (f_cons Try.sizeOf65 (f_end)))))))))⟩, ⟨_, Try.typeInfo67, rfl⟩, by decide, by decide, ⟨_, Try.zeroValue67, rfl, fun w C ι => z_cons z_int (z_cons z_int (z_cons z_int (z_cons z_int (z_cons z_nil (z_cons z_int (z_cons z_int (z_cons z_nil (z_cons z_int (z_cons z_int (z_cons z_nil (z_cons z_nil (z_cons z_nil (z_end)))))))))))))⟩⟩
theorem ty64 : TIok Try.prog 64 ⟨1, 24, false, (.sl 67), [.d (.sl true 13 0 [])], [.sl 13]⟩ := ⟨Try.sizeOf64, Try.isAgg64, Try.runUnderlying64, ⟨_, Try.typeInfo64, rfl⟩, by decide, by decide, ⟨_, Try.zeroValue64, rfl, fun w C ι => z_cons z_nil (z_end)⟩⟩
theorem ty65 : TIok Try.prog 65 ⟨1, 24, false, (.sl 147), [.d (.sl true 15 0 [])], [.sl 15]⟩ := ⟨Try.sizeOf65, Try.isAgg65, Try.runUnderlying65, ⟨_, Try.typeInfo65, rfl⟩, by decide, by decide, ⟨_, Try.zeroValue65, rfl, fun w C ι => z_cons z_nil (z_end)⟩⟩
theorem ty147 : TIok Try.prog 147 ⟨15, 216, true, (.st [(0, 3), (1, 55), (2, 67)]), [.d (.int .i64 0), .d (.sl true 1 0 []), .d (.int .i64 0), .d (.int .i64 0), .d (.int .i64 0), .d (.int .i64 0), .d (.sl true 1 0 []), .d (.int .i64 0), .d (.int .i64 0), .d (.sl true 3 0 []), .d (.int .i64 0), .d (.int .i64 0), .d (.sl true 3 0 []), .d (.sl true 13 0 []), .d (.sl true 15 0 [])], [.int .i64, .sl 1, .int .i64, .int .i64, .int .i64, .int .i64, .sl 1, .int .i64, .int .i64, .sl 3, .int .i64, .int .i64, .sl 3, .sl 13, .sl 15]⟩ := ⟨Try.sizeOf147, Try.isAgg147, ⟨_, Try.runUnderlying147, rfl, f_cons Try.sizeOf3 (f_cons Try.sizeOf55 (f_cons Try.sizeOf67 (f_end)))⟩, ⟨_, Try.typeInfo147, rfl⟩, by decide, by decide, ⟨_, Try.zeroValue147, rfl, fun w C ι => z_cons z_int (z_cons z_nil (z_cons z_int (z_cons z_int (z_cons z_int (z_cons z_int (z_cons z_nil (z_cons z_int (z_cons z_int (z_cons z_nil (z_cons z_int (z_cons z_int (z_cons z_nil (z_cons z_nil (z_cons z_nil (z_end)))))))))))))))⟩⟩
theorem ty73 : TIok Try.prog 73 ⟨13, 184, true, (.st [(0, 3), (1, 3), (2, 3), (3, 3), (4, 50), (5, 29), (8, 29), (11, 70), (12, 71)]), [.d (.int .i64 0), .d (.int .i64 0), .d (.int .i64 0), .d (.int .i64 0), .d (.sl true 1 0 []), .d (.int .i64 0), .d (.int .i64 0), .d (.sl true 3 0 []), .d (.int .i64 0), .d (.int .i64 0), .d (.sl true 3 0 []), .d (.sl true 13 0 []), .d (.sl true 15 0 [])], [.int .i64, .int .i64, .int .i64, .int .i64, .sl 1, .int .i64, .int .i64, .sl 3, .int .i64, .int .i64, .sl 3, .sl 13, .sl 15]⟩ := ⟨Try.sizeOf73, Try.isAgg73, ⟨_, Try.runUnderlying73, rfl, f_cons Try.sizeOf3 (f_cons Try.sizeOf3 (f_cons Try.sizeOf3 (f_cons Try.sizeOf3 (f_cons Try.sizeOf50 (f_cons Try.sizeOf29 (f_cons Try.sizeOf29 (f_cons Try.sizeOf70 (f_cons Try.sizeOf71 (f_end)))))))))⟩, ⟨_, Try.typeInfo73, rfl⟩, by decide, by decide, ⟨_, Try.zeroValue73, rfl, fun w C ι => z_cons z_int (z_cons z_int (z_cons z_int (z_cons z_int (z_cons z_nil (z_cons z_int (z_cons z_int (z_cons z_nil (z_cons z_int (z_cons z_int (z_cons z_nil (z_cons z_nil (z_cons z_nil (z_end)))))))))))))⟩⟩
theorem ty70 : TIok Try.prog 70 ⟨1, 24, false, (.sl 73), [.d (.sl true 13 0 [])], [.sl 13]⟩ := ⟨Try.sizeOf70, Try.isAgg70, Try.runUnderlying70, ⟨_, Try.typeInfo70, rfl⟩, by decide, by decide, ⟨_, Try.zeroValue70, rfl, fun w C ι => z_cons z_nil (z_end)⟩⟩
theorem ty71 : TIok Try.prog 71 ⟨1, 24, false, (.sl 150), [.d (.sl true 15 0 [])], [.sl 15]⟩ := ⟨Try.sizeOf71, Try.isAgg71, Try.runUnderlying71, ⟨_, Try.typeInfo71, rfl⟩, by decide, by decide, ⟨_, Try.zeroValue71, rfl, fun w C ι => z_cons z_nil (z_end)⟩⟩
theorem ty150 : TIok Try.prog 150 ⟨15, 216, true, (.st [(0, 3), (1, 55), (2, 73)]), [.d (.int .i64 0), .d (.sl true 1 0 []), .d (.int .i64 0), .d (.int .i64 0), .d (.int .i64 0), .d (.int .i64 0), .d (.sl true 1 0 []), .d (.int .i64 0), .d (.int .i64 0), .d (.sl true 3 0 []), .d (.int .i64 0), .d (.int .i64 0), .d (.sl true 3 0 []), .d (.sl true 13 0 []), .d (.sl true 15 0 [])], [.int .i64, .sl 1, .int .i64, .int .i64, .int .i64, .int .i64, .sl 1, .int .i64, .int .i64, .sl 3, .int .i64, .int .i64, .sl 3, .sl 13, .sl 15]⟩ := ⟨Try.sizeOf150, Try.isAgg150, ⟨_, Try.runUnderlying150, rfl, f_cons Try.sizeOf3 (f_cons Try.sizeOf55 (f_cons Try.sizeOf73 (f_end)))⟩, ⟨_, Try.typeInfo150, rfl⟩, by decide, by decide, ⟨_, Try.zeroValue150, rfl, fun w C ι => z_cons z_int (z_cons z_nil (z_cons z_int (z_cons z_int (z_cons z_int (z_cons z_int (z_cons z_nil (z_cons z_int (z_cons z_int (z_cons z_nil (z_cons z_int (z_cons z_int (z_cons z_nil (z_cons z_nil (z_cons z_nil (z_end)))))))))))))))⟩⟩
theorem ty84 : TIok Try.prog 84 ⟨1, 8, false, .other, [.undef], [.undef]⟩ := ⟨Try.sizeOf84, Try.isAgg84, trivial, ⟨_, Try.typeInfo84, rfl⟩, by decide, by decide, ⟨_, Try.zeroValue84, rfl, fun w C ι => z_cons z_un (z_end)⟩⟩
theorem ty92 : TIok Try.prog 92 ⟨1, 8, false, .other, [.undef], [.undef]⟩ := ⟨Try.sizeOf92, Try.isAgg92, trivial, ⟨_, Try.typeInfo92, rfl⟩, by decide, by decide, ⟨_, Try.zeroValue92, rfl, fun w C ι => z_cons z_un (z_end)⟩⟩
theorem ty99 : TIok Try.prog 99 ⟨2, 32, true, (.st [(0, 42), (1, 97)]), [.d (.sl true 4 0 []), .undef], [.sl 4, .undef]⟩ := ⟨Try.sizeOf99, Try.isAgg99, ⟨_, Try.runUnderlying99, rfl, f_cons Try.sizeOf42 (f_cons Try.sizeOf97 (f_end))⟩, ⟨_, Try.typeInfo99, rfl⟩, by decide, by decide, ⟨_, Try.zeroValue99, rfl, fun w C ι => z_cons z_nil (z_cons z_un (z_end))⟩⟩
theorem ty97 : TIok Try.prog 97 ⟨1, 8, false, .other, [.undef], [.undef]⟩ := ⟨Try.sizeOf97, Try.isAgg97, trivial, ⟨_, Try.typeInfo97, rfl⟩, by decide, by decide, ⟨_, Try.zeroValue97, rfl, fun w C ι => z_cons z_un (z_end)⟩⟩
theorem ty101 : TIok Try.prog 101 ⟨1, 8, false, .other, [.undef], [.undef]⟩ := ⟨Try.sizeOf101, Try.isAgg101, trivial, ⟨_, Try.typeInfo101, rfl⟩, by decide, by decide, ⟨_, Try.zeroValue101, rfl, fun w C ι => z_cons z_un (z_end)⟩⟩
theorem ty138 : TIok Try.prog 138 ⟨3, 40, true, (.st [(0, 50), (1, 3), (2, 3)]), [.d (.sl true 1 0 []), .d (.int .i64 0), .d (.int .i64 0)], [.sl 1, .int .i64, .int .i64]⟩ := ⟨Try.sizeOf138, Try.isAgg138, ⟨_, Try.runUnderlying138, rfl, f_cons Try.sizeOf50 (f_cons Try.sizeOf3 (f_cons Try.sizeOf3 (f_end)))⟩, ⟨_, Try.typeInfo138, rfl⟩, by decide, by decide, ⟨_, Try.zeroValue138, rfl, fun w C ι => z_cons z_nil (z_cons z_int (z_cons z_int (z_end)))⟩⟩
theorem ty107 : TIok Try.prog 107 ⟨1, 8, false, .other, [.undef], [.undef]⟩ := ⟨Try.sizeOf107, Try.isAgg107, trivial, ⟨_, Try.typeInfo107, rfl⟩, by decide, by decide, ⟨_, Try.zeroValue107, rfl, fun w C ι => z_cons z_un (z_end)⟩⟩
theorem ty114 : TIok Try.prog 114 ⟨1, 8, false, .other, [.undef], [.undef]⟩ := ⟨Try.sizeOf114, Try.isAgg114, trivial, ⟨_, Try.typeInfo114, rfl⟩, by decide, by decide, ⟨_, Try.zeroValue114, rfl, fun w C ι => z_cons z_un (z_end)⟩⟩
theorem ty125 : TIok Try.prog 125 ⟨1, 8, false, .other, [.undef], [.undef]⟩ := ⟨Try.sizeOf125, Try.isAgg125, trivial, ⟨_, Try.typeInfo125, rfl⟩, by decide, by decide, ⟨_, Try.zeroValue125, rfl, fun w C ι => z_cons z_un (z_end)⟩⟩
theorem ty53 : TIok Try.prog 53 ⟨1, 8, false, .other, [.undef], [.undef]⟩ := ⟨Try.sizeOf53, Try.isAgg53, trivial, ⟨_, Try.typeInfo53, rfl⟩, by decide, by decide, ⟨_, Try.zeroValue53, rfl, fun w C ι => z_cons z_un (z_end)⟩⟩
theorem ty133 : TIok Try.prog 133 ⟨1, 8, false, .other, [.undef], [.undef]⟩ := ⟨Try.sizeOf133, Try.isAgg133, trivial, ⟨_, Try.typeInfo133, rfl⟩, by decide, by decide, ⟨_, Try.zeroValue133, rfl, fun w C ι => z_cons z_un (z_end)⟩⟩
theorem ty144 : TIok Try.prog 144 ⟨1, 8, false, (.int .u64), [.d (.int .u64 0)], [.int .u64]⟩ := ⟨Try.sizeOf144, Try.isAgg144, Try.runUnderlying144, ⟨_, Try.typeInfo144, rfl⟩, by decide, by decide, ⟨_, Try.zeroValue144, rfl, fun w C ι => z_cons z_int (z_end)⟩⟩
theorem ty154 : TIok Try.prog 154 ⟨1, 8, false, .other, [.undef], [.undef]⟩ := ⟨Try.sizeOf154, Try.isAgg154, trivial, ⟨_, Try.typeInfo154, rfl⟩, by decide, by decide, ⟨_, Try.zeroValue154, rfl, fun w C ι => z_cons z_un (z_end)⟩⟩
theorem ty159 : TIok Try.prog 159 ⟨1, 8, false, (.int .i64), [.d (.int .i64 0)], [.int .i64]⟩ := ⟨Try.sizeOf159, Try.isAgg159, Try.runUnderlying159, ⟨_, Try.typeInfo159, rfl⟩, by decide, by decide, ⟨_, Try.zeroValue159, rfl, fun w C ι => z_cons z_int (z_end)⟩⟩
theorem ty168 : TIok Try.prog 168 ⟨1, 4, false, (.int .u32), [.d (.int .u32 0)], [.int .u32]⟩ := ⟨Try.sizeOf168, Try.isAgg168, Try.runUnderlying168, ⟨_, Try.typeInfo168, rfl⟩, by decide, by decide, ⟨_, Try.zeroValue168, rfl, fun w C ι => z_cons z_int (z_end)⟩⟩
theorem ty170 : TIok Try.prog 170 ⟨1, 8, false, (.int .u64), [.d (.int .u64 0)], [.int .u64]⟩ := ⟨Try.sizeOf170, Try.isAgg170, Try.runUnderlying170, ⟨_, Try.typeInfo170, rfl⟩, by decide, by decide, ⟨_, Try.zeroValue170, rfl, fun w C ι => z_cons z_int (z_end)⟩⟩
theorem ty1 : TIok Try.prog 1 ⟨1, 8, false, .other, [.undef], [.undef]⟩ := ⟨Try.sizeOf1, Try.isAgg1, trivial, ⟨_, Try.typeInfo1, rfl⟩, by decide, by decide, ⟨_, Try.zeroValue1, rfl, fun w C ι => z_cons z_un (z_end)⟩⟩
theorem ty172 : TIok Try.prog 172 ⟨1, 8, false, (.int .u64), [.d (.int .u64 0)], [.int .u64]⟩ := ⟨Try.sizeOf172, Try.isAgg172, Try.runUnderlying172, ⟨_, Try.typeInfo172, rfl⟩, by decide, by decide, ⟨_, Try.zeroValue172, rfl, fun w C ι => z_cons z_int (z_end)⟩⟩
theorem ty9 : TIok Try.prog 9 ⟨1, 16, false, .str, [.d (.str ⟨#[]⟩)], [.str]⟩ := ⟨Try.sizeOf9, Try.isAgg9, Try.runUnderlying9, ⟨_, Try.typeInfo9, rfl⟩, by decide, by decide, ⟨_, Try.zeroValue9, rfl, fun w C ι => z_cons z_str (z_end)⟩⟩
theorem ty178 : TIok Try.prog 178 ⟨1, 8, false, .other, [.undef], [.undef]⟩ := ⟨Try.sizeOf178, Try.isAgg178, trivial, ⟨_, Try.typeInfo178, rfl⟩, by decide, by decide, ⟨_, Try.zeroValue178, rfl, fun w C ι => z_cons z_un (z_end)⟩⟩
theorem ty8 : TIok Try.prog 8 ⟨4, 24, true, (.st [(0, 2), (1, 3), (2, 4), (3, 6)]), [.d (.int .i64 0), .d (.int .i64 0), .d (.bool false), .d (.int .u8 0)], [.int .i64, .int .i64, .bool, .int .u8]⟩ := ⟨Try.sizeOf8, Try.isAgg8, ⟨_, Try.runUnderlying8, rfl, f_cons Try.sizeOf2 (f_cons Try.sizeOf3 (f_cons Try.sizeOf4 (f_cons Try.sizeOf6 (f_end))))⟩, ⟨_, Try.typeInfo8, rfl⟩, by decide, by decide, ⟨_, Try.zeroValue8, rfl, fun w C ι => z_cons z_int (z_cons z_int (z_cons z_bool (z_cons z_int (z_end))))⟩⟩
theorem ty2 : TIok Try.prog 2 ⟨1, 8, false, (.int .i64), [.d (.int .i64 0)], [.int .i64]⟩ := ⟨Try.sizeOf2, Try.isAgg2, Try.runUnderlying2, ⟨_, Try.typeInfo2, rfl⟩, by decide, by decide, ⟨_, Try.zeroValue2, rfl, fun w C ι => z_cons z_int (z_end)⟩⟩
theorem ty6 : TIok Try.prog 6 ⟨1, 1, false, (.int .u8), [.d (.int .u8 0)], [.int .u8]⟩ := ⟨Try.sizeOf6, Try.isAgg6, Try.runUnderlying6, ⟨_, Try.typeInfo6, rfl⟩, by decide, by decide, ⟨_, Try.zeroValue6, rfl, fun w C ι => z_cons z_int (z_end)⟩⟩
theorem ty10 : TIok Try.prog 10 ⟨1, 16, false, .str, [.d (.str ⟨#[]⟩)], [.str]⟩ := ⟨Try.sizeOf10, Try.isAgg10, Try.runUnderlying10, ⟨_, Try.typeInfo10, rfl⟩, by decide, by decide, ⟨_, Try.zeroValue10, rfl, fun w C ι => z_cons z_str (z_end)⟩⟩
theorem ty11 : TIok Try.prog 11 ⟨1, 16, false, .str, [.d (.str ⟨#[]⟩)], [.str]⟩ := ⟨Try.sizeOf11, Try.isAgg11, Try.runUnderlying11, ⟨_, Try.typeInfo11, rfl⟩, by decide, by decide, ⟨_, Try.zeroValue11, rfl, fun w C ι => z_cons z_str (z_end)⟩⟩
theorem ty14 : TIok Try.prog 14 ⟨2, 24, true, (.st [(0, 9), (1, 12)]), [.d (.str ⟨#[]⟩), .d (.int .u64 0)], [.str, .int .u64]⟩ := ⟨Try.sizeOf14, Try.isAgg14, ⟨_, Try.runUnderlying14, rfl, f_cons Try.sizeOf9 (f_cons Try.sizeOf12 (f_end))⟩, ⟨_, Try.typeInfo14, rfl⟩, by decide, by decide, ⟨_, Try.zeroValue14, rfl, fun w C ι => z_cons z_str (z_cons z_int (z_end))⟩⟩
theorem ty12 : TIok Try.prog 12 ⟨1, 8, false, (.int .u64), [.d (.int .u64 0)], [.int .u64]⟩ := ⟨Try.sizeOf12, Try.isAgg12, Try.runUnderlying12, ⟨_, Try.typeInfo12, rfl⟩, by decide, by decide, ⟨_, Try.zeroValue12, rfl, fun w C ι => z_cons z_int (z_end)⟩⟩
theorem ty15 : TIok Try.prog 15 ⟨1, 8, false, .other, [.undef], [.undef]⟩ := ⟨Try.sizeOf15, Try.isAgg15, trivial, ⟨_, Try.typeInfo15, rfl⟩, by decide, by decide, ⟨_, Try.zeroValue15, rfl, fun w C ι => z_cons z_un (z_end)⟩⟩
theorem ty183 : TIok Try.prog 183 ⟨4, 40, true, (.st [(0, 17), (1, 17), (2, 17), (3, 9)]), [.undef, .undef, .undef, .d (.str ⟨#[]⟩)], [.undef, .undef, .undef, .str]⟩ := ⟨Try.sizeOf183, Try.isAgg183, ⟨_, Try.runUnderlying183, rfl, f_cons Try.sizeOf17 (f_cons Try.sizeOf17 (f_cons Try.sizeOf17 (f_cons Try.sizeOf9 (f_end))))⟩, ⟨_, Try.typeInfo183, rfl⟩, by decide, by decide, ⟨_, Try.zeroValue183, rfl, fun w C ι => z_cons z_un (z_cons z_un (z_cons z_un (z_cons z_str (z_end))))⟩⟩
theorem ty17 : TIok Try.prog 17 ⟨1, 8, false, .other, [.undef], [.undef]⟩ := ⟨Try.sizeOf17, Try.isAgg17, trivial, ⟨_, Try.typeInfo17, rfl⟩, by decide, by decide, ⟨_, Try.zeroValue17, rfl, fun w C ι => z_cons z_un (z_end)⟩⟩
theorem ty195 : TIok Try.prog 195 ⟨11, 48, true, (.st [(0, 12), (1, 12), (2, 168), (3, 188), (4, 5), (5, 5), (6, 189), (7, 190), (8, 191), (9, 192), (10, 193)]), [.d (.int .u64 0), .d (.int .u64 0), .d (.int .u32 0), .d (.int .u8 0), .d (.int .u8 0), .d (.int .u8 0), .d (.int .u8 0), .undef, .undef, .d (.int .i32 0), .d (.int .i32 0)], [.int .u64, .int .u64, .int .u32, .int .u8, .int .u8, .int .u8, .int .u8, .undef, .undef, .int .i32, .int .i32]⟩ := ⟨Try.sizeOf195, Try.isAgg195, ⟨_, Try.runUnderlying195, rfl, f_cons Try.sizeOf12 (f_cons Try.sizeOf12 (f_cons Try.sizeOf168 (f_cons Try.sizeOf188 (f_cons Try.sizeOf5 (f_cons Try.sizeOf5 (f_cons Try.sizeOf189 (f_cons Try.sizeOf190 (f_cons Try.sizeOf191 (f_cons Try.sizeOf192 (f_cons Try.sizeOf193 (f_end)))))))))))⟩, ⟨_, Try.typeInfo195, rfl⟩, by decide, by decide, ⟨_, Try.zeroValue195, rfl, fun w C ι => z_cons z_int (z_cons z_int (z_cons z_int (z_cons z_int (z_cons z_int (z_cons z_int (z_cons z_int (z_cons z_un (z_cons z_un (z_cons z_int (z_cons z_int (z_end)))))))))))⟩⟩
theorem ty188 : TIok Try.prog 188 ⟨1, 1, false, (.int .u8), [.d (.int .u8 0)], [.int .u8]⟩ := ⟨Try.sizeOf188, Try.isAgg188, Try.runUnderlying188, ⟨_, Try.typeInfo188, rfl⟩, by decide, by decide, ⟨_, Try.zeroValue188, rfl, fun w C ι => z_cons z_int (z_end)⟩⟩
theorem ty189 : TIok Try.prog 189 ⟨1, 1, false, (.int .u8), [.d (.int .u8 0)], [.int .u8]⟩ := ⟨Try.sizeOf189, Try.isAgg189, Try.runUnderlying189, ⟨_, Try.typeInfo189, rfl⟩, by decide, by decide, ⟨_, Try.zeroValue189, rfl, fun w C ι => z_cons z_int (z_end)⟩⟩
theorem ty190 : TIok Try.prog 190 ⟨1, 8, false, .other, [.undef], [.undef]⟩ := ⟨Try.sizeOf190, Try.isAgg190, trivial, ⟨_, Try.typeInfo190, rfl⟩, by decide, by decide, ⟨_, Try.zeroValue190, rfl, fun w C ι => z_cons z_un (z_end)⟩⟩
theorem ty191 : TIok Try.prog 191 ⟨1, 8, false, .other, [.undef], [.undef]⟩ := ⟨Try.sizeOf191, Try.isAgg191, trivial, ⟨_, Try.typeInfo191, rfl⟩, by decide, by decide, ⟨_, Try.zeroValue191, rfl, fun w C ι => z_cons z_un (z_end)⟩⟩
theorem ty192 : TIok Try.prog 192 ⟨1, 4, false, (.int .i32), [.d (.int .i32 0)], [.int .i32]⟩ := ⟨Try.sizeOf192, Try.isAgg192, Try.runUnderlying192, ⟨_, Try.typeInfo192, rfl⟩, by decide, by decide, ⟨_, Try.zeroValue192, rfl, fun w C ι => z_cons z_int (z_end)⟩⟩
theorem ty193 : TIok Try.prog 193 ⟨1, 4, false, (.int .i32), [.d (.int .i32 0)], [.int .i32]⟩ := ⟨Try.sizeOf193, Try.isAgg193, Try.runUnderlying193, ⟨_, Try.typeInfo193, rfl⟩, by decide, by decide, ⟨_, Try.zeroValue193, rfl, fun w C ι => z_cons z_int (z_end)⟩⟩
theorem ty16 : TIok Try.prog 16 ⟨1, 8, false, .other, [.undef], [.undef]⟩ := ⟨Try.sizeOf16, Try.isAgg16, trivial, ⟨_, Try.typeInfo16, rfl⟩, by decide, by decide, ⟨_, Try.zeroValue16, rfl, fun w C ι => z_cons z_un (z_end)⟩⟩
theorem ty19 : TIok Try.prog 19 ⟨1, 8, true, (.st [(0, 17)]), [.undef], [.undef]⟩ := ⟨Try.sizeOf19, Try.isAgg19, ⟨_, Try.runUnderlying19, rfl, f_cons Try.sizeOf17 (f_end)⟩, ⟨_, Try.typeInfo19, rfl⟩, by decide, by decide, ⟨_, Try.zeroValue19, rfl, fun w C ι => z_cons z_un (z_end)⟩⟩
theorem fn6 : FnOk Try.prog 6 I6 := .text rfl Try.call6 Try.func6 (by kernel_rfl) (by kernel_rfl) (by kernel_rfl)
theorem fn15 : FnOk Try.prog 15 I15 := .text rfl Try.call15 Try.func15 (by kernel_rfl) (by kernel_rfl) (by kernel_rfl)
theorem fn30 : FnOk Try.prog 30 I30 := .text rfl Try.call30 Try.func30 (by kernel_rfl) (by kernel_rfl) (by kernel_rfl)
theorem fn31 : FnOk Try.prog 31 I31 := .text rfl Try.call31 Try.func31 (by kernel_rfl) (by kernel_rfl) (by kernel_rfl)
theorem fn32 : FnOk Try.prog 32 I32 := .text rfl Try.call32 Try.func32 (by kernel_rfl) (by kernel_rfl) (by kernel_rfl)
theorem fn33 : FnOk Try.prog 33 I33 := .text rfl Try.call33 Try.func33 (by kernel_rfl) (by kernel_rfl) (by kernel_rfl)
theorem fn34 : FnOk Try.prog 34 I34 := .text rfl Try.call34 Try.func34 (by kernel_rfl) (by kernel_rfl) (by kernel_rfl)
theorem fn35 : FnOk Try.prog 35 I35 := .text rfl Try.call35 Try.func35 (by kernel_rfl) (by kernel_rfl) (by kernel_rfl)
theorem fn36 : FnOk Try.prog 36 I36 := .text rfl Try.call36 Try.func36 (by kernel_rfl) (by kernel_rfl) (by kernel_rfl)
theorem fn39 : FnOk Try.prog 39 I39 := .text rfl Try.call39 Try.func39 (by kernel_rfl) (by kernel_rfl) (by kernel_rfl)
theorem fn50 : FnOk Try.prog 50 I50 := .text rfl Try.call50 Try.func50 (by kernel_rfl) (by kernel_rfl) (by kernel_rfl)
theorem fn51 : FnOk Try.prog 51 I51 := .text rfl Try.call51 Try.func51 (by kernel_rfl) (by kernel_rfl) (by kernel_rfl)
theorem fn52 : FnOk Try.prog 52 I52 := .text rfl Try.call52 Try.func52 (by kernel_rfl) (by kernel_rfl) (by kernel_rfl)
theorem fn53 : FnOk Try.prog 53 I53 := .text rfl Try.call53 Try.func53 (by kernel_rfl) (by kernel_rfl) (by kernel_rfl)
theorem fn65 : FnOk Try.prog 65 I65 := .text rfl Try.call65 Try.func65 (by kernel_rfl) (by kernel_rfl) (by kernel_rfl)
theorem fn67 : FnOk Try.prog 67 I67 := .text rfl Try.call67 Try.func67 (by kernel_rfl) (by kernel_rfl) (by kernel_rfl)
theorem fn68 : FnOk Try.prog 68 I68 := .text rfl Try.call68 Try.func68 (by kernel_rfl) (by kernel_rfl) (by kernel_rfl)
theorem fn69 : FnOk Try.prog 69 I69 := .text rfl Try.call69 Try.func69 (by kernel_rfl) (by kernel_rfl) (by kernel_rfl)
theorem fn70 : FnOk Try.prog 70 I70 := .text rfl Try.call70 Try.func70 (by kernel_rfl) (by kernel_rfl) (by kernel_rfl)
theorem fn71 : FnOk Try.prog 71 I71 := .text rfl Try.call71 Try.func71 (by kernel_rfl) (by kernel_rfl) (by kernel_rfl)
theorem fn72 : FnOk Try.prog 72 I72 := .text rfl Try.call72 Try.func72 (by kernel_rfl) (by kernel_rfl) (by kernel_rfl)
theorem fn73 : FnOk Try.prog 73 I73 := .text rfl Try.call73 Try.func73 (by kernel_rfl) (by kernel_rfl) (by kernel_rfl)
theorem fn74 : FnOk Try.prog 74 I74 := .text rfl Try.call74 Try.func74 (by kernel_rfl) (by kernel_rfl) (by kernel_rfl)
theorem fn75 : FnOk Try.prog 75 I75 := .known rfl Try.call75 con75
theorem fn76 : FnOk Try.prog 76 I76 := .known rfl Try.call76 con76
theorem fn79 : FnOk Try.prog 79 I79 := .text rfl Try.call79 Try.func79 (by kernel_rfl) (by kernel_rfl) (by kernel_rfl)
theorem fn80 : FnOk Try.prog 80 I80 := .text rfl Try.call80 Try.func80 (by kernel_rfl) (by kernel_rfl) (by kernel_rfl)
theorem fn81 : FnOk Try.prog 81 I81 := .text rfl Try.call81 Try.func81 (by kernel_rfl) (by kernel_rfl) (by kernel_rfl)
theorem fn99 : FnOk Try.prog 99 I99 := .text rfl Try.call99 Try.func99 (by kernel_rfl) (by kernel_rfl) (by kernel_rfl)
theorem fn100 : FnOk Try.prog 100 I100 := .text rfl Try.call100 Try.func100 (by kernel_rfl) (by kernel_rfl) (by kernel_rfl)
theorem fn101 : FnOk Try.prog 101 I101 := .text rfl Try.call101 Try.func101 (by kernel_rfl) (by kernel_rfl) (by kernel_rfl)
theorem fn102 : FnOk Try.prog 102 I102 := .text rfl Try.call102 Try.func102 (by kernel_rfl) (by kernel_rfl) (by kernel_rfl)
theorem fn103 : FnOk Try.prog 103 I103 := .text rfl Try.call103 Try.func103 (by kernel_rfl) (by kernel_rfl) (by kernel_rfl)
theorem fn108 : FnOk Try.prog 108 I108 := .text rfl Try.call108 Try.func108 (by kernel_rfl) (by kernel_rfl) (by kernel_rfl)
theorem fn109 : FnOk Try.prog 109 I109 := .text rfl Try.call109 Try.func109 (by kernel_rfl) (by kernel_rfl) (by kernel_rfl)
theorem fn110 : FnOk Try.prog 110 I110 := .text rfl Try.call110 Try.func110 (by kernel_rfl) (by kernel_rfl) (by kernel_rfl)
theorem fn111 : FnOk Try.prog 111 I111 := .text rfl Try.call111 Try.func111 (by kernel_rfl) (by kernel_rfl) (by kernel_rfl)
theorem fn121 : FnOk Try.prog 121 I121 := .text rfl Try.call121 Try.func121 (by kernel_rfl) (by kernel_rfl) (by kernel_rfl)
theorem fn123 : FnOk Try.prog 123 I123 := .text rfl Try.call123 Try.func123 (by kernel_rfl) (by kernel_rfl) (by kernel_rfl)
theorem cxOk : CxOk Try.prog cx := cxOk_of ⟨ty24, ty3, ty22, ty4, ty29, ty27, ty39, ty88, ty42, ty63, ty50, ty5, ty55, ty67, ty64, ty65, ty147, ty73, ty70, ty71, ty150, ty84, ty92, ty99, ty97, ty101, ty138, ty107, ty114, ty125, ty53, ty133, ty144, ty154, ty159, ty168, ty170, ty1, ty172, ty9, ty178, ty8, ty2, ty6, ty10, ty11, ty14, ty12, ty15, ty183, ty17, ty195, ty188, ty189, ty190, ty191, ty192, ty193, ty16, ty19, trivial⟩ ⟨fn6, fn15, fn30, fn31, fn32, fn33, fn34, fn35, fn36, fn39, fn50, fn51, fn52, fn53, fn65, fn67, fn68, fn69, fn70, fn71, fn72, fn73, fn74, fn75, fn76, fn79, fn80, fn81, fn99, fn100, fn101, fn102, fn103, fn108, fn109, fn110, fn111, fn121, fn123, trivial⟩ (by kernel_rfl)
end Go.Ev.Q
