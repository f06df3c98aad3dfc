/- The equations of the functions that a law reaches, printed out of the translation by a program of this session; Lean checks each. -/
import Derived.Test.YtepljphcjpcpiaaEvDat
import Derived.KernelRfl
import Derived.Test.YtepljphcjpcpiaaProg
open Go Go.Ev Go.Proofs
set_option maxRecDepth 100000
set_option linter.unusedVariables false
namespace Go.Ev.Q
noncomputable def tyL : List (Nat × TI) := [(29, ⟨13, 184, true, (.st [(0, 3), (1, 3), (2, 3), (3, 3), (4, 22), (5, 25), (8, 25), (11, 26), (12, 27)]), [.d (.int .i64 0), .d (.int .i64 0), .d (.int .i64 0), .d (.int .i64 0), .d (.sl true 1 0 []), .d (.int .i64 0), .d (.int .i64 0), .d (.sl true 3 0 []), .d (.int .i64 0), .d (.int .i64 0), .d (.sl true 3 0 []), .d (.sl true 13 0 []), .d (.sl true 15 0 [])], [.int .i64, .int .i64, .int .i64, .int .i64, .sl 1, .int .i64, .int .i64, .sl 3, .int .i64, .int .i64, .sl 3, .sl 13, .sl 15]⟩),
  (3, ⟨1, 8, false, (.int .i64), [.d (.int .i64 0)], [.int .i64]⟩),
  (22, ⟨1, 24, false, (.sl 5), [.d (.sl true 1 0 [])], [.sl 1]⟩),
  (5, ⟨1, 1, false, (.int .u8), [.d (.int .u8 0)], [.int .u8]⟩),
  (25, ⟨3, 40, true, (.st [(0, 3), (1, 3), (2, 23)]), [.d (.int .i64 0), .d (.int .i64 0), .d (.sl true 3 0 [])], [.int .i64, .int .i64, .sl 3]⟩),
  (23, ⟨1, 24, false, (.sl 25), [.d (.sl true 3 0 [])], [.sl 3]⟩),
  (26, ⟨1, 24, false, (.sl 29), [.d (.sl true 13 0 [])], [.sl 13]⟩),
  (27, ⟨1, 24, false, (.sl 165), [.d (.sl true 15 0 [])], [.sl 15]⟩),
  (165, ⟨15, 216, true, (.st [(0, 3), (1, 42), (2, 29)]), [.d (.int .i64 0), .d (.sl true 1 0 []), .d (.int .i64 0), .d (.int .i64 0), .d (.int .i64 0), .d (.int .i64 0), .d (.sl true 1 0 []), .d (.int .i64 0), .d (.int .i64 0), .d (.sl true 3 0 []), .d (.int .i64 0), .d (.int .i64 0), .d (.sl true 3 0 []), .d (.sl true 13 0 []), .d (.sl true 15 0 [])], [.int .i64, .sl 1, .int .i64, .int .i64, .int .i64, .int .i64, .sl 1, .int .i64, .int .i64, .sl 3, .int .i64, .int .i64, .sl 3, .sl 13, .sl 15]⟩),
  (42, ⟨1, 24, false, (.sl 3), [.d (.sl true 1 0 [])], [.sl 1]⟩),
  (4, ⟨1, 1, false, .bool, [.d (.bool false)], [.bool]⟩),
  (38, ⟨13, 184, true, (.st [(0, 3), (1, 3), (2, 3), (3, 3), (4, 22), (5, 34), (8, 34), (11, 35), (12, 36)]), [.d (.int .i64 0), .d (.int .i64 0), .d (.int .i64 0), .d (.int .i64 0), .d (.sl true 1 0 []), .d (.int .i64 0), .d (.int .i64 0), .d (.sl true 3 0 []), .d (.int .i64 0), .d (.int .i64 0), .d (.sl true 3 0 []), .d (.sl true 13 0 []), .d (.sl true 15 0 [])], [.int .i64, .int .i64, .int .i64, .int .i64, .sl 1, .int .i64, .int .i64, .sl 3, .int .i64, .int .i64, .sl 3, .sl 13, .sl 15]⟩),
  (34, ⟨3, 40, true, (.st [(0, 3), (1, 3), (2, 32)]), [.d (.int .i64 0), .d (.int .i64 0), .d (.sl true 3 0 [])], [.int .i64, .int .i64, .sl 3]⟩),
  (32, ⟨1, 24, false, (.sl 34), [.d (.sl true 3 0 [])], [.sl 3]⟩),
  (35, ⟨1, 24, false, (.sl 38), [.d (.sl true 13 0 [])], [.sl 13]⟩),
  (36, ⟨1, 24, false, (.sl 169), [.d (.sl true 15 0 [])], [.sl 15]⟩),
  (169, ⟨15, 216, true, (.st [(0, 3), (1, 42), (2, 38)]), [.d (.int .i64 0), .d (.sl true 1 0 []), .d (.int .i64 0), .d (.int .i64 0), .d (.int .i64 0), .d (.int .i64 0), .d (.sl true 1 0 []), .d (.int .i64 0), .d (.int .i64 0), .d (.sl true 3 0 []), .d (.int .i64 0), .d (.int .i64 0), .d (.sl true 3 0 []), .d (.sl true 13 0 []), .d (.sl true 15 0 [])], [.int .i64, .sl 1, .int .i64, .int .i64, .int .i64, .int .i64, .sl 1, .int .i64, .int .i64, .sl 3, .int .i64, .int .i64, .sl 3, .sl 13, .sl 15]⟩),
  (45, ⟨5, 72, true, (.st [(0, 42), (1, 3), (2, 3), (3, 3), (4, 43)]), [.d (.sl true 1 0 []), .d (.int .i64 0), .d (.int .i64 0), .d (.int .i64 0), .d (.sl true 3 0 [])], [.sl 1, .int .i64, .int .i64, .int .i64, .sl 3]⟩),
  (43, ⟨1, 24, false, (.sl 175), [.d (.sl true 3 0 [])], [.sl 3]⟩),
  (175, ⟨3, 24, true, (.st [(0, 3), (1, 3), (2, 3)]), [.d (.int .i64 0), .d (.int .i64 0), .d (.int .i64 0)], [.int .i64, .int .i64, .int .i64]⟩),
  (49, ⟨5, 72, true, (.st [(0, 42), (1, 3), (2, 3), (3, 3), (4, 47)]), [.d (.sl true 1 0 []), .d (.int .i64 0), .d (.int .i64 0), .d (.int .i64 0), .d (.sl true 3 0 [])], [.sl 1, .int .i64, .int .i64, .int .i64, .sl 3]⟩),
  (47, ⟨1, 24, false, (.sl 173), [.d (.sl true 3 0 [])], [.sl 3]⟩),
  (173, ⟨3, 24, true, (.st [(0, 3), (1, 3), (2, 3)]), [.d (.int .i64 0), .d (.int .i64 0), .d (.int .i64 0)], [.int .i64, .int .i64, .int .i64]⟩),
  (78, ⟨1, 24, false, (.sl 139), [.d (.sl true 4 0 [])], [.sl 4]⟩),
  (139, ⟨4, 48, true, (.st [(0, 3), (1, 25)]), [.d (.int .i64 0), .d (.int .i64 0), .d (.int .i64 0), .d (.sl true 3 0 [])], [.int .i64, .int .i64, .int .i64, .sl 3]⟩),
  (81, ⟨1, 24, false, (.sl 99), [.d (.sl true 4 0 [])], [.sl 4]⟩),
  (99, ⟨4, 48, true, (.st [(0, 3), (1, 34)]), [.d (.int .i64 0), .d (.int .i64 0), .d (.int .i64 0), .d (.sl true 3 0 [])], [.int .i64, .int .i64, .int .i64, .sl 3]⟩),
  (106, ⟨1, 8, false, .other, [.undef], [.undef]⟩),
  (115, ⟨1, 8, false, .other, [.undef], [.undef]⟩),
  (126, ⟨1, 8, false, .other, [.undef], [.undef]⟩),
  (182, ⟨3, 40, true, (.st [(0, 22), (1, 3), (2, 3)]), [.d (.sl true 1 0 []), .d (.int .i64 0), .d (.int .i64 0)], [.sl 1, .int .i64, .int .i64]⟩),
  (135, ⟨1, 8, false, .other, [.undef], [.undef]⟩),
  (143, ⟨1, 8, false, .other, [.undef], [.undef]⟩),
  (150, ⟨2, 32, true, (.st [(0, 81), (1, 148)]), [.d (.sl true 4 0 []), .undef], [.sl 4, .undef]⟩),
  (148, ⟨1, 8, false, .other, [.undef], [.undef]⟩),
  (156, ⟨1, 8, false, .other, [.undef], [.undef]⟩),
  (162, ⟨1, 8, false, .other, [.undef], [.undef]⟩),
  (167, ⟨1, 8, false, .other, [.undef], [.undef]⟩),
  (91, ⟨1, 8, false, .other, [.undef], [.undef]⟩),
  (193, ⟨1, 8, false, (.int .u64), [.d (.int .u64 0)], [.int .u64]⟩),
  (198, ⟨1, 8, false, (.int .i64), [.d (.int .i64 0)], [.int .i64]⟩),
  (205, ⟨1, 4, false, (.int .u32), [.d (.int .u32 0)], [.int .u32]⟩),
  (207, ⟨1, 8, false, (.int .u64), [.d (.int .u64 0)], [.int .u64]⟩),
  (208, ⟨1, 8, false, (.int .u64), [.d (.int .u64 0)], [.int .u64]⟩),
  (9, ⟨1, 16, false, .str, [.d (.str ⟨#[]⟩)], [.str]⟩),
  (213, ⟨1, 8, false, .other, [.undef], [.undef]⟩),
  (8, ⟨4, 24, true, (.st [(0, 2), (1, 3), (2, 4), (3, 6)]), [.d (.int .i64 0), .d (.int .i64 0), .d (.bool false), .d (.int .u8 0)], [.int .i64, .int .i64, .bool, .int .u8]⟩),
  (2, ⟨1, 8, false, (.int .i64), [.d (.int .i64 0)], [.int .i64]⟩),
  (6, ⟨1, 1, false, (.int .u8), [.d (.int .u8 0)], [.int .u8]⟩),
  (10, ⟨1, 16, false, .str, [.d (.str ⟨#[]⟩)], [.str]⟩),
  (11, ⟨1, 16, false, .str, [.d (.str ⟨#[]⟩)], [.str]⟩),
  (14, ⟨2, 24, true, (.st [(0, 9), (1, 12)]), [.d (.str ⟨#[]⟩), .d (.int .u64 0)], [.str, .int .u64]⟩),
  (12, ⟨1, 8, false, (.int .u64), [.d (.int .u64 0)], [.int .u64]⟩),
  (15, ⟨1, 8, false, .other, [.undef], [.undef]⟩),
  (218, ⟨4, 40, true, (.st [(0, 17), (1, 17), (2, 17), (3, 9)]), [.undef, .undef, .undef, .d (.str ⟨#[]⟩)], [.undef, .undef, .undef, .str]⟩),
  (17, ⟨1, 8, false, .other, [.undef], [.undef]⟩),
  (229, ⟨11, 48, true, (.st [(0, 12), (1, 12), (2, 205), (3, 222), (4, 5), (5, 5), (6, 223), (7, 224), (8, 225), (9, 226), (10, 227)]), [.d (.int .u64 0), .d (.int .u64 0), .d (.int .u32 0), .d (.int .u8 0), .d (.int .u8 0), .d (.int .u8 0), .d (.int .u8 0), .undef, .undef, .d (.int .i32 0), .d (.int .i32 0)], [.int .u64, .int .u64, .int .u32, .int .u8, .int .u8, .int .u8, .int .u8, .undef, .undef, .int .i32, .int .i32]⟩),
  (222, ⟨1, 1, false, (.int .u8), [.d (.int .u8 0)], [.int .u8]⟩),
  (223, ⟨1, 1, false, (.int .u8), [.d (.int .u8 0)], [.int .u8]⟩),
  (224, ⟨1, 8, false, .other, [.undef], [.undef]⟩),
  (225, ⟨1, 8, false, .other, [.undef], [.undef]⟩),
  (226, ⟨1, 4, false, (.int .i32), [.d (.int .i32 0)], [.int .i32]⟩),
  (227, ⟨1, 4, false, (.int .i32), [.d (.int .i32 0)], [.int .i32]⟩),
  (16, ⟨1, 8, false, .other, [.undef], [.undef]⟩),
  (19, ⟨1, 8, true, (.st [(0, 17)]), [.undef], [.undef]⟩),
  (232, ⟨1, 8, false, .other, [.undef], [.undef]⟩)]
def ann4 : Ann := (.s .o (.s .o (.s .o (.s (.s .o (.s (.s .o .o) .o)) (.s .o (.s .o (.s .o (.j ⟨1, [], [], [10, 8, 7, 6, 1, 2, 12, 11, 9], []⟩ (.j ⟨2, [], [], [10, 8, 7, 6, 1, 2, 12, 11, 9, 54], []⟩ .o (.s (.s .o .o) .o)) (.s (.s (.r [0, 1, 2, 3, 4] 0 3 [2]) (.s (.s .o .o) .o)) (.s .o (.s .o (.j ⟨3, [], [], [10, 8, 7, 6, 1, 2], []⟩ (.j ⟨4, [], [], [10, 8, 7, 6, 1, 2, 80], []⟩ .o (.s (.s .o .o) .o)) (.s .o (.s .o (.s .o (.s .o (.s (.s .o (.s (.s .o .o) .o)) (.s (.s .o (.s (.s .o .o) .o)) (.s .o (.j ⟨5, [], [], [14, 10], []⟩ (.j ⟨6, [], [], [14, 10, 113], []⟩ .o (.s (.s .o .o) .o)) (.s .o (.s .o (.s (.s .o (.s (.s .o .o) .o)) (.s (.s .o (.s (.s .o .o) .o)) (.s .o .o)))))))))))))))))))))))))
def ann5 : Ann := (.s .o (.s .o (.s .o (.s (.s .o (.s (.s .o .o) .o)) (.s .o (.s .o (.s .o (.j ⟨1, [], [], [12, 10, 9, 8, 2, 1, 3, 14, 13, 11], []⟩ (.j ⟨2, [], [], [12, 10, 9, 8, 2, 1, 3, 14, 13, 11, 58], []⟩ .o (.s (.s .o .o) .o)) (.s (.s (.r [0, 1, 2, 3, 4] 0 3 [2]) (.s (.s .o .o) .o)) (.s .o (.s .o (.j ⟨3, [], [], [12, 10, 9, 8, 2, 1, 3], []⟩ (.j ⟨4, [], [], [12, 10, 9, 8, 2, 1, 3, 84], []⟩ .o (.s (.s .o .o) .o)) (.s .o (.s .o (.s .o (.s .o (.s (.s .o (.s (.s .o .o) .o)) (.s (.s .o (.s (.s .o .o) .o)) (.s .o (.j ⟨5, [], [], [16, 12], []⟩ (.j ⟨6, [], [], [16, 12, 118], []⟩ .o (.s (.s .o .o) .o)) (.s .o (.s .o (.s (.s .o (.s (.s .o .o) .o)) (.s (.s .o (.s (.s .o .o) .o)) (.s .o .o)))))))))))))))))))))))))
def ann6 : Ann := (.s .o (.s .o (.s .o (.s (.s .o (.s (.s .o .o) .o)) (.s .o (.s .o (.s .o (.j ⟨1, [], [], [13, 11, 10, 3, 2, 1, 4, 14, 12], []⟩ (.j ⟨2, [], [], [13, 11, 10, 3, 2, 1, 4, 14, 12, 52], []⟩ .o (.s (.s .o .o) .o)) (.s (.s (.r [0, 1, 2, 3, 4] 0 3 [2]) (.s (.s .o .o) .o)) (.s .o (.s .o (.j ⟨3, [], [], [13, 11, 10, 3, 2, 1, 4], []⟩ (.j ⟨4, [], [], [13, 11, 10, 3, 2, 1, 4, 73], []⟩ .o (.s (.s .o .o) .o)) (.s .o (.s .o (.s .o (.s .o (.s (.s .o (.s (.s .o .o) .o)) (.s (.s .o (.s (.s .o .o) .o)) (.s .o (.j ⟨5, [], [], [16, 13], []⟩ (.j ⟨6, [], [], [16, 13, 102], []⟩ .o (.s (.s .o .o) .o)) (.s .o (.s .o (.s (.s .o (.s (.s .o .o) .o)) (.s (.s .o (.s (.s .o .o) .o)) (.s .o .o)))))))))))))))))))))))))
def ann19 : Ann := (.s .o (.s .o (.s (.s .o (.s (.s .o .o) .o)) (.s .o (.s (.s .o (.s (.s .o .o) .o)) (.s .o .o))))))
def ann20 : Ann := (.s .o (.s (.s .o (.s (.s .o .o) .o)) (.s .o (.s .o (.s .o .o)))))
def ann21 : Ann := (.s .o (.s .o (.s .o (.s .o (.s .o (.s .o (.s .o (.s .o .o))))))))
def ann22 : Ann := (.s .o (.s (.s .o (.s (.s .o .o) .o)) (.s .o (.s .o (.s .o .o)))))
def ann23 : Ann := (.s .o (.s (.s .o (.s (.s .o .o) .o)) (.s (.s .o (.s (.s .o .o) .o)) (.s (.s .o (.s (.s .o .o) .o)) (.s (.s .o (.s (.s .o .o) .o)) (.s (.s .o (.s (.s .o .o) .o)) (.s .o .o)))))))
def ann24 : Ann := (.s .o (.s .o (.s .o (.s .o .o))))
def ann25 : Ann := (.s .o (.s .o (.s (.s .o (.s (.s .o .o) .o)) (.s .o (.s (.s .o (.s (.s .o .o) .o)) (.s .o .o))))))
def ann26 : Ann := (.s .o (.s (.s .o (.s (.s .o .o) .o)) (.s .o (.s .o (.s .o .o)))))
def ann27 : Ann := (.s .o (.s (.s .o (.s (.s .o .o) .o)) (.s .o (.s .o (.s .o .o)))))
def ann28 : Ann := (.s .o (.s (.s .o (.s (.s .o .o) .o)) (.s .o (.s .o (.s .o .o)))))
def ann29 : Ann := (.s .o (.s (.s .o (.s (.s .o .o) .o)) (.s .o (.s .o (.s .o .o)))))
def ann32 : Ann := (.s .o (.j ⟨1, [], [], [1], []⟩ (.j ⟨2, [], [], [1, 25], []⟩ .o (.s (.s .o .o) .o)) (.s .o .o)))
def ann35 : Ann := (.s .o (.j ⟨1, [], [], [1, 3], []⟩ .o (.s .o .o)))
def ann77 : Ann := (.s .o (.s .o (.s (.s .o (.s (.s .o .o) .o)) (.s .o .o))))
def ann78 : Ann := (.s .o (.s .o (.s (.s .o (.s (.s .o .o) .o)) (.s .o .o))))
def ann79 : Ann := (.s .o (.s (.r [1, 4, 6, 8, 11, 0, 2, 5, 7, 9, 10, 12, 3, 13, 14, 15] 5 10 [3, 13]) .o))
def ann80 : Ann := (.s .o (.j ⟨1, [], [], [0, 1], []⟩ (.j ⟨2, [], [], [0, 1, 31], []⟩ (.r [0, 1, 2, 3, 4, 5, 6, 7, 8, 9, 10, 11, 12, 13, 14, 15, 16, 17, 18, 19, 20, 21, 22, 23] 0 24 []) (.s (.s .o .o) .o)) (.s .o (.s (.s .o (.b (.l ⟨3, [], [], [7, 6, 0, 1], []⟩ (.s (.s .o (.s .o .o)) (.s (.b .o) .o))))) (.s .o (.s .o .o))))))
def ann81 : Ann := (.s .o (.s .o (.s (.s .o (.b (.l ⟨1, [], [], [4, 0, 3], []⟩ (.s (.s .o (.s .o .o)) (.s (.b .o) .o))))) (.s .o .o))))
def ann82 : Ann := (.s .o (.s .o (.s (.s .o (.b (.l ⟨1, [], [], [4, 0, 3], []⟩ (.s (.s .o (.s .o .o)) (.s (.b .o) .o))))) (.s .o .o))))
def ann83 : Ann := (.s .o (.s (.r [0, 3, 1, 4, 2, 6, 5, 7, 8, 9] 2 5 [2, 5]) (.s .o .o)))
def ann84 : Ann := (.s .o (.j ⟨1, [], [], [0, 1], []⟩ (.j ⟨2, [], [], [0, 1, 15], []⟩ .o (.s (.s .o .o) .o)) (.s .o (.s .o (.s (.r [0, 1, 2, 3, 4, 5, 6, 7, 8, 9, 10] 0 10 []) (.s .o .o))))))
def ann85 : Ann := (.s .o (.s (.s .o (.s (.s .o .o) .o)) (.s (.s .o (.b (.l ⟨1, [], [], [5, 1, 0], []⟩ (.s (.s .o (.s .o .o)) (.s (.b (.s (.r [0, 1, 2, 3, 4, 5, 6, 7, 8] 0 9 []) (.s (.s .o .o) .o))) .o))))) (.s .o .o))))
def ann86 : Ann := (.s .o (.s (.s .o (.s (.s .o .o) .o)) (.s (.s .o (.b (.l ⟨1, [], [], [5, 1, 0], []⟩ (.s (.s .o (.s .o .o)) (.s (.b (.s (.r [0, 1, 2, 3, 4, 5, 6, 7, 8, 9] 0 8 []) (.s (.s .o .o) .o))) .o))))) (.s .o .o))))
def ann87 : Ann := (.s .o (.s (.s .o (.b (.l ⟨1, [], [], [5, 1, 0], []⟩ (.s (.s .o (.s .o .o)) (.s (.b (.s .o .o)) .o))))) (.s .o .o)))
def ann88 : Ann := (.s .o (.s (.s .o (.b (.l ⟨1, [], [], [5, 0, 1], []⟩ (.s (.s .o (.s .o .o)) (.s (.b (.s .o (.s .o (.s .o (.s .o (.s .o .o)))))) .o))))) (.s .o .o)))
def ann89 : Ann := (.s .o (.s (.s .o (.b (.l ⟨1, [], [], [5, 1, 0], []⟩ (.s (.s .o (.s .o .o)) (.s (.b (.s (.s .o (.s (.s .o .o) .o)) .o)) .o))))) (.s .o .o)))
def ann90 : Ann := (.s .o (.s (.s .o (.b (.l ⟨1, [], [], [5, 0, 1], []⟩ (.s (.s .o (.s .o .o)) (.s (.b (.s (.s .o (.s (.s .o .o) .o)) (.s .o (.s (.s .o (.s (.s .o .o) .o)) (.s .o (.s (.s .o (.s (.s .o .o) .o)) .o)))))) .o))))) (.s .o .o)))
def ann91 : Ann := (.s .o (.s (.s .o (.s (.s .o .o) .o)) (.s .o (.s .o .o))))
def ann92 : Ann := (.s .o (.s (.s .o (.s (.s .o .o) .o)) (.s .o .o)))
def ann93 : Ann := (.s .o (.s (.s .o (.s (.s .o .o) .o)) (.s .o (.s .o (.s .o .o)))))
def ann94 : Ann := (.s .o (.s (.s .o (.s (.s .o .o) .o)) (.s .o (.s .o .o))))
def ann98 : Ann := (.s .o (.s (.r [0, 1, 2, 3, 4, 5, 6, 7, 8, 9, 10, 11, 12, 13, 14] 0 15 []) .o))
def ann99 : Ann := (.s .o (.s .o .o))
def ann136 : Ann := (.s .o (.s .o (.s .o (.s .o (.s .o (.s .o .o))))))
def ann137 : Ann := (.s .o (.s (.s .o (.s (.s .o .o) .o)) (.s .o .o)))
def ann138 : Ann := (.s .o (.s (.s .o (.s (.s .o .o) .o)) (.s .o .o)))
def ann139 : Ann := (.s .o (.s (.s .o (.s (.s .o .o) .o)) (.s (.s .o (.s (.s .o .o) .o)) (.s (.s .o (.s (.s .o .o) .o)) (.s .o .o)))))
def ann140 : Ann := (.s .o (.s .o .o))
def ann141 : Ann := (.j ⟨1, [], [], [0, 1], []⟩ (.s .o (.s .o .o)) (.r [0, 1, 5, 6, 10, 2, 3, 4, 7, 8, 9, 11, 12, 13, 14, 15, 16, 17, 18, 19] 5 11 []))
def ann142 : Ann := (.s .o (.j ⟨1, [], [], [0, 2, 1], []⟩ (.j ⟨2, [], [], [0, 2, 1, 24], []⟩ .o (.s (.s .o .o) .o)) (.j ⟨3, [], [], [0, 2, 1], []⟩ (.s .o (.s .o .o)) (.s (.r [0, 1, 5, 6, 8, 12, 2, 3, 4, 7, 9, 10, 11, 13, 14, 15, 16, 17, 18, 19, 20, 21] 6 12 []) (.s .o .o)))))
def ann159 : Ann := (.s .o (.s (.r [0, 1, 2, 3, 4, 5, 6, 7, 8, 9, 10, 11] 0 10 []) .o))
noncomputable def I4 : FnI := ⟨Try.f4, Try.f4.body.getD .skip, [false, false], [], false, [], .m (.one (.bool)), [], [], ann4⟩
noncomputable def I5 : FnI := ⟨Try.f5, Try.f5.body.getD .skip, [false, false, false], [], false, [], .m (.one (.bool)), [], [], ann5⟩
noncomputable def I6 : FnI := ⟨Try.f6, Try.f6.body.getD .skip, [false, false, false, false], [], false, [], .m (.one (.bool)), [], [], ann6⟩
noncomputable def I19 : FnI := ⟨Try.f19, Try.f19.body.getD .skip, [false, false], [], false, [], .m (.one (.int .i64)), [], [], ann19⟩
noncomputable def I20 : FnI := ⟨Try.f20, Try.f20.body.getD .skip, [true, false], [], true, [(0, 0, 1), (0, 4, 3)], .tup [.agg [.own 1000, .int .i64, .int .i64, .int .i64, .own 1001], .one (.int .i64), .one .bool], [], [.row 1 false true, .row 3 false true], ann20⟩
noncomputable def I21 : FnI := ⟨Try.f21, Try.f21.body.getD .skip, [false], [], true, [], .m (.agg [.own 1000, .int .i64, .int .i64, .int .i64, .own 1001]), [], [.row 1 false true, .row 3 false true], ann21⟩
noncomputable def I22 : FnI := ⟨Try.f22, Try.f22.body.getD .skip, [true, false], [], true, [(0, 0, 1), (0, 4, 3)], .tup [.agg [.own 1000, .int .i64, .int .i64, .int .i64, .own 1001], .one (.int .i64), .one .bool], [], [.row 1 false true, .row 3 false true], ann22⟩
noncomputable def I23 : FnI := ⟨Try.f23, Try.f23.body.getD .skip, [true, true], [], false, [], .m (.one (.bool)), [], [], ann23⟩
noncomputable def I24 : FnI := ⟨Try.f24, Try.f24.body.getD .skip, [true, false], [], false, [], .m (.one (.int .i64)), [], [], ann24⟩
noncomputable def I25 : FnI := ⟨Try.f25, Try.f25.body.getD .skip, [true, false], [], false, [], .m (.one (.int .i64)), [], [], ann25⟩
noncomputable def I26 : FnI := ⟨Try.f26, Try.f26.body.getD .skip, [true, false, false], [], true, [(0, 0, 1), (0, 4, 3)], .tup [.agg [.own 1000, .int .i64, .int .i64, .int .i64, .own 1001], .one (.int .i64), .one .bool], [], [.row 1 false true, .row 3 false true], ann26⟩
noncomputable def I27 : FnI := ⟨Try.f27, Try.f27.body.getD .skip, [true, false, false], [], true, [(0, 0, 1), (0, 4, 3)], .tup [.agg [.own 1000, .int .i64, .int .i64, .int .i64, .own 1001], .one (.int .i64), .one .bool], [], [.row 1 false true, .row 3 false true], ann27⟩
noncomputable def I28 : FnI := ⟨Try.f28, Try.f28.body.getD .skip, [true, false, false, false], [], true, [(0, 0, 1), (0, 4, 3)], .tup [.agg [.own 1000, .int .i64, .int .i64, .int .i64, .own 1001], .one .bool], [], [.row 1 false true, .row 3 false true], ann28⟩
noncomputable def I29 : FnI := ⟨Try.f29, Try.f29.body.getD .skip, [true, false, false, false], [], true, [(0, 0, 1), (0, 4, 3)], .tup [.agg [.own 1000, .int .i64, .int .i64, .int .i64, .own 1001], .one .bool], [], [.row 1 false true, .row 3 false true], ann29⟩
noncomputable def I32 : FnI := ⟨Try.f32, Try.f32.body.getD .skip, [true], [], false, [], .m (.one (.bool)), [], [], ann32⟩
noncomputable def I35 : FnI := ⟨Try.f35, Try.f35.body.getD .skip, [true], [], false, [], .m (.one (.bool)), [], [], ann35⟩
noncomputable def I77 : FnI := ⟨Try.f77, Try.f77.body.getD .skip, [false, false], [], false, [], .m (.one (.int .i64)), [], [], ann77⟩
noncomputable def I78 : FnI := ⟨Try.f78, Try.f78.body.getD .skip, [false, false], [], false, [], .m (.one (.int .i64)), [], [], ann78⟩
noncomputable def I79 : FnI := ⟨Try.f79, Try.f79.body.getD .skip, [true], [], true, [], .m (.agg [.own 1000, .int .i64, .int .i64, .int .i64, .own 1001]), [], [.row 1 false true, .row 3 false true], ann79⟩
noncomputable def I80 : FnI := ⟨Try.f80, Try.f80.body.getD .skip, [true, false], [], false, [], .tup [.one (.int .i64), .one (.bool)], [], [], ann80⟩
noncomputable def I81 : FnI := ⟨Try.f81, Try.f81.body.getD .skip, [false], [], true, [], .m (.one (.own 1000)), [], [.row 1 false true], ann81⟩
noncomputable def I82 : FnI := ⟨Try.f82, Try.f82.body.getD .skip, [false], [], true, [], .m (.one (.own 1000)), [], [.row 3 false true], ann82⟩
noncomputable def I83 : FnI := ⟨Try.f83, Try.f83.body.getD .skip, [true], [], true, [], .m (.agg [.own 1000, .int .i64, .int .i64, .int .i64, .own 1001]), [], [.row 1 false true, .row 3 false true], ann83⟩
noncomputable def I84 : FnI := ⟨Try.f84, Try.f84.body.getD .skip, [true, false], [], false, [], .tup [.one (.int .i64), .one (.bool)], [], [], ann84⟩
noncomputable def I85 : FnI := ⟨Try.f85, Try.f85.body.getD .skip, [true, true], [], false, [], .m (.one (.bool)), [], [], ann85⟩
noncomputable def I86 : FnI := ⟨Try.f86, Try.f86.body.getD .skip, [true, true], [], false, [], .m (.one (.bool)), [], [], ann86⟩
noncomputable def I87 : FnI := ⟨Try.f87, Try.f87.body.getD .skip, [true, false], [], false, [], .m (.one (.int .i64)), [], [], ann87⟩
noncomputable def I88 : FnI := ⟨Try.f88, Try.f88.body.getD .skip, [true, false], [], false, [], .m (.one (.int .i64)), [], [], ann88⟩
noncomputable def I89 : FnI := ⟨Try.f89, Try.f89.body.getD .skip, [true, false], [], false, [], .m (.one (.int .i64)), [], [], ann89⟩
noncomputable def I90 : FnI := ⟨Try.f90, Try.f90.body.getD .skip, [true, false], [], false, [], .m (.one (.int .i64)), [], [], ann90⟩
noncomputable def I91 : FnI := ⟨Try.f91, Try.f91.body.getD .skip, [true, false, false], [], false, [], .tup [.one (.int .i64), .one (.bool)], [.box [], .row 1 false false, .row 3 false true], [], ann91⟩
noncomputable def I92 : FnI := ⟨Try.f92, Try.f92.body.getD .skip, [true, false, false], [], false, [], .tup [.one (.int .i64), .one (.bool)], [.box [], .row 1 false false, .row 3 false true], [], ann92⟩
noncomputable def I93 : FnI := ⟨Try.f93, Try.f93.body.getD .skip, [true, false, false, false], [], false, [], .m (.one (.bool)), [.box [], .row 1 false false, .row 3 false true], [], ann93⟩
noncomputable def I94 : FnI := ⟨Try.f94, Try.f94.body.getD .skip, [true, false, false, false], [], false, [], .m (.one (.bool)), [.box [], .row 1 false false, .row 3 false true], [], ann94⟩
noncomputable def I98 : FnI := ⟨Try.f98, Try.f98.body.getD .skip, [true], [], false, [], .m (.one (.int .i64)), [], [], ann98⟩
noncomputable def I99 : FnI := ⟨Try.f99, Try.f99.body.getD .skip, [false, false, false], [], false, [], .m (.one (.bool)), [], [], ann99⟩
noncomputable def I136 : FnI := ⟨Try.f136, Try.f136.body.getD .skip, [false], [], false, [], .m (.agg [.int .i64, .int .i64, .int .i64]), [], [], ann136⟩
noncomputable def I137 : FnI := ⟨Try.f137, Try.f137.body.getD .skip, [true], [], true, [(0, 0, 1)], .m (.one (.own 1000)), [], [.row 1 false true], ann137⟩
noncomputable def I138 : FnI := ⟨Try.f138, Try.f138.body.getD .skip, [true], [], true, [(0, 0, 3)], .m (.one (.own 1000)), [], [.row 3 false true], ann138⟩
noncomputable def I139 : FnI := ⟨Try.f139, Try.f139.body.getD .skip, [false, false], [], false, [], .m (.one (.bool)), [], [], ann139⟩
noncomputable def I140 : FnI := ⟨Try.f140, Try.f140.body.getD .skip, [true, false, false], [], false, [], .m (.one (.bool)), [], [], ann140⟩
noncomputable def I141 : FnI := ⟨Try.f141, Try.f141.body.getD .skip, [true, false], [], false, [], .tup [], [.box [], .row 1 false false, .row 3 false true], [], ann141⟩
noncomputable def I142 : FnI := ⟨Try.f142, Try.f142.body.getD .skip, [true, false, false], [], false, [], .m (.one (.bool)), [.box [], .row 1 false false, .row 3 false true], [], ann142⟩
noncomputable def I159 : FnI := ⟨Try.f159, Try.f159.body.getD .skip, [true, false], [], false, [], .m (.one (.bool)), [], [], ann159⟩
noncomputable def fnsL : List (Nat × FnI) := [(4, I4), (5, I5), (6, I6), (19, I19), (20, I20), (21, I21), (22, I22), (23, I23), (24, I24), (25, I25), (26, I26), (27, I27), (28, I28), (29, I29), (32, I32), (35, I35), (77, I77), (78, I78), (79, I79), (80, I80), (81, I81), (82, I82), (83, I83), (84, I84), (85, I85), (86, I86), (87, I87), (88, I88), (89, I89), (90, I90), (91, I91), (92, I92), (93, I93), (94, I94), (98, I98), (99, I99), (136, I136), (137, I137), (138, I138), (139, I139), (140, I140), (141, I141), (142, I142), (159, I159)]
noncomputable def cx : Cx := ⟨tyL, fnsL⟩
noncomputable def laws_FnExactAlloc (x0 : T_Heap) (x1 : Int) : Res := evF cx 4 [(.agg (LS.encs sh_Heap x0)), (.d (.int .i64 x1))] []
noncomputable def laws_FnExactLoad (x0 : T_Heap) (x1 : Int) (x2 : Int) : Res := evF cx 5 [(.agg (LS.encs sh_Heap x0)), (.d (.int .i64 x1)), (.d (.int .i64 x2))] []
noncomputable def laws_FnExactStore (x0 : T_Heap) (x1 : Int) (x2 : Int) (x3 : Int) : Res := evF cx 6 [(.agg (LS.encs sh_Heap x0)), (.d (.int .i64 x1)), (.d (.int .i64 x2)), (.d (.int .i64 x3))] []
noncomputable def laws_szHeap (x0 : T_Heap) (x1 : Int) : Res := evF cx 19 [(.agg (LS.encs sh_Heap x0)), (.d (.int .i64 x1))] []
noncomputable def laws_toHeap (x0 : T_Heap) : Res := evF cx 21 [(.agg (LS.encs sh_Heap x0))] []
noncomputable def spec_Alloc (x0 : Int) (x1 : Int) (x2 : Int) (x3 : Int) (x4 : Sl) (x5 : Sl) : Res := evF cx 20 [(.agg [(.own 0), (.d (.int .i64 x0)), (.d (.int .i64 x1)), (.d (.int .i64 x2)), (.own 1)]), (.d (.int .i64 x3))] [(.row 1 x4.1 false false x4.2), (.row 3 x5.1 false false x5.2)]
noncomputable def impl_Alloc (x0 : Int) (x1 : Int) (x2 : Int) (x3 : Int) (x4 : Sl) (x5 : Sl) : Res := evF cx 22 [(.agg [(.own 0), (.d (.int .i64 x0)), (.d (.int .i64 x1)), (.d (.int .i64 x2)), (.own 1)]), (.d (.int .i64 x3))] [(.row 1 x4.1 false false x4.2), (.row 3 x5.1 false false x5.2)]
noncomputable def laws_eqHeap (x0 : Int) (x1 : Int) (x2 : Int) (x3 : Int) (x4 : Int) (x5 : Int) (x6 : Sl) (x7 : Sl) (x8 : Sl) (x9 : Sl) : Res := evF cx 23 [(.agg [(.own 0), (.d (.int .i64 x0)), (.d (.int .i64 x1)), (.d (.int .i64 x2)), (.own 1)]), (.agg [(.own 2), (.d (.int .i64 x3)), (.d (.int .i64 x4)), (.d (.int .i64 x5)), (.own 3)])] [(.row 1 x6.1 false false x6.2), (.row 3 x7.1 false false x7.2), (.row 1 x8.1 false false x8.2), (.row 3 x9.1 false false x9.2)]
noncomputable def laws_markHeap (x0 : Int) (x1 : Int) (x2 : Int) (x3 : Int) (x4 : Sl) (x5 : Sl) : Res := evF cx 24 [(.agg [(.own 0), (.d (.int .i64 x0)), (.d (.int .i64 x1)), (.d (.int .i64 x2)), (.own 1)]), (.d (.int .i64 x3))] [(.row 1 x4.1 false false x4.2), (.row 3 x5.1 false false x5.2)]
noncomputable def laws_heldHeap (x0 : Int) (x1 : Int) (x2 : Int) (x3 : Int) (x4 : Sl) (x5 : Sl) : Res := evF cx 25 [(.agg [(.own 0), (.d (.int .i64 x0)), (.d (.int .i64 x1)), (.d (.int .i64 x2)), (.own 1)]), (.d (.int .i64 x3))] [(.row 1 x4.1 false false x4.2), (.row 3 x5.1 false false x5.2)]
noncomputable def spec_Load (x0 : Int) (x1 : Int) (x2 : Int) (x3 : Int) (x4 : Int) (x5 : Sl) (x6 : Sl) : Res := evF cx 26 [(.agg [(.own 0), (.d (.int .i64 x0)), (.d (.int .i64 x1)), (.d (.int .i64 x2)), (.own 1)]), (.d (.int .i64 x3)), (.d (.int .i64 x4))] [(.row 1 x5.1 false false x5.2), (.row 3 x6.1 false false x6.2)]
noncomputable def impl_Load (x0 : Int) (x1 : Int) (x2 : Int) (x3 : Int) (x4 : Int) (x5 : Sl) (x6 : Sl) : Res := evF cx 27 [(.agg [(.own 0), (.d (.int .i64 x0)), (.d (.int .i64 x1)), (.d (.int .i64 x2)), (.own 1)]), (.d (.int .i64 x3)), (.d (.int .i64 x4))] [(.row 1 x5.1 false false x5.2), (.row 3 x6.1 false false x6.2)]
noncomputable def spec_Store (x0 : Int) (x1 : Int) (x2 : Int) (x3 : Int) (x4 : Int) (x5 : Int) (x6 : Sl) (x7 : Sl) : Res := evF cx 28 [(.agg [(.own 0), (.d (.int .i64 x0)), (.d (.int .i64 x1)), (.d (.int .i64 x2)), (.own 1)]), (.d (.int .i64 x3)), (.d (.int .i64 x4)), (.d (.int .i64 x5))] [(.row 1 x6.1 false false x6.2), (.row 3 x7.1 false false x7.2)]
noncomputable def impl_Store (x0 : Int) (x1 : Int) (x2 : Int) (x3 : Int) (x4 : Int) (x5 : Int) (x6 : Sl) (x7 : Sl) : Res := evF cx 29 [(.agg [(.own 0), (.d (.int .i64 x0)), (.d (.int .i64 x1)), (.d (.int .i64 x2)), (.own 1)]), (.d (.int .i64 x3)), (.d (.int .i64 x4)), (.d (.int .i64 x5))] [(.row 1 x6.1 false false x6.2), (.row 3 x7.1 false false x7.2)]
noncomputable def laws_szIntS (x0 : Sl) (x1 : Int) : Res := evF cx 77 [(.d (.sl false 1 x0.1 x0.2)), (.d (.int .i64 x1))] []
noncomputable def laws_szAccessS (x0 : Sl) (x1 : Int) : Res := evF cx 78 [(.d (.sl false 3 x0.1 x0.2)), (.d (.int .i64 x1))] []
noncomputable def laws_toIntS (x0 : Sl) : Res := evF cx 81 [(.d (.sl false 1 x0.1 x0.2))] []
noncomputable def laws_toAccessS (x0 : Sl) : Res := evF cx 82 [(.d (.sl false 3 x0.1 x0.2))] []
noncomputable def spec_HeapOk (x0 : Int) (x1 : Int) (x2 : Int) (x3 : Sl) (x4 : Sl) : Res := evF cx 32 [(.agg [(.own 0), (.d (.int .i64 x0)), (.d (.int .i64 x1)), (.d (.int .i64 x2)), (.own 1)])] [(.row 1 x3.1 false false x3.2), (.row 3 x4.1 false false x4.2)]
noncomputable def spec_l2copy (x0 : Int) (x1 : Int) (x2 : Int) (x3 : Sl) (x4 : Sl) : Res := evF cx 79 [(.agg [(.own 0), (.d (.int .i64 x0)), (.d (.int .i64 x1)), (.d (.int .i64 x2)), (.own 1)])] [(.row 1 x3.1 false false x3.2), (.row 3 x4.1 false false x4.2)]
noncomputable def spec_l2alloc (x0 : Int) (x1 : Int) (x2 : Int) (x3 : Int) (x4 : Sl) (x5 : Sl) : Res := evF cx 80 [(.ptr 0 0), (.d (.int .i64 x0))] [(.box [(.own 1), (.d (.int .i64 x1)), (.d (.int .i64 x2)), (.d (.int .i64 x3)), (.own 2)]), (.row 1 x4.1 false false x4.2), (.row 3 x5.1 false false x5.2)]
noncomputable def impl_HeapOk (x0 : Int) (x1 : Int) (x2 : Int) (x3 : Sl) (x4 : Sl) : Res := evF cx 35 [(.agg [(.own 0), (.d (.int .i64 x0)), (.d (.int .i64 x1)), (.d (.int .i64 x2)), (.own 1)])] [(.row 1 x3.1 false false x3.2), (.row 3 x4.1 false false x4.2)]
noncomputable def impl_cloneHeap (x0 : Int) (x1 : Int) (x2 : Int) (x3 : Sl) (x4 : Sl) : Res := evF cx 83 [(.agg [(.own 0), (.d (.int .i64 x0)), (.d (.int .i64 x1)), (.d (.int .i64 x2)), (.own 1)])] [(.row 1 x3.1 false false x3.2), (.row 3 x4.1 false false x4.2)]
noncomputable def impl_Heap_alloc (x0 : Int) (x1 : Int) (x2 : Int) (x3 : Int) (x4 : Sl) (x5 : Sl) : Res := evF cx 84 [(.ptr 0 0), (.d (.int .i64 x0))] [(.box [(.own 1), (.d (.int .i64 x1)), (.d (.int .i64 x2)), (.d (.int .i64 x3)), (.own 2)]), (.row 1 x4.1 false false x4.2), (.row 3 x5.1 false false x5.2)]
noncomputable def laws_eqIntS_oo (x0 : Sl) (x1 : Sl) : Res := evF cx 85 [(.own 0), (.own 1)] [(.row 1 x0.1 false false x0.2), (.row 1 x1.1 false false x1.2)]
noncomputable def laws_eqAccessS_oo (x0 : Sl) (x1 : Sl) : Res := evF cx 86 [(.own 0), (.own 1)] [(.row 3 x0.1 false false x0.2), (.row 3 x1.1 false false x1.2)]
noncomputable def laws_markIntS_o (x0 : Int) (x1 : Sl) : Res := evF cx 87 [(.own 0), (.d (.int .i64 x0))] [(.row 1 x1.1 false false x1.2)]
noncomputable def laws_markAccessS_o (x0 : Int) (x1 : Sl) : Res := evF cx 88 [(.own 0), (.d (.int .i64 x0))] [(.row 3 x1.1 false false x1.2)]
noncomputable def laws_heldIntS_o (x0 : Int) (x1 : Sl) : Res := evF cx 89 [(.own 0), (.d (.int .i64 x0))] [(.row 1 x1.1 false false x1.2)]
noncomputable def laws_heldAccessS_o (x0 : Int) (x1 : Sl) : Res := evF cx 90 [(.own 0), (.d (.int .i64 x0))] [(.row 3 x1.1 false false x1.2)]
noncomputable def spec_l2load (x0 : Int) (x1 : Int) (x2 : Int) (x3 : Int) (x4 : Int) (x5 : Sl) (x6 : Sl) : Res := evF cx 91 [(.ptr 0 0), (.d (.int .i64 x0)), (.d (.int .i64 x1))] [(.box [(.own 1), (.d (.int .i64 x2)), (.d (.int .i64 x3)), (.d (.int .i64 x4)), (.own 2)]), (.row 1 x5.1 false false x5.2), (.row 3 x6.1 false false x6.2)]
noncomputable def impl_Heap_load (x0 : Int) (x1 : Int) (x2 : Int) (x3 : Int) (x4 : Int) (x5 : Sl) (x6 : Sl) : Res := evF cx 92 [(.ptr 0 0), (.d (.int .i64 x0)), (.d (.int .i64 x1))] [(.box [(.own 1), (.d (.int .i64 x2)), (.d (.int .i64 x3)), (.d (.int .i64 x4)), (.own 2)]), (.row 1 x5.1 false false x5.2), (.row 3 x6.1 false false x6.2)]
noncomputable def spec_l2store (x0 : Int) (x1 : Int) (x2 : Int) (x3 : Int) (x4 : Int) (x5 : Int) (x6 : Sl) (x7 : Sl) : Res := evF cx 93 [(.ptr 0 0), (.d (.int .i64 x0)), (.d (.int .i64 x1)), (.d (.int .i64 x2))] [(.box [(.own 1), (.d (.int .i64 x3)), (.d (.int .i64 x4)), (.d (.int .i64 x5)), (.own 2)]), (.row 1 x6.1 false false x6.2), (.row 3 x7.1 false false x7.2)]
noncomputable def impl_Heap_store (x0 : Int) (x1 : Int) (x2 : Int) (x3 : Int) (x4 : Int) (x5 : Int) (x6 : Sl) (x7 : Sl) : Res := evF cx 94 [(.ptr 0 0), (.d (.int .i64 x0)), (.d (.int .i64 x1)), (.d (.int .i64 x2))] [(.box [(.own 1), (.d (.int .i64 x3)), (.d (.int .i64 x4)), (.d (.int .i64 x5)), (.own 2)]), (.row 1 x6.1 false false x6.2), (.row 3 x7.1 false false x7.2)]
noncomputable def laws_toAccess (x0 : T_Access) : Res := evF cx 136 [(.agg (LS.encs sh_Access x0))] []
noncomputable def impl_within (x0 : Int) (x1 : Int) (x2 : Int) : Res := evF cx 99 [(.d (.int .i64 x0)), (.d (.int .i64 x1)), (.d (.int .i64 x2))] []
noncomputable def slices_Clone_int_int_o (x0 : Sl) : Res := evF cx 137 [(.own 0)] [(.row 1 x0.1 false false x0.2)]
noncomputable def slices_Clone_impl_Access_impl_Access_o (x0 : Sl) : Res := evF cx 138 [(.own 0)] [(.row 3 x0.1 false false x0.2)]
noncomputable def impl_Heap_room (x0 : Int) (x1 : Int) (x2 : Int) (x3 : Sl) (x4 : Sl) : Res := evF cx 98 [(.ptr 0 0)] [(.box [(.own 1), (.d (.int .i64 x0)), (.d (.int .i64 x1)), (.d (.int .i64 x2)), (.own 2)]), (.row 1 x3.1 false false x3.2), (.row 3 x4.1 false false x4.2)]
noncomputable def laws_eqAccess (x0 : T_Access) (x1 : T_Access) : Res := evF cx 139 [(.agg (LS.encs sh_Access x0)), (.agg (LS.encs sh_Access x1))] []
noncomputable def spec_l2in (x0 : Int) (x1 : Int) (x2 : Int) (x3 : Int) (x4 : Int) (x5 : Sl) (x6 : Sl) : Res := evF cx 140 [(.ptr 0 0), (.d (.int .i64 x0)), (.d (.int .i64 x1))] [(.box [(.own 1), (.d (.int .i64 x2)), (.d (.int .i64 x3)), (.d (.int .i64 x4)), (.own 2)]), (.row 1 x5.1 false false x5.2), (.row 3 x6.1 false false x6.2)]
noncomputable def spec_l2log (x0 : Int) (x1 : Int) (x2 : Int) (x3 : Int) (x4 : Sl) (x5 : Sl) : Res := evF cx 141 [(.ptr 0 0), (.d (.int .i64 x0))] [(.box [(.own 1), (.d (.int .i64 x1)), (.d (.int .i64 x2)), (.d (.int .i64 x3)), (.own 2)]), (.row 1 x4.1 false false x4.2), (.row 3 x5.1 false false x5.2)]
noncomputable def impl_Heap_touch (x0 : Int) (x1 : Int) (x2 : Int) (x3 : Int) (x4 : Int) (x5 : Sl) (x6 : Sl) : Res := evF cx 142 [(.ptr 0 0), (.d (.int .i64 x0)), (.d (.int .i64 x1))] [(.box [(.own 1), (.d (.int .i64 x2)), (.d (.int .i64 x3)), (.d (.int .i64 x4)), (.own 2)]), (.row 1 x5.1 false false x5.2), (.row 3 x6.1 false false x6.2)]
noncomputable def impl_Heap_taken (x0 : Int) (x1 : Int) (x2 : Int) (x3 : Int) (x4 : Sl) (x5 : Sl) : Res := evF cx 159 [(.ptr 0 0), (.d (.int .i64 x0))] [(.box [(.own 1), (.d (.int .i64 x1)), (.d (.int .i64 x2)), (.d (.int .i64 x3)), (.own 2)]), (.row 1 x4.1 false false x4.2), (.row 3 x5.1 false false x5.2)]
noncomputable def laws_FnExactAlloc_j2 (x0 : Bool) (x1 : Int) (x2 : Int) (x3 : Bool) (x4 : Int) (x5 : Bool) (x6 : Int) (x7 : Int) (x8 : Int) (x9 : Int) (x10 : Int) (x11 : Int) (x12 : T_Heap) (x13 : Int) (x14 : Int) (x15 : Int) (x16 : Sl) (x17 : Sl) (x18 : Sl) (x19 : Sl) (x20 : Sl) (x21 : Sl) : Res := (fun (p : Env × Mem) => evI cx 4 0 2 p.1 p.2) ([(10, (.ptr 0 0)), (8, (.d (.bool x0))), (7, (.d (.int .i64 x1))), (6, (.ptr 1 0)), (1, (.d (.int .i64 x2))), (2, (.ptr 2 0)), (12, (.d (.bool x3))), (11, (.d (.int .i64 x4))), (9, (.ptr 3 0)), (54, (.d (.bool x5)))], [(.box [(.own 4), (.d (.int .i64 x6)), (.d (.int .i64 x7)), (.d (.int .i64 x8)), (.own 5)]), (.box [(.own 6), (.d (.int .i64 x9)), (.d (.int .i64 x10)), (.d (.int .i64 x11)), (.own 7)]), (.box (LS.encs sh_Heap x12)), (.box [(.own 8), (.d (.int .i64 x13)), (.d (.int .i64 x14)), (.d (.int .i64 x15)), (.own 9)]), (.row 1 x16.1 false true x16.2), (.row 3 x17.1 false true x17.2), (.row 1 x18.1 false true x18.2), (.row 3 x19.1 false true x19.2), (.row 1 x20.1 false true x20.2), (.row 3 x21.1 false true x21.2)])
noncomputable def laws_FnExactAlloc_j1 (x0 : Bool) (x1 : Int) (x2 : Int) (x3 : Bool) (x4 : Int) (x5 : Int) (x6 : Int) (x7 : Int) (x8 : Int) (x9 : Int) (x10 : Int) (x11 : T_Heap) (x12 : Int) (x13 : Int) (x14 : Int) (x15 : Sl) (x16 : Sl) (x17 : Sl) (x18 : Sl) (x19 : Sl) (x20 : Sl) : Res := (fun (p : Env × Mem) => evI cx 4 0 1 p.1 p.2) ([(10, (.ptr 0 0)), (8, (.d (.bool x0))), (7, (.d (.int .i64 x1))), (6, (.ptr 1 0)), (1, (.d (.int .i64 x2))), (2, (.ptr 2 0)), (12, (.d (.bool x3))), (11, (.d (.int .i64 x4))), (9, (.ptr 3 0))], [(.box [(.own 4), (.d (.int .i64 x5)), (.d (.int .i64 x6)), (.d (.int .i64 x7)), (.own 5)]), (.box [(.own 6), (.d (.int .i64 x8)), (.d (.int .i64 x9)), (.d (.int .i64 x10)), (.own 7)]), (.box (LS.encs sh_Heap x11)), (.box [(.own 8), (.d (.int .i64 x12)), (.d (.int .i64 x13)), (.d (.int .i64 x14)), (.own 9)]), (.row 1 x15.1 false true x15.2), (.row 3 x16.1 false true x16.2), (.row 1 x17.1 false true x17.2), (.row 3 x18.1 false true x18.2), (.row 1 x19.1 false true x19.2), (.row 3 x20.1 false true x20.2)])
noncomputable def laws_FnExactAlloc_j4 (x0 : Bool) (x1 : Int) (x2 : Int) (x3 : Bool) (x4 : Int) (x5 : Int) (x6 : Int) (x7 : Int) (x8 : Int) (x9 : Int) (x10 : T_Heap) (x11 : Sl) (x12 : Sl) (x13 : Sl) (x14 : Sl) : Res := (fun (p : Env × Mem) => evI cx 4 0 4 p.1 p.2) ([(10, (.ptr 0 0)), (8, (.d (.bool x0))), (7, (.d (.int .i64 x1))), (6, (.ptr 1 0)), (1, (.d (.int .i64 x2))), (2, (.ptr 2 0)), (80, (.d (.bool x3)))], [(.box [(.own 3), (.d (.int .i64 x4)), (.d (.int .i64 x5)), (.d (.int .i64 x6)), (.own 4)]), (.box [(.own 5), (.d (.int .i64 x7)), (.d (.int .i64 x8)), (.d (.int .i64 x9)), (.own 6)]), (.box (LS.encs sh_Heap x10)), (.row 1 x11.1 false true x11.2), (.row 3 x12.1 false true x12.2), (.row 1 x13.1 false true x13.2), (.row 3 x14.1 false true x14.2)])
noncomputable def laws_FnExactAlloc_j3 (x0 : Bool) (x1 : Int) (x2 : Int) (x3 : Int) (x4 : Int) (x5 : Int) (x6 : Int) (x7 : Int) (x8 : Int) (x9 : T_Heap) (x10 : Sl) (x11 : Sl) (x12 : Sl) (x13 : Sl) : Res := (fun (p : Env × Mem) => evI cx 4 0 3 p.1 p.2) ([(10, (.ptr 0 0)), (8, (.d (.bool x0))), (7, (.d (.int .i64 x1))), (6, (.ptr 1 0)), (1, (.d (.int .i64 x2))), (2, (.ptr 2 0))], [(.box [(.own 3), (.d (.int .i64 x3)), (.d (.int .i64 x4)), (.d (.int .i64 x5)), (.own 4)]), (.box [(.own 5), (.d (.int .i64 x6)), (.d (.int .i64 x7)), (.d (.int .i64 x8)), (.own 6)]), (.box (LS.encs sh_Heap x9)), (.row 1 x10.1 false true x10.2), (.row 3 x11.1 false true x11.2), (.row 1 x12.1 false true x12.2), (.row 3 x13.1 false true x13.2)])
noncomputable def laws_FnExactAlloc_j6 (x0 : Int) (x1 : Bool) (x2 : Int) (x3 : Int) (x4 : Int) (x5 : Sl) (x6 : Sl) : Res := (fun (p : Env × Mem) => evI cx 4 0 6 p.1 p.2) ([(14, (.d (.int .i64 x0))), (10, (.ptr 0 0)), (113, (.d (.bool x1)))], [(.box [(.own 1), (.d (.int .i64 x2)), (.d (.int .i64 x3)), (.d (.int .i64 x4)), (.own 2)]), (.row 1 x5.1 false true x5.2), (.row 3 x6.1 false true x6.2)])
noncomputable def laws_FnExactAlloc_j5 (x0 : Int) (x1 : Int) (x2 : Int) (x3 : Int) (x4 : Sl) (x5 : Sl) : Res := (fun (p : Env × Mem) => evI cx 4 0 5 p.1 p.2) ([(14, (.d (.int .i64 x0))), (10, (.ptr 0 0))], [(.box [(.own 1), (.d (.int .i64 x1)), (.d (.int .i64 x2)), (.d (.int .i64 x3)), (.own 2)]), (.row 1 x4.1 false true x4.2), (.row 3 x5.1 false true x5.2)])
theorem laws_FnExactAlloc_eq (x0 : T_Heap) (x1 : Int) : laws_FnExactAlloc x0 x1 =
  ocall (.m (.one (.int .i64))) [] (laws_szHeap x0 (1048576 : Int)) fun (r0 : Int) (m1 : Unit) =>
  oite (decide (r0 < (0 : Int)))
    (some ((.d (.bool true)), []))
    (ocall (.m (.agg [(.own 0), (.int .i64), (.int .i64), (.int .i64), (.own 1)])) [(.row 1 false true), (.row 3 false true)] (laws_toHeap x0) fun (r2 : (Unit × (Int × (Int × (Int × (Unit × Unit)))))) (m3 : (Sl × (Sl × Unit))) =>
    ocall (.tup [(.agg [(.own (0 + (List.length ((Ent.row 1 m3.1.1 false false m3.1.2) :: ((Ent.row 3 m3.2.1.1 false false m3.2.1.2) :: []))))), (.int .i64), (.int .i64), (.int .i64), (.own (1 + (List.length ((Ent.row 1 m3.1.1 false false m3.1.2) :: ((Ent.row 3 m3.2.1.1 false false m3.2.1.2) :: [])))))]), (.one (.int .i64)), (.one .bool)]) [(.row 1 false false), (.row 3 false false), (.row 1 false true), (.row 3 false true)] (spec_Alloc r2.2.1 r2.2.2.1 r2.2.2.2.1 x1 m3.1 m3.2.1) fun (r4 : ((Unit × (Int × (Int × (Int × (Unit × Unit))))) × (Int × (Bool × Unit)))) (m5 : (Sl × (Sl × (Sl × (Sl × Unit))))) =>
    ocall (.m (.agg [(.own 0), (.int .i64), (.int .i64), (.int .i64), (.own 1)])) [(.row 1 false true), (.row 3 false true)] (laws_toHeap x0) fun (r6 : (Unit × (Int × (Int × (Int × (Unit × Unit)))))) (m7 : (Sl × (Sl × Unit))) =>
    ocall (.tup [(.agg [(.own (0 + (List.length ((Ent.row 1 m7.1.1 false false m7.1.2) :: ((Ent.row 3 m7.2.1.1 false false m7.2.1.2) :: []))))), (.int .i64), (.int .i64), (.int .i64), (.own (1 + (List.length ((Ent.row 1 m7.1.1 false false m7.1.2) :: ((Ent.row 3 m7.2.1.1 false false m7.2.1.2) :: [])))))]), (.one (.int .i64)), (.one .bool)]) [(.row 1 false false), (.row 3 false false), (.row 1 false true), (.row 3 false true)] (impl_Alloc r6.2.1 r6.2.2.1 r6.2.2.2.1 x1 m7.1 m7.2.1) fun (r8 : ((Unit × (Int × (Int × (Int × (Unit × Unit))))) × (Int × (Bool × Unit)))) (m9 : (Sl × (Sl × (Sl × (Sl × Unit))))) =>
    ocall (.m (.one .bool)) [(.row 1 false false), (.row 3 false false), (.row 1 false false), (.row 3 false false)] (laws_eqHeap r8.1.2.1 r8.1.2.2.1 r8.1.2.2.2.1 r4.1.2.1 r4.1.2.2.1 r4.1.2.2.2.1 m9.2.2.1 m9.2.2.2.1 m5.2.2.1 m5.2.2.2.1) fun (r10 : Bool) (m11 : (Sl × (Sl × (Sl × (Sl × Unit))))) =>
    oite (!r10)
      (laws_FnExactAlloc_j2 r4.2.2.1 r4.2.1 x1 r8.2.2.1 r8.2.1 true r8.1.2.1 r8.1.2.2.1 r8.1.2.2.2.1 r4.1.2.1 r4.1.2.2.1 r4.1.2.2.2.1 x0 r6.2.1 r6.2.2.1 r6.2.2.2.1 m11.1 m11.2.1 m11.2.2.1 m11.2.2.2.1 m9.1 m9.2.1)
      (oite (!(r8.2.1 == r4.2.1))
        (laws_FnExactAlloc_j2 r4.2.2.1 r4.2.1 x1 r8.2.2.1 r8.2.1 true r8.1.2.1 r8.1.2.2.1 r8.1.2.2.2.1 r4.1.2.1 r4.1.2.2.1 r4.1.2.2.2.1 x0 r6.2.1 r6.2.2.1 r6.2.2.2.1 m11.1 m11.2.1 m11.2.2.1 m11.2.2.2.1 m9.1 m9.2.1)
        (laws_FnExactAlloc_j2 r4.2.2.1 r4.2.1 x1 r8.2.2.1 r8.2.1 (!(r8.2.2.1 == r4.2.2.1)) r8.1.2.1 r8.1.2.2.1 r8.1.2.2.2.1 r4.1.2.1 r4.1.2.2.1 r4.1.2.2.2.1 x0 r6.2.1 r6.2.2.1 r6.2.2.2.1 m11.1 m11.2.1 m11.2.2.1 m11.2.2.2.1 m9.1 m9.2.1))) := (evF_eq ..).trans (by kernel_rfl)
theorem laws_FnExactAlloc_j2_eq (x0 : Bool) (x1 : Int) (x2 : Int) (x3 : Bool) (x4 : Int) (x5 : Bool) (x6 : Int) (x7 : Int) (x8 : Int) (x9 : Int) (x10 : Int) (x11 : Int) (x12 : T_Heap) (x13 : Int) (x14 : Int) (x15 : Int) (x16 : Sl) (x17 : Sl) (x18 : Sl) (x19 : Sl) (x20 : Sl) (x21 : Sl) : laws_FnExactAlloc_j2 x0 x1 x2 x3 x4 x5 x6 x7 x8 x9 x10 x11 x12 x13 x14 x15 x16 x17 x18 x19 x20 x21 =
  oite x5
    (some ((.d (.bool false)), []))
    (laws_FnExactAlloc_j1 x0 x1 x2 x3 x4 x6 x7 x8 x9 x10 x11 x12 x13 x14 x15 x16 x17 x18 x19 x20 x21) := (evI_eq ..).trans (by kernel_rfl)
theorem laws_FnExactAlloc_j1_eq (x0 : Bool) (x1 : Int) (x2 : Int) (x3 : Bool) (x4 : Int) (x5 : Int) (x6 : Int) (x7 : Int) (x8 : Int) (x9 : Int) (x10 : Int) (x11 : T_Heap) (x12 : Int) (x13 : Int) (x14 : Int) (x15 : Sl) (x16 : Sl) (x17 : Sl) (x18 : Sl) (x19 : Sl) (x20 : Sl) : laws_FnExactAlloc_j1 x0 x1 x2 x3 x4 x5 x6 x7 x8 x9 x10 x11 x12 x13 x14 x15 x16 x17 x18 x19 x20 =
  ocall (.m (.agg [(.own 0), (.int .i64), (.int .i64), (.int .i64), (.own 1)])) [(.row 1 false true), (.row 3 false true)] (laws_toHeap x11) fun (r12 : (Unit × (Int × (Int × (Int × (Unit × Unit)))))) (m13 : (Sl × (Sl × Unit))) =>
  ocall (.m (.one .bool)) [(.row 1 false false), (.row 3 false false), (.row 1 false false), (.row 3 false false)] (laws_eqHeap x12 x13 x14 r12.2.1 r12.2.2.1 r12.2.2.2.1 x19 x20 m13.1 m13.2.1) fun (r14 : Bool) (m15 : (Sl × (Sl × (Sl × (Sl × Unit))))) =>
  oite (!r14)
    (some ((.d (.bool false)), []))
    (ocall (.m (.one (.int .i64))) [(.row 1 false false), (.row 3 false false)] (laws_markHeap x12 x13 x14 (1 : Int) m15.1 m15.2.1) fun (r16 : Int) (m17 : (Sl × (Sl × Unit))) =>
    oite (decide (r16 < (0 : Int)))
      (laws_FnExactAlloc_j4 x0 x1 x2 true x5 x6 x7 x8 x9 x10 x11 x15 x16 x17 x18)
      (ocall (.m (.one .bool)) [(.row 1 false false), (.row 3 false false), (.row 1 false false), (.row 3 false false)] (laws_eqHeap x5 x6 x7 x8 x9 x10 x15 x16 x17 x18) fun (r18 : Bool) (m19 : (Sl × (Sl × (Sl × (Sl × Unit))))) =>
      oite (!r18)
        (laws_FnExactAlloc_j4 x0 x1 x2 true x5 x6 x7 x8 x9 x10 x11 m19.1 m19.2.1 m19.2.2.1 m19.2.2.2.1)
        (oite (!(x4 == x1))
          (laws_FnExactAlloc_j4 x0 x1 x2 true x5 x6 x7 x8 x9 x10 x11 m19.1 m19.2.1 m19.2.2.1 m19.2.2.2.1)
          (laws_FnExactAlloc_j4 x0 x1 x2 (!(x3 == x0)) x5 x6 x7 x8 x9 x10 x11 m19.1 m19.2.1 m19.2.2.1 m19.2.2.2.1)))) := (evI_eq ..).trans (by kernel_rfl)
theorem laws_FnExactAlloc_j4_eq (x0 : Bool) (x1 : Int) (x2 : Int) (x3 : Bool) (x4 : Int) (x5 : Int) (x6 : Int) (x7 : Int) (x8 : Int) (x9 : Int) (x10 : T_Heap) (x11 : Sl) (x12 : Sl) (x13 : Sl) (x14 : Sl) : laws_FnExactAlloc_j4 x0 x1 x2 x3 x4 x5 x6 x7 x8 x9 x10 x11 x12 x13 x14 =
  oite x3
    (some ((.d (.bool false)), []))
    (laws_FnExactAlloc_j3 x0 x1 x2 x4 x5 x6 x7 x8 x9 x10 x11 x12 x13 x14) := (evI_eq ..).trans (by kernel_rfl)
theorem laws_FnExactAlloc_j3_eq (x0 : Bool) (x1 : Int) (x2 : Int) (x3 : Int) (x4 : Int) (x5 : Int) (x6 : Int) (x7 : Int) (x8 : Int) (x9 : T_Heap) (x10 : Sl) (x11 : Sl) (x12 : Sl) (x13 : Sl) : laws_FnExactAlloc_j3 x0 x1 x2 x3 x4 x5 x6 x7 x8 x9 x10 x11 x12 x13 =
  ocall (.m (.one (.int .i64))) [(.row 1 false false), (.row 3 false false)] (laws_markHeap x3 x4 x5 (1 : Int) x10 x11) fun (r20 : Int) (m21 : (Sl × (Sl × Unit))) =>
  ocall (.m (.one (.int .i64))) [(.row 1 false false), (.row 3 false false)] (laws_heldHeap x3 x4 x5 (1 : Int) m21.1 m21.2.1) fun (r22 : Int) (m23 : (Sl × (Sl × Unit))) =>
  oite (decide (r22 < (0 : Int)))
    (some ((.d (.bool false)), []))
    (oite (!(r22 == r20))
      (some ((.d (.bool false)), []))
      (ocall (.m (.agg [(.own 0), (.int .i64), (.int .i64), (.int .i64), (.own 1)])) [(.row 1 false true), (.row 3 false true)] (laws_toHeap x9) fun (r24 : (Unit × (Int × (Int × (Int × (Unit × Unit)))))) (m25 : (Sl × (Sl × Unit))) =>
      ocall (.tup [(.agg [(.own (0 + (List.length ((Ent.row 1 m25.1.1 false false m25.1.2) :: ((Ent.row 3 m25.2.1.1 false false m25.2.1.2) :: []))))), (.int .i64), (.int .i64), (.int .i64), (.own (1 + (List.length ((Ent.row 1 m25.1.1 false false m25.1.2) :: ((Ent.row 3 m25.2.1.1 false false m25.2.1.2) :: [])))))]), (.one (.int .i64)), (.one .bool)]) [(.row 1 false false), (.row 3 false false), (.row 1 false true), (.row 3 false true)] (impl_Alloc r24.2.1 r24.2.2.1 r24.2.2.2.1 x2 m25.1 m25.2.1) fun (r26 : ((Unit × (Int × (Int × (Int × (Unit × Unit))))) × (Int × (Bool × Unit)))) (m27 : (Sl × (Sl × (Sl × (Sl × Unit))))) =>
      ocall (.m (.one .bool)) [(.row 1 false false), (.row 3 false false), (.row 1 false false), (.row 3 false false)] (laws_eqHeap r26.1.2.1 r26.1.2.2.1 r26.1.2.2.2.1 x6 x7 x8 m27.2.2.1 m27.2.2.2.1 x12 x13) fun (r28 : Bool) (m29 : (Sl × (Sl × (Sl × (Sl × Unit))))) =>
      oite (!r28)
        (laws_FnExactAlloc_j6 r20 true x3 x4 x5 m23.1 m23.2.1)
        (oite (!(r26.2.1 == x1))
          (laws_FnExactAlloc_j6 r20 true x3 x4 x5 m23.1 m23.2.1)
          (laws_FnExactAlloc_j6 r20 (!(r26.2.2.1 == x0)) x3 x4 x5 m23.1 m23.2.1)))) := (evI_eq ..).trans (by kernel_rfl)
theorem laws_FnExactAlloc_j6_eq (x0 : Int) (x1 : Bool) (x2 : Int) (x3 : Int) (x4 : Int) (x5 : Sl) (x6 : Sl) : laws_FnExactAlloc_j6 x0 x1 x2 x3 x4 x5 x6 =
  oite x1
    (some ((.d (.bool false)), []))
    (laws_FnExactAlloc_j5 x0 x2 x3 x4 x5 x6) := (evI_eq ..).trans (by kernel_rfl)
theorem laws_FnExactAlloc_j5_eq (x0 : Int) (x1 : Int) (x2 : Int) (x3 : Int) (x4 : Sl) (x5 : Sl) : laws_FnExactAlloc_j5 x0 x1 x2 x3 x4 x5 =
  ocall (.m (.one (.int .i64))) [(.row 1 false false), (.row 3 false false)] (laws_heldHeap x1 x2 x3 (1 : Int) x4 x5) fun (r30 : Int) (m31 : (Sl × (Sl × Unit))) =>
  oite (decide (r30 < (0 : Int)))
    (some ((.d (.bool false)), []))
    (oite (!(r30 == x0))
      (some ((.d (.bool false)), []))
      (some ((.d (.bool true)), []))) := (evI_eq ..).trans (by kernel_rfl)
noncomputable def laws_FnExactLoad_j2 (x0 : Bool) (x1 : Int) (x2 : Int) (x3 : Int) (x4 : Bool) (x5 : Int) (x6 : Bool) (x7 : Int) (x8 : Int) (x9 : Int) (x10 : Int) (x11 : Int) (x12 : Int) (x13 : T_Heap) (x14 : Int) (x15 : Int) (x16 : Int) (x17 : Sl) (x18 : Sl) (x19 : Sl) (x20 : Sl) (x21 : Sl) (x22 : Sl) : Res := (fun (p : Env × Mem) => evI cx 5 0 2 p.1 p.2) ([(12, (.ptr 0 0)), (10, (.d (.bool x0))), (9, (.d (.int .i64 x1))), (8, (.ptr 1 0)), (2, (.d (.int .i64 x2))), (1, (.d (.int .i64 x3))), (3, (.ptr 2 0)), (14, (.d (.bool x4))), (13, (.d (.int .i64 x5))), (11, (.ptr 3 0)), (58, (.d (.bool x6)))], [(.box [(.own 4), (.d (.int .i64 x7)), (.d (.int .i64 x8)), (.d (.int .i64 x9)), (.own 5)]), (.box [(.own 6), (.d (.int .i64 x10)), (.d (.int .i64 x11)), (.d (.int .i64 x12)), (.own 7)]), (.box (LS.encs sh_Heap x13)), (.box [(.own 8), (.d (.int .i64 x14)), (.d (.int .i64 x15)), (.d (.int .i64 x16)), (.own 9)]), (.row 1 x17.1 false true x17.2), (.row 3 x18.1 false true x18.2), (.row 1 x19.1 false true x19.2), (.row 3 x20.1 false true x20.2), (.row 1 x21.1 false true x21.2), (.row 3 x22.1 false true x22.2)])
noncomputable def laws_FnExactLoad_j1 (x0 : Bool) (x1 : Int) (x2 : Int) (x3 : Int) (x4 : Bool) (x5 : Int) (x6 : Int) (x7 : Int) (x8 : Int) (x9 : Int) (x10 : Int) (x11 : Int) (x12 : T_Heap) (x13 : Int) (x14 : Int) (x15 : Int) (x16 : Sl) (x17 : Sl) (x18 : Sl) (x19 : Sl) (x20 : Sl) (x21 : Sl) : Res := (fun (p : Env × Mem) => evI cx 5 0 1 p.1 p.2) ([(12, (.ptr 0 0)), (10, (.d (.bool x0))), (9, (.d (.int .i64 x1))), (8, (.ptr 1 0)), (2, (.d (.int .i64 x2))), (1, (.d (.int .i64 x3))), (3, (.ptr 2 0)), (14, (.d (.bool x4))), (13, (.d (.int .i64 x5))), (11, (.ptr 3 0))], [(.box [(.own 4), (.d (.int .i64 x6)), (.d (.int .i64 x7)), (.d (.int .i64 x8)), (.own 5)]), (.box [(.own 6), (.d (.int .i64 x9)), (.d (.int .i64 x10)), (.d (.int .i64 x11)), (.own 7)]), (.box (LS.encs sh_Heap x12)), (.box [(.own 8), (.d (.int .i64 x13)), (.d (.int .i64 x14)), (.d (.int .i64 x15)), (.own 9)]), (.row 1 x16.1 false true x16.2), (.row 3 x17.1 false true x17.2), (.row 1 x18.1 false true x18.2), (.row 3 x19.1 false true x19.2), (.row 1 x20.1 false true x20.2), (.row 3 x21.1 false true x21.2)])
noncomputable def laws_FnExactLoad_j4 (x0 : Bool) (x1 : Int) (x2 : Int) (x3 : Int) (x4 : Bool) (x5 : Int) (x6 : Int) (x7 : Int) (x8 : Int) (x9 : Int) (x10 : Int) (x11 : T_Heap) (x12 : Sl) (x13 : Sl) (x14 : Sl) (x15 : Sl) : Res := (fun (p : Env × Mem) => evI cx 5 0 4 p.1 p.2) ([(12, (.ptr 0 0)), (10, (.d (.bool x0))), (9, (.d (.int .i64 x1))), (8, (.ptr 1 0)), (2, (.d (.int .i64 x2))), (1, (.d (.int .i64 x3))), (3, (.ptr 2 0)), (84, (.d (.bool x4)))], [(.box [(.own 3), (.d (.int .i64 x5)), (.d (.int .i64 x6)), (.d (.int .i64 x7)), (.own 4)]), (.box [(.own 5), (.d (.int .i64 x8)), (.d (.int .i64 x9)), (.d (.int .i64 x10)), (.own 6)]), (.box (LS.encs sh_Heap x11)), (.row 1 x12.1 false true x12.2), (.row 3 x13.1 false true x13.2), (.row 1 x14.1 false true x14.2), (.row 3 x15.1 false true x15.2)])
noncomputable def laws_FnExactLoad_j3 (x0 : Bool) (x1 : Int) (x2 : Int) (x3 : Int) (x4 : Int) (x5 : Int) (x6 : Int) (x7 : Int) (x8 : Int) (x9 : Int) (x10 : T_Heap) (x11 : Sl) (x12 : Sl) (x13 : Sl) (x14 : Sl) : Res := (fun (p : Env × Mem) => evI cx 5 0 3 p.1 p.2) ([(12, (.ptr 0 0)), (10, (.d (.bool x0))), (9, (.d (.int .i64 x1))), (8, (.ptr 1 0)), (2, (.d (.int .i64 x2))), (1, (.d (.int .i64 x3))), (3, (.ptr 2 0))], [(.box [(.own 3), (.d (.int .i64 x4)), (.d (.int .i64 x5)), (.d (.int .i64 x6)), (.own 4)]), (.box [(.own 5), (.d (.int .i64 x7)), (.d (.int .i64 x8)), (.d (.int .i64 x9)), (.own 6)]), (.box (LS.encs sh_Heap x10)), (.row 1 x11.1 false true x11.2), (.row 3 x12.1 false true x12.2), (.row 1 x13.1 false true x13.2), (.row 3 x14.1 false true x14.2)])
noncomputable def laws_FnExactLoad_j6 (x0 : Int) (x1 : Bool) (x2 : Int) (x3 : Int) (x4 : Int) (x5 : Sl) (x6 : Sl) : Res := (fun (p : Env × Mem) => evI cx 5 0 6 p.1 p.2) ([(16, (.d (.int .i64 x0))), (12, (.ptr 0 0)), (118, (.d (.bool x1)))], [(.box [(.own 1), (.d (.int .i64 x2)), (.d (.int .i64 x3)), (.d (.int .i64 x4)), (.own 2)]), (.row 1 x5.1 false true x5.2), (.row 3 x6.1 false true x6.2)])
noncomputable def laws_FnExactLoad_j5 (x0 : Int) (x1 : Int) (x2 : Int) (x3 : Int) (x4 : Sl) (x5 : Sl) : Res := (fun (p : Env × Mem) => evI cx 5 0 5 p.1 p.2) ([(16, (.d (.int .i64 x0))), (12, (.ptr 0 0))], [(.box [(.own 1), (.d (.int .i64 x1)), (.d (.int .i64 x2)), (.d (.int .i64 x3)), (.own 2)]), (.row 1 x4.1 false true x4.2), (.row 3 x5.1 false true x5.2)])
theorem laws_FnExactLoad_eq (x0 : T_Heap) (x1 : Int) (x2 : Int) : laws_FnExactLoad x0 x1 x2 =
  ocall (.m (.one (.int .i64))) [] (laws_szHeap x0 (1048576 : Int)) fun (r0 : Int) (m1 : Unit) =>
  oite (decide (r0 < (0 : Int)))
    (some ((.d (.bool true)), []))
    (ocall (.m (.agg [(.own 0), (.int .i64), (.int .i64), (.int .i64), (.own 1)])) [(.row 1 false true), (.row 3 false true)] (laws_toHeap x0) fun (r2 : (Unit × (Int × (Int × (Int × (Unit × Unit)))))) (m3 : (Sl × (Sl × Unit))) =>
    ocall (.tup [(.agg [(.own (0 + (List.length ((Ent.row 1 m3.1.1 false false m3.1.2) :: ((Ent.row 3 m3.2.1.1 false false m3.2.1.2) :: []))))), (.int .i64), (.int .i64), (.int .i64), (.own (1 + (List.length ((Ent.row 1 m3.1.1 false false m3.1.2) :: ((Ent.row 3 m3.2.1.1 false false m3.2.1.2) :: [])))))]), (.one (.int .i64)), (.one .bool)]) [(.row 1 false false), (.row 3 false false), (.row 1 false true), (.row 3 false true)] (spec_Load r2.2.1 r2.2.2.1 r2.2.2.2.1 x1 x2 m3.1 m3.2.1) fun (r4 : ((Unit × (Int × (Int × (Int × (Unit × Unit))))) × (Int × (Bool × Unit)))) (m5 : (Sl × (Sl × (Sl × (Sl × Unit))))) =>
    ocall (.m (.agg [(.own 0), (.int .i64), (.int .i64), (.int .i64), (.own 1)])) [(.row 1 false true), (.row 3 false true)] (laws_toHeap x0) fun (r6 : (Unit × (Int × (Int × (Int × (Unit × Unit)))))) (m7 : (Sl × (Sl × Unit))) =>
    ocall (.tup [(.agg [(.own (0 + (List.length ((Ent.row 1 m7.1.1 false false m7.1.2) :: ((Ent.row 3 m7.2.1.1 false false m7.2.1.2) :: []))))), (.int .i64), (.int .i64), (.int .i64), (.own (1 + (List.length ((Ent.row 1 m7.1.1 false false m7.1.2) :: ((Ent.row 3 m7.2.1.1 false false m7.2.1.2) :: [])))))]), (.one (.int .i64)), (.one .bool)]) [(.row 1 false false), (.row 3 false false), (.row 1 false true), (.row 3 false true)] (impl_Load r6.2.1 r6.2.2.1 r6.2.2.2.1 x1 x2 m7.1 m7.2.1) fun (r8 : ((Unit × (Int × (Int × (Int × (Unit × Unit))))) × (Int × (Bool × Unit)))) (m9 : (Sl × (Sl × (Sl × (Sl × Unit))))) =>
    ocall (.m (.one .bool)) [(.row 1 false false), (.row 3 false false), (.row 1 false false), (.row 3 false false)] (laws_eqHeap r8.1.2.1 r8.1.2.2.1 r8.1.2.2.2.1 r4.1.2.1 r4.1.2.2.1 r4.1.2.2.2.1 m9.2.2.1 m9.2.2.2.1 m5.2.2.1 m5.2.2.2.1) fun (r10 : Bool) (m11 : (Sl × (Sl × (Sl × (Sl × Unit))))) =>
    oite (!r10)
      (laws_FnExactLoad_j2 r4.2.2.1 r4.2.1 x2 x1 r8.2.2.1 r8.2.1 true r8.1.2.1 r8.1.2.2.1 r8.1.2.2.2.1 r4.1.2.1 r4.1.2.2.1 r4.1.2.2.2.1 x0 r6.2.1 r6.2.2.1 r6.2.2.2.1 m11.1 m11.2.1 m11.2.2.1 m11.2.2.2.1 m9.1 m9.2.1)
      (oite (!(r8.2.1 == r4.2.1))
        (laws_FnExactLoad_j2 r4.2.2.1 r4.2.1 x2 x1 r8.2.2.1 r8.2.1 true r8.1.2.1 r8.1.2.2.1 r8.1.2.2.2.1 r4.1.2.1 r4.1.2.2.1 r4.1.2.2.2.1 x0 r6.2.1 r6.2.2.1 r6.2.2.2.1 m11.1 m11.2.1 m11.2.2.1 m11.2.2.2.1 m9.1 m9.2.1)
        (laws_FnExactLoad_j2 r4.2.2.1 r4.2.1 x2 x1 r8.2.2.1 r8.2.1 (!(r8.2.2.1 == r4.2.2.1)) r8.1.2.1 r8.1.2.2.1 r8.1.2.2.2.1 r4.1.2.1 r4.1.2.2.1 r4.1.2.2.2.1 x0 r6.2.1 r6.2.2.1 r6.2.2.2.1 m11.1 m11.2.1 m11.2.2.1 m11.2.2.2.1 m9.1 m9.2.1))) := (evF_eq ..).trans (by kernel_rfl)
theorem laws_FnExactLoad_j2_eq (x0 : Bool) (x1 : Int) (x2 : Int) (x3 : Int) (x4 : Bool) (x5 : Int) (x6 : Bool) (x7 : Int) (x8 : Int) (x9 : Int) (x10 : Int) (x11 : Int) (x12 : Int) (x13 : T_Heap) (x14 : Int) (x15 : Int) (x16 : Int) (x17 : Sl) (x18 : Sl) (x19 : Sl) (x20 : Sl) (x21 : Sl) (x22 : Sl) : laws_FnExactLoad_j2 x0 x1 x2 x3 x4 x5 x6 x7 x8 x9 x10 x11 x12 x13 x14 x15 x16 x17 x18 x19 x20 x21 x22 =
  oite x6
    (some ((.d (.bool false)), []))
    (laws_FnExactLoad_j1 x0 x1 x2 x3 x4 x5 x7 x8 x9 x10 x11 x12 x13 x14 x15 x16 x17 x18 x19 x20 x21 x22) := (evI_eq ..).trans (by kernel_rfl)
theorem laws_FnExactLoad_j1_eq (x0 : Bool) (x1 : Int) (x2 : Int) (x3 : Int) (x4 : Bool) (x5 : Int) (x6 : Int) (x7 : Int) (x8 : Int) (x9 : Int) (x10 : Int) (x11 : Int) (x12 : T_Heap) (x13 : Int) (x14 : Int) (x15 : Int) (x16 : Sl) (x17 : Sl) (x18 : Sl) (x19 : Sl) (x20 : Sl) (x21 : Sl) : laws_FnExactLoad_j1 x0 x1 x2 x3 x4 x5 x6 x7 x8 x9 x10 x11 x12 x13 x14 x15 x16 x17 x18 x19 x20 x21 =
  ocall (.m (.agg [(.own 0), (.int .i64), (.int .i64), (.int .i64), (.own 1)])) [(.row 1 false true), (.row 3 false true)] (laws_toHeap x12) fun (r12 : (Unit × (Int × (Int × (Int × (Unit × Unit)))))) (m13 : (Sl × (Sl × Unit))) =>
  ocall (.m (.one .bool)) [(.row 1 false false), (.row 3 false false), (.row 1 false false), (.row 3 false false)] (laws_eqHeap x13 x14 x15 r12.2.1 r12.2.2.1 r12.2.2.2.1 x20 x21 m13.1 m13.2.1) fun (r14 : Bool) (m15 : (Sl × (Sl × (Sl × (Sl × Unit))))) =>
  oite (!r14)
    (some ((.d (.bool false)), []))
    (ocall (.m (.one (.int .i64))) [(.row 1 false false), (.row 3 false false)] (laws_markHeap x13 x14 x15 (1 : Int) m15.1 m15.2.1) fun (r16 : Int) (m17 : (Sl × (Sl × Unit))) =>
    oite (decide (r16 < (0 : Int)))
      (laws_FnExactLoad_j4 x0 x1 x2 x3 true x6 x7 x8 x9 x10 x11 x12 x16 x17 x18 x19)
      (ocall (.m (.one .bool)) [(.row 1 false false), (.row 3 false false), (.row 1 false false), (.row 3 false false)] (laws_eqHeap x6 x7 x8 x9 x10 x11 x16 x17 x18 x19) fun (r18 : Bool) (m19 : (Sl × (Sl × (Sl × (Sl × Unit))))) =>
      oite (!r18)
        (laws_FnExactLoad_j4 x0 x1 x2 x3 true x6 x7 x8 x9 x10 x11 x12 m19.1 m19.2.1 m19.2.2.1 m19.2.2.2.1)
        (oite (!(x5 == x1))
          (laws_FnExactLoad_j4 x0 x1 x2 x3 true x6 x7 x8 x9 x10 x11 x12 m19.1 m19.2.1 m19.2.2.1 m19.2.2.2.1)
          (laws_FnExactLoad_j4 x0 x1 x2 x3 (!(x4 == x0)) x6 x7 x8 x9 x10 x11 x12 m19.1 m19.2.1 m19.2.2.1 m19.2.2.2.1)))) := (evI_eq ..).trans (by kernel_rfl)
theorem laws_FnExactLoad_j4_eq (x0 : Bool) (x1 : Int) (x2 : Int) (x3 : Int) (x4 : Bool) (x5 : Int) (x6 : Int) (x7 : Int) (x8 : Int) (x9 : Int) (x10 : Int) (x11 : T_Heap) (x12 : Sl) (x13 : Sl) (x14 : Sl) (x15 : Sl) : laws_FnExactLoad_j4 x0 x1 x2 x3 x4 x5 x6 x7 x8 x9 x10 x11 x12 x13 x14 x15 =
  oite x4
    (some ((.d (.bool false)), []))
    (laws_FnExactLoad_j3 x0 x1 x2 x3 x5 x6 x7 x8 x9 x10 x11 x12 x13 x14 x15) := (evI_eq ..).trans (by kernel_rfl)
theorem laws_FnExactLoad_j3_eq (x0 : Bool) (x1 : Int) (x2 : Int) (x3 : Int) (x4 : Int) (x5 : Int) (x6 : Int) (x7 : Int) (x8 : Int) (x9 : Int) (x10 : T_Heap) (x11 : Sl) (x12 : Sl) (x13 : Sl) (x14 : Sl) : laws_FnExactLoad_j3 x0 x1 x2 x3 x4 x5 x6 x7 x8 x9 x10 x11 x12 x13 x14 =
  ocall (.m (.one (.int .i64))) [(.row 1 false false), (.row 3 false false)] (laws_markHeap x4 x5 x6 (1 : Int) x11 x12) fun (r20 : Int) (m21 : (Sl × (Sl × Unit))) =>
  ocall (.m (.one (.int .i64))) [(.row 1 false false), (.row 3 false false)] (laws_heldHeap x4 x5 x6 (1 : Int) m21.1 m21.2.1) fun (r22 : Int) (m23 : (Sl × (Sl × Unit))) =>
  oite (decide (r22 < (0 : Int)))
    (some ((.d (.bool false)), []))
    (oite (!(r22 == r20))
      (some ((.d (.bool false)), []))
      (ocall (.m (.agg [(.own 0), (.int .i64), (.int .i64), (.int .i64), (.own 1)])) [(.row 1 false true), (.row 3 false true)] (laws_toHeap x10) fun (r24 : (Unit × (Int × (Int × (Int × (Unit × Unit)))))) (m25 : (Sl × (Sl × Unit))) =>
      ocall (.tup [(.agg [(.own (0 + (List.length ((Ent.row 1 m25.1.1 false false m25.1.2) :: ((Ent.row 3 m25.2.1.1 false false m25.2.1.2) :: []))))), (.int .i64), (.int .i64), (.int .i64), (.own (1 + (List.length ((Ent.row 1 m25.1.1 false false m25.1.2) :: ((Ent.row 3 m25.2.1.1 false false m25.2.1.2) :: [])))))]), (.one (.int .i64)), (.one .bool)]) [(.row 1 false false), (.row 3 false false), (.row 1 false true), (.row 3 false true)] (impl_Load r24.2.1 r24.2.2.1 r24.2.2.2.1 x3 x2 m25.1 m25.2.1) fun (r26 : ((Unit × (Int × (Int × (Int × (Unit × Unit))))) × (Int × (Bool × Unit)))) (m27 : (Sl × (Sl × (Sl × (Sl × Unit))))) =>
      ocall (.m (.one .bool)) [(.row 1 false false), (.row 3 false false), (.row 1 false false), (.row 3 false false)] (laws_eqHeap r26.1.2.1 r26.1.2.2.1 r26.1.2.2.2.1 x7 x8 x9 m27.2.2.1 m27.2.2.2.1 x13 x14) fun (r28 : Bool) (m29 : (Sl × (Sl × (Sl × (Sl × Unit))))) =>
      oite (!r28)
        (laws_FnExactLoad_j6 r20 true x4 x5 x6 m23.1 m23.2.1)
        (oite (!(r26.2.1 == x1))
          (laws_FnExactLoad_j6 r20 true x4 x5 x6 m23.1 m23.2.1)
          (laws_FnExactLoad_j6 r20 (!(r26.2.2.1 == x0)) x4 x5 x6 m23.1 m23.2.1)))) := (evI_eq ..).trans (by kernel_rfl)
theorem laws_FnExactLoad_j6_eq (x0 : Int) (x1 : Bool) (x2 : Int) (x3 : Int) (x4 : Int) (x5 : Sl) (x6 : Sl) : laws_FnExactLoad_j6 x0 x1 x2 x3 x4 x5 x6 =
  oite x1
    (some ((.d (.bool false)), []))
    (laws_FnExactLoad_j5 x0 x2 x3 x4 x5 x6) := (evI_eq ..).trans (by kernel_rfl)
theorem laws_FnExactLoad_j5_eq (x0 : Int) (x1 : Int) (x2 : Int) (x3 : Int) (x4 : Sl) (x5 : Sl) : laws_FnExactLoad_j5 x0 x1 x2 x3 x4 x5 =
  ocall (.m (.one (.int .i64))) [(.row 1 false false), (.row 3 false false)] (laws_heldHeap x1 x2 x3 (1 : Int) x4 x5) fun (r30 : Int) (m31 : (Sl × (Sl × Unit))) =>
  oite (decide (r30 < (0 : Int)))
    (some ((.d (.bool false)), []))
    (oite (!(r30 == x0))
      (some ((.d (.bool false)), []))
      (some ((.d (.bool true)), []))) := (evI_eq ..).trans (by kernel_rfl)
noncomputable def laws_FnExactStore_j2 (x0 : Bool) (x1 : Int) (x2 : Int) (x3 : Int) (x4 : Bool) (x5 : Bool) (x6 : Int) (x7 : Int) (x8 : Int) (x9 : Int) (x10 : Int) (x11 : Int) (x12 : T_Heap) (x13 : Int) (x14 : Int) (x15 : Int) (x16 : Sl) (x17 : Sl) (x18 : Sl) (x19 : Sl) (x20 : Sl) (x21 : Sl) : Res := (fun (p : Env × Mem) => evI cx 6 0 2 p.1 p.2) ([(13, (.ptr 0 0)), (11, (.d (.bool x0))), (10, (.ptr 1 0)), (3, (.d (.int .i64 x1))), (2, (.d (.int .i64 x2))), (1, (.d (.int .i64 x3))), (4, (.ptr 2 0)), (14, (.d (.bool x4))), (12, (.ptr 3 0)), (52, (.d (.bool x5)))], [(.box [(.own 4), (.d (.int .i64 x6)), (.d (.int .i64 x7)), (.d (.int .i64 x8)), (.own 5)]), (.box [(.own 6), (.d (.int .i64 x9)), (.d (.int .i64 x10)), (.d (.int .i64 x11)), (.own 7)]), (.box (LS.encs sh_Heap x12)), (.box [(.own 8), (.d (.int .i64 x13)), (.d (.int .i64 x14)), (.d (.int .i64 x15)), (.own 9)]), (.row 1 x16.1 false true x16.2), (.row 3 x17.1 false true x17.2), (.row 1 x18.1 false true x18.2), (.row 3 x19.1 false true x19.2), (.row 1 x20.1 false true x20.2), (.row 3 x21.1 false true x21.2)])
noncomputable def laws_FnExactStore_j1 (x0 : Bool) (x1 : Int) (x2 : Int) (x3 : Int) (x4 : Bool) (x5 : Int) (x6 : Int) (x7 : Int) (x8 : Int) (x9 : Int) (x10 : Int) (x11 : T_Heap) (x12 : Int) (x13 : Int) (x14 : Int) (x15 : Sl) (x16 : Sl) (x17 : Sl) (x18 : Sl) (x19 : Sl) (x20 : Sl) : Res := (fun (p : Env × Mem) => evI cx 6 0 1 p.1 p.2) ([(13, (.ptr 0 0)), (11, (.d (.bool x0))), (10, (.ptr 1 0)), (3, (.d (.int .i64 x1))), (2, (.d (.int .i64 x2))), (1, (.d (.int .i64 x3))), (4, (.ptr 2 0)), (14, (.d (.bool x4))), (12, (.ptr 3 0))], [(.box [(.own 4), (.d (.int .i64 x5)), (.d (.int .i64 x6)), (.d (.int .i64 x7)), (.own 5)]), (.box [(.own 6), (.d (.int .i64 x8)), (.d (.int .i64 x9)), (.d (.int .i64 x10)), (.own 7)]), (.box (LS.encs sh_Heap x11)), (.box [(.own 8), (.d (.int .i64 x12)), (.d (.int .i64 x13)), (.d (.int .i64 x14)), (.own 9)]), (.row 1 x15.1 false true x15.2), (.row 3 x16.1 false true x16.2), (.row 1 x17.1 false true x17.2), (.row 3 x18.1 false true x18.2), (.row 1 x19.1 false true x19.2), (.row 3 x20.1 false true x20.2)])
noncomputable def laws_FnExactStore_j4 (x0 : Bool) (x1 : Int) (x2 : Int) (x3 : Int) (x4 : Bool) (x5 : Int) (x6 : Int) (x7 : Int) (x8 : Int) (x9 : Int) (x10 : Int) (x11 : T_Heap) (x12 : Sl) (x13 : Sl) (x14 : Sl) (x15 : Sl) : Res := (fun (p : Env × Mem) => evI cx 6 0 4 p.1 p.2) ([(13, (.ptr 0 0)), (11, (.d (.bool x0))), (10, (.ptr 1 0)), (3, (.d (.int .i64 x1))), (2, (.d (.int .i64 x2))), (1, (.d (.int .i64 x3))), (4, (.ptr 2 0)), (73, (.d (.bool x4)))], [(.box [(.own 3), (.d (.int .i64 x5)), (.d (.int .i64 x6)), (.d (.int .i64 x7)), (.own 4)]), (.box [(.own 5), (.d (.int .i64 x8)), (.d (.int .i64 x9)), (.d (.int .i64 x10)), (.own 6)]), (.box (LS.encs sh_Heap x11)), (.row 1 x12.1 false true x12.2), (.row 3 x13.1 false true x13.2), (.row 1 x14.1 false true x14.2), (.row 3 x15.1 false true x15.2)])
noncomputable def laws_FnExactStore_j3 (x0 : Bool) (x1 : Int) (x2 : Int) (x3 : Int) (x4 : Int) (x5 : Int) (x6 : Int) (x7 : Int) (x8 : Int) (x9 : Int) (x10 : T_Heap) (x11 : Sl) (x12 : Sl) (x13 : Sl) (x14 : Sl) : Res := (fun (p : Env × Mem) => evI cx 6 0 3 p.1 p.2) ([(13, (.ptr 0 0)), (11, (.d (.bool x0))), (10, (.ptr 1 0)), (3, (.d (.int .i64 x1))), (2, (.d (.int .i64 x2))), (1, (.d (.int .i64 x3))), (4, (.ptr 2 0))], [(.box [(.own 3), (.d (.int .i64 x4)), (.d (.int .i64 x5)), (.d (.int .i64 x6)), (.own 4)]), (.box [(.own 5), (.d (.int .i64 x7)), (.d (.int .i64 x8)), (.d (.int .i64 x9)), (.own 6)]), (.box (LS.encs sh_Heap x10)), (.row 1 x11.1 false true x11.2), (.row 3 x12.1 false true x12.2), (.row 1 x13.1 false true x13.2), (.row 3 x14.1 false true x14.2)])
noncomputable def laws_FnExactStore_j6 (x0 : Int) (x1 : Bool) (x2 : Int) (x3 : Int) (x4 : Int) (x5 : Sl) (x6 : Sl) : Res := (fun (p : Env × Mem) => evI cx 6 0 6 p.1 p.2) ([(16, (.d (.int .i64 x0))), (13, (.ptr 0 0)), (102, (.d (.bool x1)))], [(.box [(.own 1), (.d (.int .i64 x2)), (.d (.int .i64 x3)), (.d (.int .i64 x4)), (.own 2)]), (.row 1 x5.1 false true x5.2), (.row 3 x6.1 false true x6.2)])
noncomputable def laws_FnExactStore_j5 (x0 : Int) (x1 : Int) (x2 : Int) (x3 : Int) (x4 : Sl) (x5 : Sl) : Res := (fun (p : Env × Mem) => evI cx 6 0 5 p.1 p.2) ([(16, (.d (.int .i64 x0))), (13, (.ptr 0 0))], [(.box [(.own 1), (.d (.int .i64 x1)), (.d (.int .i64 x2)), (.d (.int .i64 x3)), (.own 2)]), (.row 1 x4.1 false true x4.2), (.row 3 x5.1 false true x5.2)])
theorem laws_FnExactStore_eq (x0 : T_Heap) (x1 : Int) (x2 : Int) (x3 : Int) : laws_FnExactStore x0 x1 x2 x3 =
  ocall (.m (.one (.int .i64))) [] (laws_szHeap x0 (1048576 : Int)) fun (r0 : Int) (m1 : Unit) =>
  oite (decide (r0 < (0 : Int)))
    (some ((.d (.bool true)), []))
    (ocall (.m (.agg [(.own 0), (.int .i64), (.int .i64), (.int .i64), (.own 1)])) [(.row 1 false true), (.row 3 false true)] (laws_toHeap x0) fun (r2 : (Unit × (Int × (Int × (Int × (Unit × Unit)))))) (m3 : (Sl × (Sl × Unit))) =>
    ocall (.tup [(.agg [(.own (0 + (List.length ((Ent.row 1 m3.1.1 false false m3.1.2) :: ((Ent.row 3 m3.2.1.1 false false m3.2.1.2) :: []))))), (.int .i64), (.int .i64), (.int .i64), (.own (1 + (List.length ((Ent.row 1 m3.1.1 false false m3.1.2) :: ((Ent.row 3 m3.2.1.1 false false m3.2.1.2) :: [])))))]), (.one .bool)]) [(.row 1 false false), (.row 3 false false), (.row 1 false true), (.row 3 false true)] (spec_Store r2.2.1 r2.2.2.1 r2.2.2.2.1 x1 x2 x3 m3.1 m3.2.1) fun (r4 : ((Unit × (Int × (Int × (Int × (Unit × Unit))))) × (Bool × Unit))) (m5 : (Sl × (Sl × (Sl × (Sl × Unit))))) =>
    ocall (.m (.agg [(.own 0), (.int .i64), (.int .i64), (.int .i64), (.own 1)])) [(.row 1 false true), (.row 3 false true)] (laws_toHeap x0) fun (r6 : (Unit × (Int × (Int × (Int × (Unit × Unit)))))) (m7 : (Sl × (Sl × Unit))) =>
    ocall (.tup [(.agg [(.own (0 + (List.length ((Ent.row 1 m7.1.1 false false m7.1.2) :: ((Ent.row 3 m7.2.1.1 false false m7.2.1.2) :: []))))), (.int .i64), (.int .i64), (.int .i64), (.own (1 + (List.length ((Ent.row 1 m7.1.1 false false m7.1.2) :: ((Ent.row 3 m7.2.1.1 false false m7.2.1.2) :: [])))))]), (.one .bool)]) [(.row 1 false false), (.row 3 false false), (.row 1 false true), (.row 3 false true)] (impl_Store r6.2.1 r6.2.2.1 r6.2.2.2.1 x1 x2 x3 m7.1 m7.2.1) fun (r8 : ((Unit × (Int × (Int × (Int × (Unit × Unit))))) × (Bool × Unit))) (m9 : (Sl × (Sl × (Sl × (Sl × Unit))))) =>
    ocall (.m (.one .bool)) [(.row 1 false false), (.row 3 false false), (.row 1 false false), (.row 3 false false)] (laws_eqHeap r8.1.2.1 r8.1.2.2.1 r8.1.2.2.2.1 r4.1.2.1 r4.1.2.2.1 r4.1.2.2.2.1 m9.2.2.1 m9.2.2.2.1 m5.2.2.1 m5.2.2.2.1) fun (r10 : Bool) (m11 : (Sl × (Sl × (Sl × (Sl × Unit))))) =>
    oite (!r10)
      (laws_FnExactStore_j2 r4.2.1 x3 x2 x1 r8.2.1 true r8.1.2.1 r8.1.2.2.1 r8.1.2.2.2.1 r4.1.2.1 r4.1.2.2.1 r4.1.2.2.2.1 x0 r6.2.1 r6.2.2.1 r6.2.2.2.1 m11.1 m11.2.1 m11.2.2.1 m11.2.2.2.1 m9.1 m9.2.1)
      (laws_FnExactStore_j2 r4.2.1 x3 x2 x1 r8.2.1 (!(r8.2.1 == r4.2.1)) r8.1.2.1 r8.1.2.2.1 r8.1.2.2.2.1 r4.1.2.1 r4.1.2.2.1 r4.1.2.2.2.1 x0 r6.2.1 r6.2.2.1 r6.2.2.2.1 m11.1 m11.2.1 m11.2.2.1 m11.2.2.2.1 m9.1 m9.2.1)) := (evF_eq ..).trans (by kernel_rfl)
theorem laws_FnExactStore_j2_eq (x0 : Bool) (x1 : Int) (x2 : Int) (x3 : Int) (x4 : Bool) (x5 : Bool) (x6 : Int) (x7 : Int) (x8 : Int) (x9 : Int) (x10 : Int) (x11 : Int) (x12 : T_Heap) (x13 : Int) (x14 : Int) (x15 : Int) (x16 : Sl) (x17 : Sl) (x18 : Sl) (x19 : Sl) (x20 : Sl) (x21 : Sl) : laws_FnExactStore_j2 x0 x1 x2 x3 x4 x5 x6 x7 x8 x9 x10 x11 x12 x13 x14 x15 x16 x17 x18 x19 x20 x21 =
  oite x5
    (some ((.d (.bool false)), []))
    (laws_FnExactStore_j1 x0 x1 x2 x3 x4 x6 x7 x8 x9 x10 x11 x12 x13 x14 x15 x16 x17 x18 x19 x20 x21) := (evI_eq ..).trans (by kernel_rfl)
theorem laws_FnExactStore_j1_eq (x0 : Bool) (x1 : Int) (x2 : Int) (x3 : Int) (x4 : Bool) (x5 : Int) (x6 : Int) (x7 : Int) (x8 : Int) (x9 : Int) (x10 : Int) (x11 : T_Heap) (x12 : Int) (x13 : Int) (x14 : Int) (x15 : Sl) (x16 : Sl) (x17 : Sl) (x18 : Sl) (x19 : Sl) (x20 : Sl) : laws_FnExactStore_j1 x0 x1 x2 x3 x4 x5 x6 x7 x8 x9 x10 x11 x12 x13 x14 x15 x16 x17 x18 x19 x20 =
  ocall (.m (.agg [(.own 0), (.int .i64), (.int .i64), (.int .i64), (.own 1)])) [(.row 1 false true), (.row 3 false true)] (laws_toHeap x11) fun (r12 : (Unit × (Int × (Int × (Int × (Unit × Unit)))))) (m13 : (Sl × (Sl × Unit))) =>
  ocall (.m (.one .bool)) [(.row 1 false false), (.row 3 false false), (.row 1 false false), (.row 3 false false)] (laws_eqHeap x12 x13 x14 r12.2.1 r12.2.2.1 r12.2.2.2.1 x19 x20 m13.1 m13.2.1) fun (r14 : Bool) (m15 : (Sl × (Sl × (Sl × (Sl × Unit))))) =>
  oite (!r14)
    (some ((.d (.bool false)), []))
    (ocall (.m (.one (.int .i64))) [(.row 1 false false), (.row 3 false false)] (laws_markHeap x12 x13 x14 (1 : Int) m15.1 m15.2.1) fun (r16 : Int) (m17 : (Sl × (Sl × Unit))) =>
    oite (decide (r16 < (0 : Int)))
      (laws_FnExactStore_j4 x0 x1 x2 x3 true x5 x6 x7 x8 x9 x10 x11 x15 x16 x17 x18)
      (ocall (.m (.one .bool)) [(.row 1 false false), (.row 3 false false), (.row 1 false false), (.row 3 false false)] (laws_eqHeap x5 x6 x7 x8 x9 x10 x15 x16 x17 x18) fun (r18 : Bool) (m19 : (Sl × (Sl × (Sl × (Sl × Unit))))) =>
      oite (!r18)
        (laws_FnExactStore_j4 x0 x1 x2 x3 true x5 x6 x7 x8 x9 x10 x11 m19.1 m19.2.1 m19.2.2.1 m19.2.2.2.1)
        (laws_FnExactStore_j4 x0 x1 x2 x3 (!(x4 == x0)) x5 x6 x7 x8 x9 x10 x11 m19.1 m19.2.1 m19.2.2.1 m19.2.2.2.1))) := (evI_eq ..).trans (by kernel_rfl)
theorem laws_FnExactStore_j4_eq (x0 : Bool) (x1 : Int) (x2 : Int) (x3 : Int) (x4 : Bool) (x5 : Int) (x6 : Int) (x7 : Int) (x8 : Int) (x9 : Int) (x10 : Int) (x11 : T_Heap) (x12 : Sl) (x13 : Sl) (x14 : Sl) (x15 : Sl) : laws_FnExactStore_j4 x0 x1 x2 x3 x4 x5 x6 x7 x8 x9 x10 x11 x12 x13 x14 x15 =
  oite x4
    (some ((.d (.bool false)), []))
    (laws_FnExactStore_j3 x0 x1 x2 x3 x5 x6 x7 x8 x9 x10 x11 x12 x13 x14 x15) := (evI_eq ..).trans (by kernel_rfl)
theorem laws_FnExactStore_j3_eq (x0 : Bool) (x1 : Int) (x2 : Int) (x3 : Int) (x4 : Int) (x5 : Int) (x6 : Int) (x7 : Int) (x8 : Int) (x9 : Int) (x10 : T_Heap) (x11 : Sl) (x12 : Sl) (x13 : Sl) (x14 : Sl) : laws_FnExactStore_j3 x0 x1 x2 x3 x4 x5 x6 x7 x8 x9 x10 x11 x12 x13 x14 =
  ocall (.m (.one (.int .i64))) [(.row 1 false false), (.row 3 false false)] (laws_markHeap x4 x5 x6 (1 : Int) x11 x12) fun (r20 : Int) (m21 : (Sl × (Sl × Unit))) =>
  ocall (.m (.one (.int .i64))) [(.row 1 false false), (.row 3 false false)] (laws_heldHeap x4 x5 x6 (1 : Int) m21.1 m21.2.1) fun (r22 : Int) (m23 : (Sl × (Sl × Unit))) =>
  oite (decide (r22 < (0 : Int)))
    (some ((.d (.bool false)), []))
    (oite (!(r22 == r20))
      (some ((.d (.bool false)), []))
      (ocall (.m (.agg [(.own 0), (.int .i64), (.int .i64), (.int .i64), (.own 1)])) [(.row 1 false true), (.row 3 false true)] (laws_toHeap x10) fun (r24 : (Unit × (Int × (Int × (Int × (Unit × Unit)))))) (m25 : (Sl × (Sl × Unit))) =>
      ocall (.tup [(.agg [(.own (0 + (List.length ((Ent.row 1 m25.1.1 false false m25.1.2) :: ((Ent.row 3 m25.2.1.1 false false m25.2.1.2) :: []))))), (.int .i64), (.int .i64), (.int .i64), (.own (1 + (List.length ((Ent.row 1 m25.1.1 false false m25.1.2) :: ((Ent.row 3 m25.2.1.1 false false m25.2.1.2) :: [])))))]), (.one .bool)]) [(.row 1 false false), (.row 3 false false), (.row 1 false true), (.row 3 false true)] (impl_Store r24.2.1 r24.2.2.1 r24.2.2.2.1 x3 x2 x1 m25.1 m25.2.1) fun (r26 : ((Unit × (Int × (Int × (Int × (Unit × Unit))))) × (Bool × Unit))) (m27 : (Sl × (Sl × (Sl × (Sl × Unit))))) =>
      ocall (.m (.one .bool)) [(.row 1 false false), (.row 3 false false), (.row 1 false false), (.row 3 false false)] (laws_eqHeap r26.1.2.1 r26.1.2.2.1 r26.1.2.2.2.1 x7 x8 x9 m27.2.2.1 m27.2.2.2.1 x13 x14) fun (r28 : Bool) (m29 : (Sl × (Sl × (Sl × (Sl × Unit))))) =>
      oite (!r28)
        (laws_FnExactStore_j6 r20 true x4 x5 x6 m23.1 m23.2.1)
        (laws_FnExactStore_j6 r20 (!(r26.2.1 == x0)) x4 x5 x6 m23.1 m23.2.1))) := (evI_eq ..).trans (by kernel_rfl)
theorem laws_FnExactStore_j6_eq (x0 : Int) (x1 : Bool) (x2 : Int) (x3 : Int) (x4 : Int) (x5 : Sl) (x6 : Sl) : laws_FnExactStore_j6 x0 x1 x2 x3 x4 x5 x6 =
  oite x1
    (some ((.d (.bool false)), []))
    (laws_FnExactStore_j5 x0 x2 x3 x4 x5 x6) := (evI_eq ..).trans (by kernel_rfl)
theorem laws_FnExactStore_j5_eq (x0 : Int) (x1 : Int) (x2 : Int) (x3 : Int) (x4 : Sl) (x5 : Sl) : laws_FnExactStore_j5 x0 x1 x2 x3 x4 x5 =
  ocall (.m (.one (.int .i64))) [(.row 1 false false), (.row 3 false false)] (laws_heldHeap x1 x2 x3 (1 : Int) x4 x5) fun (r30 : Int) (m31 : (Sl × (Sl × Unit))) =>
  oite (decide (r30 < (0 : Int)))
    (some ((.d (.bool false)), []))
    (oite (!(r30 == x0))
      (some ((.d (.bool false)), []))
      (some ((.d (.bool true)), []))) := (evI_eq ..).trans (by kernel_rfl)
theorem laws_szHeap_eq (x0 : T_Heap) (x1 : Int) : laws_szHeap x0 x1 =
  ocall (.m (.one (.int .i64))) [] (laws_szIntS x0.1 x1) fun (r0 : Int) (m1 : Unit) =>
  oite (decide (r0 < (0 : Int)))
    (some ((.d (.int .i64 (-1 : Int))), []))
    (ocall (.m (.one (.int .i64))) [] (laws_szAccessS x0.2.2.2.2.1 r0) fun (r2 : Int) (m3 : Unit) =>
    oite (decide (r2 < (0 : Int)))
      (some ((.d (.int .i64 (-1 : Int))), []))
      (some ((.d (.int .i64 r2)), []))) := (evF_eq ..).trans (by kernel_rfl)
theorem laws_toHeap_eq (x0 : T_Heap) : laws_toHeap x0 =
  ocall (.m (.one (.own 0))) [(.row 1 false true)] (laws_toIntS x0.1) fun (r0 : Unit) (m1 : (Sl × Unit)) =>
  ocall (.m (.one (.own 0))) [(.row 3 false true)] (laws_toAccessS x0.2.2.2.2.1) fun (r2 : Unit) (m3 : (Sl × Unit)) =>
  some ((.agg [(.own 0), (.d (.int .i64 x0.2.1)), (.d (.int .i64 x0.2.2.1)), (.d (.int .i64 x0.2.2.2.1)), (.own 1)]), [(.row 1 m1.1.1 false true m1.1.2), (.row 3 m3.1.1 false true m3.1.2)]) := (evF_eq ..).trans (by kernel_rfl)
theorem spec_Alloc_eq (x0 : Int) (x1 : Int) (x2 : Int) (x3 : Int) (x4 : Sl) (x5 : Sl) : spec_Alloc x0 x1 x2 x3 x4 x5 =
  ocall (.m (.one .bool)) [(.row 1 false false), (.row 3 false false)] (spec_HeapOk x0 x1 x2 x4 x5) fun (r0 : Bool) (m1 : (Sl × (Sl × Unit))) =>
  oite (!r0)
    (some ((.tup [(.agg [(.own 2), (.d (.int .i64 (0 : Int))), (.d (.int .i64 (0 : Int))), (.d (.int .i64 (0 : Int))), (.own 3)]), (.d (.int .i64 (0 : Int))), (.kb false)]), [(.row 1 m1.1.1 false false m1.1.2), (.row 3 m1.2.1.1 false false m1.2.1.2), (.row 1 0 false false []), (.row 3 0 false false [])]))
    (ocall (.m (.agg [(.own (0 + (List.length ((Ent.row 1 m1.1.1 false false m1.1.2) :: ((Ent.row 3 m1.2.1.1 false false m1.2.1.2) :: []))))), (.int .i64), (.int .i64), (.int .i64), (.own (1 + (List.length ((Ent.row 1 m1.1.1 false false m1.1.2) :: ((Ent.row 3 m1.2.1.1 false false m1.2.1.2) :: [])))))])) [(.row 1 false false), (.row 3 false false), (.row 1 false true), (.row 3 false true)] (spec_l2copy x0 x1 x2 m1.1 m1.2.1) fun (r2 : (Unit × (Int × (Int × (Int × (Unit × Unit)))))) (m3 : (Sl × (Sl × (Sl × (Sl × Unit))))) =>
    ocall (.tup [(.one (.int .i64)), (.one .bool)]) [(.box [(.own 1), (.int .i64), (.int .i64), (.int .i64), (.own 2)]), (.row 1 false false), (.row 3 false false)] (spec_l2alloc x3 r2.2.1 r2.2.2.1 r2.2.2.2.1 m3.2.2.1 m3.2.2.2.1) fun (r4 : (Int × (Bool × Unit))) (m5 : ((Unit × (Int × (Int × (Int × (Unit × Unit))))) × (Sl × (Sl × Unit)))) =>
    some ((.tup [(.agg [(.own 2), (.d (.int .i64 m5.1.2.1)), (.d (.int .i64 m5.1.2.2.1)), (.d (.int .i64 m5.1.2.2.2.1)), (.own 3)]), (.d (.int .i64 r4.1)), (.d (.bool r4.2.1))]), [(.row 1 m3.1.1 false false m3.1.2), (.row 3 m3.2.1.1 false false m3.2.1.2), (.row 1 m5.2.1.1 false true m5.2.1.2), (.row 3 m5.2.2.1.1 false true m5.2.2.1.2)])) := (evF_eq ..).trans (by kernel_rfl)
theorem impl_Alloc_eq (x0 : Int) (x1 : Int) (x2 : Int) (x3 : Int) (x4 : Sl) (x5 : Sl) : impl_Alloc x0 x1 x2 x3 x4 x5 =
  ocall (.m (.one .bool)) [(.row 1 false false), (.row 3 false false)] (impl_HeapOk x0 x1 x2 x4 x5) fun (r0 : Bool) (m1 : (Sl × (Sl × Unit))) =>
  oite (!r0)
    (some ((.tup [(.agg [(.own 2), (.d (.int .i64 (0 : Int))), (.d (.int .i64 (0 : Int))), (.d (.int .i64 (0 : Int))), (.own 3)]), (.d (.int .i64 (0 : Int))), (.kb false)]), [(.row 1 m1.1.1 false false m1.1.2), (.row 3 m1.2.1.1 false false m1.2.1.2), (.row 1 0 false false []), (.row 3 0 false false [])]))
    (ocall (.m (.agg [(.own (0 + (List.length ((Ent.row 1 m1.1.1 false false m1.1.2) :: ((Ent.row 3 m1.2.1.1 false false m1.2.1.2) :: []))))), (.int .i64), (.int .i64), (.int .i64), (.own (1 + (List.length ((Ent.row 1 m1.1.1 false false m1.1.2) :: ((Ent.row 3 m1.2.1.1 false false m1.2.1.2) :: [])))))])) [(.row 1 false false), (.row 3 false false), (.row 1 false true), (.row 3 false true)] (impl_cloneHeap x0 x1 x2 m1.1 m1.2.1) fun (r2 : (Unit × (Int × (Int × (Int × (Unit × Unit)))))) (m3 : (Sl × (Sl × (Sl × (Sl × Unit))))) =>
    ocall (.tup [(.one (.int .i64)), (.one .bool)]) [(.box [(.own 1), (.int .i64), (.int .i64), (.int .i64), (.own 2)]), (.row 1 false false), (.row 3 false false)] (impl_Heap_alloc x3 r2.2.1 r2.2.2.1 r2.2.2.2.1 m3.2.2.1 m3.2.2.2.1) fun (r4 : (Int × (Bool × Unit))) (m5 : ((Unit × (Int × (Int × (Int × (Unit × Unit))))) × (Sl × (Sl × Unit)))) =>
    some ((.tup [(.agg [(.own 2), (.d (.int .i64 m5.1.2.1)), (.d (.int .i64 m5.1.2.2.1)), (.d (.int .i64 m5.1.2.2.2.1)), (.own 3)]), (.d (.int .i64 r4.1)), (.d (.bool r4.2.1))]), [(.row 1 m3.1.1 false false m3.1.2), (.row 3 m3.2.1.1 false false m3.2.1.2), (.row 1 m5.2.1.1 false true m5.2.1.2), (.row 3 m5.2.2.1.1 false true m5.2.2.1.2)])) := (evF_eq ..).trans (by kernel_rfl)
theorem laws_eqHeap_eq (x0 : Int) (x1 : Int) (x2 : Int) (x3 : Int) (x4 : Int) (x5 : Int) (x6 : Sl) (x7 : Sl) (x8 : Sl) (x9 : Sl) : laws_eqHeap x0 x1 x2 x3 x4 x5 x6 x7 x8 x9 =
  ocall (.m (.one .bool)) [(.row 1 false false), (.row 1 false false)] (laws_eqIntS_oo x6 x8) fun (r0 : Bool) (m1 : (Sl × (Sl × Unit))) =>
  oite (!r0)
    (some ((.d (.bool false)), [(.row 1 m1.1.1 false false m1.1.2), (.row 3 x7.1 false false x7.2), (.row 1 m1.2.1.1 false false m1.2.1.2), (.row 3 x9.1 false false x9.2)]))
    (oite (!(x0 == x3))
      (some ((.d (.bool false)), [(.row 1 m1.1.1 false false m1.1.2), (.row 3 x7.1 false false x7.2), (.row 1 m1.2.1.1 false false m1.2.1.2), (.row 3 x9.1 false false x9.2)]))
      (oite (!(x1 == x4))
        (some ((.d (.bool false)), [(.row 1 m1.1.1 false false m1.1.2), (.row 3 x7.1 false false x7.2), (.row 1 m1.2.1.1 false false m1.2.1.2), (.row 3 x9.1 false false x9.2)]))
        (oite (!(x2 == x5))
          (some ((.d (.bool false)), [(.row 1 m1.1.1 false false m1.1.2), (.row 3 x7.1 false false x7.2), (.row 1 m1.2.1.1 false false m1.2.1.2), (.row 3 x9.1 false false x9.2)]))
          (ocall (.m (.one .bool)) [(.row 3 false false), (.row 3 false false)] (laws_eqAccessS_oo x7 x9) fun (r2 : Bool) (m3 : (Sl × (Sl × Unit))) =>
          oite (!r2)
            (some ((.d (.bool false)), [(.row 1 m1.1.1 false false m1.1.2), (.row 3 m3.1.1 false false m3.1.2), (.row 1 m1.2.1.1 false false m1.2.1.2), (.row 3 m3.2.1.1 false false m3.2.1.2)]))
            (some ((.d (.bool true)), [(.row 1 m1.1.1 false false m1.1.2), (.row 3 m3.1.1 false false m3.1.2), (.row 1 m1.2.1.1 false false m1.2.1.2), (.row 3 m3.2.1.1 false false m3.2.1.2)])))))) := (evF_eq ..).trans (by kernel_rfl)
theorem laws_markHeap_eq (x0 : Int) (x1 : Int) (x2 : Int) (x3 : Int) (x4 : Sl) (x5 : Sl) : laws_markHeap x0 x1 x2 x3 x4 x5 =
  ocall (.m (.one (.int .i64))) [(.row 1 false false)] (laws_markIntS_o x3 x4) fun (r0 : Int) (m1 : (Sl × Unit)) =>
  ocall (.m (.one (.int .i64))) [(.row 3 false false)] (laws_markAccessS_o r0 x5) fun (r2 : Int) (m3 : (Sl × Unit)) =>
  some ((.d (.int .i64 r2)), [(.row 1 m1.1.1 false false m1.1.2), (.row 3 m3.1.1 false false m3.1.2)]) := (evF_eq ..).trans (by kernel_rfl)
theorem laws_heldHeap_eq (x0 : Int) (x1 : Int) (x2 : Int) (x3 : Int) (x4 : Sl) (x5 : Sl) : laws_heldHeap x0 x1 x2 x3 x4 x5 =
  ocall (.m (.one (.int .i64))) [(.row 1 false false)] (laws_heldIntS_o x3 x4) fun (r0 : Int) (m1 : (Sl × Unit)) =>
  oite (decide (r0 < (0 : Int)))
    (some ((.d (.int .i64 (-1 : Int))), [(.row 1 m1.1.1 false false m1.1.2), (.row 3 x5.1 false false x5.2)]))
    (ocall (.m (.one (.int .i64))) [(.row 3 false false)] (laws_heldAccessS_o r0 x5) fun (r2 : Int) (m3 : (Sl × Unit)) =>
    oite (decide (r2 < (0 : Int)))
      (some ((.d (.int .i64 (-1 : Int))), [(.row 1 m1.1.1 false false m1.1.2), (.row 3 m3.1.1 false false m3.1.2)]))
      (some ((.d (.int .i64 r2)), [(.row 1 m1.1.1 false false m1.1.2), (.row 3 m3.1.1 false false m3.1.2)]))) := (evF_eq ..).trans (by kernel_rfl)
theorem spec_Load_eq (x0 : Int) (x1 : Int) (x2 : Int) (x3 : Int) (x4 : Int) (x5 : Sl) (x6 : Sl) : spec_Load x0 x1 x2 x3 x4 x5 x6 =
  ocall (.m (.one .bool)) [(.row 1 false false), (.row 3 false false)] (spec_HeapOk x0 x1 x2 x5 x6) fun (r0 : Bool) (m1 : (Sl × (Sl × Unit))) =>
  oite (!r0)
    (some ((.tup [(.agg [(.own 2), (.d (.int .i64 (0 : Int))), (.d (.int .i64 (0 : Int))), (.d (.int .i64 (0 : Int))), (.own 3)]), (.d (.int .i64 (0 : Int))), (.kb false)]), [(.row 1 m1.1.1 false false m1.1.2), (.row 3 m1.2.1.1 false false m1.2.1.2), (.row 1 0 false false []), (.row 3 0 false false [])]))
    (ocall (.m (.agg [(.own (0 + (List.length ((Ent.row 1 m1.1.1 false false m1.1.2) :: ((Ent.row 3 m1.2.1.1 false false m1.2.1.2) :: []))))), (.int .i64), (.int .i64), (.int .i64), (.own (1 + (List.length ((Ent.row 1 m1.1.1 false false m1.1.2) :: ((Ent.row 3 m1.2.1.1 false false m1.2.1.2) :: [])))))])) [(.row 1 false false), (.row 3 false false), (.row 1 false true), (.row 3 false true)] (spec_l2copy x0 x1 x2 m1.1 m1.2.1) fun (r2 : (Unit × (Int × (Int × (Int × (Unit × Unit)))))) (m3 : (Sl × (Sl × (Sl × (Sl × Unit))))) =>
    ocall (.tup [(.one (.int .i64)), (.one .bool)]) [(.box [(.own 1), (.int .i64), (.int .i64), (.int .i64), (.own 2)]), (.row 1 false false), (.row 3 false true)] (spec_l2load x3 x4 r2.2.1 r2.2.2.1 r2.2.2.2.1 m3.2.2.1 m3.2.2.2.1) fun (r4 : (Int × (Bool × Unit))) (m5 : ((Unit × (Int × (Int × (Int × (Unit × Unit))))) × (Sl × (Sl × Unit)))) =>
    some ((.tup [(.agg [(.own 2), (.d (.int .i64 m5.1.2.1)), (.d (.int .i64 m5.1.2.2.1)), (.d (.int .i64 m5.1.2.2.2.1)), (.own 3)]), (.d (.int .i64 r4.1)), (.d (.bool r4.2.1))]), [(.row 1 m3.1.1 false false m3.1.2), (.row 3 m3.2.1.1 false false m3.2.1.2), (.row 1 m5.2.1.1 false true m5.2.1.2), (.row 3 m5.2.2.1.1 false true m5.2.2.1.2)])) := (evF_eq ..).trans (by kernel_rfl)
theorem impl_Load_eq (x0 : Int) (x1 : Int) (x2 : Int) (x3 : Int) (x4 : Int) (x5 : Sl) (x6 : Sl) : impl_Load x0 x1 x2 x3 x4 x5 x6 =
  ocall (.m (.one .bool)) [(.row 1 false false), (.row 3 false false)] (impl_HeapOk x0 x1 x2 x5 x6) fun (r0 : Bool) (m1 : (Sl × (Sl × Unit))) =>
  oite (!r0)
    (some ((.tup [(.agg [(.own 2), (.d (.int .i64 (0 : Int))), (.d (.int .i64 (0 : Int))), (.d (.int .i64 (0 : Int))), (.own 3)]), (.d (.int .i64 (0 : Int))), (.kb false)]), [(.row 1 m1.1.1 false false m1.1.2), (.row 3 m1.2.1.1 false false m1.2.1.2), (.row 1 0 false false []), (.row 3 0 false false [])]))
    (ocall (.m (.agg [(.own (0 + (List.length ((Ent.row 1 m1.1.1 false false m1.1.2) :: ((Ent.row 3 m1.2.1.1 false false m1.2.1.2) :: []))))), (.int .i64), (.int .i64), (.int .i64), (.own (1 + (List.length ((Ent.row 1 m1.1.1 false false m1.1.2) :: ((Ent.row 3 m1.2.1.1 false false m1.2.1.2) :: [])))))])) [(.row 1 false false), (.row 3 false false), (.row 1 false true), (.row 3 false true)] (impl_cloneHeap x0 x1 x2 m1.1 m1.2.1) fun (r2 : (Unit × (Int × (Int × (Int × (Unit × Unit)))))) (m3 : (Sl × (Sl × (Sl × (Sl × Unit))))) =>
    ocall (.tup [(.one (.int .i64)), (.one .bool)]) [(.box [(.own 1), (.int .i64), (.int .i64), (.int .i64), (.own 2)]), (.row 1 false false), (.row 3 false true)] (impl_Heap_load x3 x4 r2.2.1 r2.2.2.1 r2.2.2.2.1 m3.2.2.1 m3.2.2.2.1) fun (r4 : (Int × (Bool × Unit))) (m5 : ((Unit × (Int × (Int × (Int × (Unit × Unit))))) × (Sl × (Sl × Unit)))) =>
    some ((.tup [(.agg [(.own 2), (.d (.int .i64 m5.1.2.1)), (.d (.int .i64 m5.1.2.2.1)), (.d (.int .i64 m5.1.2.2.2.1)), (.own 3)]), (.d (.int .i64 r4.1)), (.d (.bool r4.2.1))]), [(.row 1 m3.1.1 false false m3.1.2), (.row 3 m3.2.1.1 false false m3.2.1.2), (.row 1 m5.2.1.1 false true m5.2.1.2), (.row 3 m5.2.2.1.1 false true m5.2.2.1.2)])) := (evF_eq ..).trans (by kernel_rfl)
theorem spec_Store_eq (x0 : Int) (x1 : Int) (x2 : Int) (x3 : Int) (x4 : Int) (x5 : Int) (x6 : Sl) (x7 : Sl) : spec_Store x0 x1 x2 x3 x4 x5 x6 x7 =
  ocall (.m (.one .bool)) [(.row 1 false false), (.row 3 false false)] (spec_HeapOk x0 x1 x2 x6 x7) fun (r0 : Bool) (m1 : (Sl × (Sl × Unit))) =>
  oite (!r0)
    (some ((.tup [(.agg [(.own 2), (.d (.int .i64 (0 : Int))), (.d (.int .i64 (0 : Int))), (.d (.int .i64 (0 : Int))), (.own 3)]), (.kb false)]), [(.row 1 m1.1.1 false false m1.1.2), (.row 3 m1.2.1.1 false false m1.2.1.2), (.row 1 0 false false []), (.row 3 0 false false [])]))
    (ocall (.m (.agg [(.own (0 + (List.length ((Ent.row 1 m1.1.1 false false m1.1.2) :: ((Ent.row 3 m1.2.1.1 false false m1.2.1.2) :: []))))), (.int .i64), (.int .i64), (.int .i64), (.own (1 + (List.length ((Ent.row 1 m1.1.1 false false m1.1.2) :: ((Ent.row 3 m1.2.1.1 false false m1.2.1.2) :: [])))))])) [(.row 1 false false), (.row 3 false false), (.row 1 false true), (.row 3 false true)] (spec_l2copy x0 x1 x2 m1.1 m1.2.1) fun (r2 : (Unit × (Int × (Int × (Int × (Unit × Unit)))))) (m3 : (Sl × (Sl × (Sl × (Sl × Unit))))) =>
    ocall (.m (.one .bool)) [(.box [(.own 1), (.int .i64), (.int .i64), (.int .i64), (.own 2)]), (.row 1 false false), (.row 3 false true)] (spec_l2store x3 x4 x5 r2.2.1 r2.2.2.1 r2.2.2.2.1 m3.2.2.1 m3.2.2.2.1) fun (r4 : Bool) (m5 : ((Unit × (Int × (Int × (Int × (Unit × Unit))))) × (Sl × (Sl × Unit)))) =>
    some ((.tup [(.agg [(.own 2), (.d (.int .i64 m5.1.2.1)), (.d (.int .i64 m5.1.2.2.1)), (.d (.int .i64 m5.1.2.2.2.1)), (.own 3)]), (.d (.bool r4))]), [(.row 1 m3.1.1 false false m3.1.2), (.row 3 m3.2.1.1 false false m3.2.1.2), (.row 1 m5.2.1.1 false true m5.2.1.2), (.row 3 m5.2.2.1.1 false true m5.2.2.1.2)])) := (evF_eq ..).trans (by kernel_rfl)
theorem impl_Store_eq (x0 : Int) (x1 : Int) (x2 : Int) (x3 : Int) (x4 : Int) (x5 : Int) (x6 : Sl) (x7 : Sl) : impl_Store x0 x1 x2 x3 x4 x5 x6 x7 =
  ocall (.m (.one .bool)) [(.row 1 false false), (.row 3 false false)] (impl_HeapOk x0 x1 x2 x6 x7) fun (r0 : Bool) (m1 : (Sl × (Sl × Unit))) =>
  oite (!r0)
    (some ((.tup [(.agg [(.own 2), (.d (.int .i64 (0 : Int))), (.d (.int .i64 (0 : Int))), (.d (.int .i64 (0 : Int))), (.own 3)]), (.kb false)]), [(.row 1 m1.1.1 false false m1.1.2), (.row 3 m1.2.1.1 false false m1.2.1.2), (.row 1 0 false false []), (.row 3 0 false false [])]))
    (ocall (.m (.agg [(.own (0 + (List.length ((Ent.row 1 m1.1.1 false false m1.1.2) :: ((Ent.row 3 m1.2.1.1 false false m1.2.1.2) :: []))))), (.int .i64), (.int .i64), (.int .i64), (.own (1 + (List.length ((Ent.row 1 m1.1.1 false false m1.1.2) :: ((Ent.row 3 m1.2.1.1 false false m1.2.1.2) :: [])))))])) [(.row 1 false false), (.row 3 false false), (.row 1 false true), (.row 3 false true)] (impl_cloneHeap x0 x1 x2 m1.1 m1.2.1) fun (r2 : (Unit × (Int × (Int × (Int × (Unit × Unit)))))) (m3 : (Sl × (Sl × (Sl × (Sl × Unit))))) =>
    ocall (.m (.one .bool)) [(.box [(.own 1), (.int .i64), (.int .i64), (.int .i64), (.own 2)]), (.row 1 false false), (.row 3 false true)] (impl_Heap_store x3 x4 x5 r2.2.1 r2.2.2.1 r2.2.2.2.1 m3.2.2.1 m3.2.2.2.1) fun (r4 : Bool) (m5 : ((Unit × (Int × (Int × (Int × (Unit × Unit))))) × (Sl × (Sl × Unit)))) =>
    some ((.tup [(.agg [(.own 2), (.d (.int .i64 m5.1.2.1)), (.d (.int .i64 m5.1.2.2.1)), (.d (.int .i64 m5.1.2.2.2.1)), (.own 3)]), (.d (.bool r4))]), [(.row 1 m3.1.1 false false m3.1.2), (.row 3 m3.2.1.1 false false m3.2.1.2), (.row 1 m5.2.1.1 false true m5.2.1.2), (.row 3 m5.2.2.1.1 false true m5.2.2.1.2)])) := (evF_eq ..).trans (by kernel_rfl)
theorem laws_szIntS_eq (x0 : Sl) (x1 : Int) : laws_szIntS x0 x1 =
  oite (decide ((w64 (x1 - ((x0.1 : Nat) : Int))) < (0 : Int)))
    (some ((.d (.int .i64 (-1 : Int))), []))
    (some ((.d (.int .i64 (w64 (x1 - ((x0.1 : Nat) : Int))))), [])) := (evF_eq ..).trans (by kernel_rfl)
theorem laws_szAccessS_eq (x0 : Sl) (x1 : Int) : laws_szAccessS x0 x1 =
  oite (decide ((w64 (x1 - ((x0.1 : Nat) : Int))) < (0 : Int)))
    (some ((.d (.int .i64 (-1 : Int))), []))
    (some ((.d (.int .i64 (w64 (x1 - ((x0.1 : Nat) : Int))))), [])) := (evF_eq ..).trans (by kernel_rfl)
noncomputable def laws_toIntS_j1 (x0 : Int) (x1 : Sl) (x2 : Sl) : Res := (fun (p : Env × Mem) => evI cx 81 0 1 p.1 p.2) ([(4, (.d (.int .i64 x0))), (0, (.d (.sl false 1 x1.1 x1.2))), (3, (.own 0))], [(.row 1 x2.1 false false x2.2)])
theorem laws_toIntS_eq (x0 : Sl) : laws_toIntS x0 =
  oguard (decide (((0 : Int) ≤ ((x0.1 : Nat) : Int)) ∧ ((((x0.1 : Nat) : Int) = ((x0.1 : Nat) : Int)) ∧ ((((x0.1 : Nat) : Int) * (8 : Int)) ≤ (140737488351232 : Int))))) (
  olet (List.replicate (Int.toNat ((x0.1 : Nat) : Int)) ((D.int .i64 (0 : Int)) :: [])) fun (e0 : (List (List D))) =>
  laws_toIntS_j1 (0 : Int) x0 ((Int.toNat ((x0.1 : Nat) : Int)), e0)) := (evF_eq ..).trans (by kernel_rfl)
-- a loop's head
theorem laws_toIntS_j1_eq (x0 : Int) (x1 : Sl) (x2 : Sl) : laws_toIntS_j1 x0 x1 x2 =
  oite (decide (x0 < ((x1.1 : Nat) : Int)))
    (oat [(.int .i64)] x1.1 x1.2 x0 fun (t1 : (Int × Unit)) =>
    oguard (decide (((0 : Int) ≤ x0) ∧ (x0 < ((x2.1 : Nat) : Int)))) (
    olet (List.set x2.2 (Int.toNat x0) (putD (List.getD x2.2 (Int.toNat x0) []) 0 [(D.int .i64 t1.1)])) fun (e2 : (List (List D))) =>
    laws_toIntS_j1 (w64 (x0 + (1 : Int))) x1 (x2.1, e2)))
    (some ((.own 0), [(.row 1 x2.1 false false x2.2)])) := (evI_eq ..).trans (by kernel_rfl)
noncomputable def laws_toAccessS_j1 (x0 : Int) (x1 : Sl) (x2 : Sl) : Res := (fun (p : Env × Mem) => evI cx 82 0 1 p.1 p.2) ([(4, (.d (.int .i64 x0))), (0, (.d (.sl false 3 x1.1 x1.2))), (3, (.own 0))], [(.row 3 x2.1 false false x2.2)])
theorem laws_toAccessS_eq (x0 : Sl) : laws_toAccessS x0 =
  oguard (decide (((0 : Int) ≤ ((x0.1 : Nat) : Int)) ∧ ((((x0.1 : Nat) : Int) = ((x0.1 : Nat) : Int)) ∧ ((((x0.1 : Nat) : Int) * (24 : Int)) ≤ (140737488351232 : Int))))) (
  olet (List.replicate (Int.toNat ((x0.1 : Nat) : Int)) (vDs (LS.encs sh_Access ((0 : Int), (0 : Int), (0 : Int), ())))) fun (e0 : (List (List D))) =>
  laws_toAccessS_j1 (0 : Int) x0 ((Int.toNat ((x0.1 : Nat) : Int)), e0)) := (evF_eq ..).trans (by kernel_rfl)
-- a loop's head
theorem laws_toAccessS_j1_eq (x0 : Int) (x1 : Sl) (x2 : Sl) : laws_toAccessS_j1 x0 x1 x2 =
  oite (decide (x0 < ((x1.1 : Nat) : Int)))
    (oat sh_Access x1.1 x1.2 x0 fun (t1 : T_Access) =>
    ocall (.m (.agg sh_Access)) [] (laws_toAccess t1) fun (r2 : T_Access) (m3 : Unit) =>
    oguard (decide (((0 : Int) ≤ x0) ∧ (x0 < ((x2.1 : Nat) : Int)))) (
    olet (List.set x2.2 (Int.toNat x0) (putD (List.getD x2.2 (Int.toNat x0) []) 0 (vDs (LS.encs sh_Access r2)))) fun (e4 : (List (List D))) =>
    laws_toAccessS_j1 (w64 (x0 + (1 : Int))) x1 (x2.1, e4)))
    (some ((.own 0), [(.row 3 x2.1 false false x2.2)])) := (evI_eq ..).trans (by kernel_rfl)
noncomputable def spec_HeapOk_j2 (x0 : Bool) (x1 : Sl) (x2 : Sl) (x3 : Int) (x4 : Int) (x5 : Int) : Res := (fun (p : Env × Mem) => evI cx 32 2 2 p.1 p.2) ([(1, (.ptr 2 0)), (25, (.d (.bool x0)))], [(.row 1 x1.1 false false x1.2), (.row 3 x2.1 false false x2.2), (.box [(.own 0), (.d (.int .i64 x3)), (.d (.int .i64 x4)), (.d (.int .i64 x5)), (.own 1)])])
noncomputable def spec_HeapOk_j1 (x0 : Sl) (x1 : Sl) (x2 : Int) (x3 : Int) (x4 : Int) : Res := (fun (p : Env × Mem) => evI cx 32 2 1 p.1 p.2) ([(1, (.ptr 2 0))], [(.row 1 x0.1 false false x0.2), (.row 3 x1.1 false false x1.2), (.box [(.own 0), (.d (.int .i64 x2)), (.d (.int .i64 x3)), (.d (.int .i64 x4)), (.own 1)])])
theorem spec_HeapOk_eq (x0 : Int) (x1 : Int) (x2 : Int) (x3 : Sl) (x4 : Sl) : spec_HeapOk x0 x1 x2 x3 x4 =
  oite (decide (x0 < (16 : Int)))
    (spec_HeapOk_j2 true x3 x4 x0 x1 x2)
    (oite (decide (x0 > (4096 : Int)))
      (spec_HeapOk_j2 true x3 x4 x0 x1 x2)
      (oite (!(((x3.1 : Nat) : Int) == (w64 ((2 : Int) * x0))))
        (spec_HeapOk_j2 true x3 x4 x0 x1 x2)
        (spec_HeapOk_j2 (decide (((x4.1 : Nat) : Int) > (4000 : Int))) x3 x4 x0 x1 x2))) := (evF_eq ..).trans (by kernel_rfl)
theorem spec_HeapOk_j2_eq (x0 : Bool) (x1 : Sl) (x2 : Sl) (x3 : Int) (x4 : Int) (x5 : Int) : spec_HeapOk_j2 x0 x1 x2 x3 x4 x5 =
  oite x0
    (some ((.d (.bool false)), [(.row 1 x1.1 false false x1.2), (.row 3 x2.1 false false x2.2)]))
    (spec_HeapOk_j1 x1 x2 x3 x4 x5) := (evI_eq ..).trans (by kernel_rfl)
theorem spec_HeapOk_j1_eq (x0 : Sl) (x1 : Sl) (x2 : Int) (x3 : Int) (x4 : Int) : spec_HeapOk_j1 x0 x1 x2 x3 x4 =
  oite (x3 == (0 : Int))
    (oite (decide (x4 ≥ x3))
      (some ((.d (.bool (decide (x4 ≤ (w64 (x3 + x2)))))), [(.row 1 x0.1 false false x0.2), (.row 3 x1.1 false false x1.2)]))
      (some ((.d (.bool false)), [(.row 1 x0.1 false false x0.2), (.row 3 x1.1 false false x1.2)])))
    (oite (x3 == x2)
      (oite (decide (x4 ≥ x3))
        (some ((.d (.bool (decide (x4 ≤ (w64 (x3 + x2)))))), [(.row 1 x0.1 false false x0.2), (.row 3 x1.1 false false x1.2)]))
        (some ((.d (.bool false)), [(.row 1 x0.1 false false x0.2), (.row 3 x1.1 false false x1.2)])))
      (some ((.d (.bool false)), [(.row 1 x0.1 false false x0.2), (.row 3 x1.1 false false x1.2)]))) := (evI_eq ..).trans (by kernel_rfl)
theorem spec_l2copy_eq (x0 : Int) (x1 : Int) (x2 : Int) (x3 : Sl) (x4 : Sl) : spec_l2copy x0 x1 x2 x3 x4 =
  oguard (decide ((x3.1 * 8) ≤ 140737488351232)) (
  oguard (decide ((x4.1 * 24) ≤ 140737488351232)) (
  some ((.agg [(.own 2), (.d (.int .i64 x0)), (.d (.int .i64 x1)), (.d (.int .i64 x2)), (.own 3)]), [(.row 1 x3.1 false false x3.2), (.row 3 x4.1 false false x4.2), (.row 1 x3.1 false false x3.2), (.row 3 x4.1 false false x4.2)]))) := (evF_eq ..).trans (by kernel_rfl)
noncomputable def spec_l2alloc_j2 (x0 : Int) (x1 : Bool) (x2 : Int) (x3 : Int) (x4 : Int) (x5 : Sl) (x6 : Sl) : Res := (fun (p : Env × Mem) => evI cx 80 3 2 p.1 p.2) ([(0, (.ptr 0 0)), (1, (.d (.int .i64 x0))), (31, (.d (.bool x1)))], [(.box [(.own 1), (.d (.int .i64 x2)), (.d (.int .i64 x3)), (.d (.int .i64 x4)), (.own 2)]), (.row 1 x5.1 false false x5.2), (.row 3 x6.1 false false x6.2)])
noncomputable def spec_l2alloc_j1 (x0 : Int) (x1 : Int) (x2 : Int) (x3 : Int) (x4 : Sl) (x5 : Sl) : Res := (fun (p : Env × Mem) => evI cx 80 3 1 p.1 p.2) ([(0, (.ptr 0 0)), (1, (.d (.int .i64 x0)))], [(.box [(.own 1), (.d (.int .i64 x1)), (.d (.int .i64 x2)), (.d (.int .i64 x3)), (.own 2)]), (.row 1 x4.1 false false x4.2), (.row 3 x5.1 false false x5.2)])
noncomputable def spec_l2alloc_j3 (x0 : Int) (x1 : Int) (x2 : Int) (x3 : Int) (x4 : Int) (x5 : Int) (x6 : Sl) (x7 : Sl) : Res := (fun (p : Env × Mem) => evI cx 80 3 3 p.1 p.2) ([(7, (.d (.int .i64 x0))), (6, (.d (.int .i64 x1))), (0, (.ptr 0 0)), (1, (.d (.int .i64 x2)))], [(.box [(.own 1), (.d (.int .i64 x3)), (.d (.int .i64 x4)), (.d (.int .i64 x5)), (.own 2)]), (.row 1 x6.1 false false x6.2), (.row 3 x7.1 false false x7.2)])
theorem spec_l2alloc_eq (x0 : Int) (x1 : Int) (x2 : Int) (x3 : Int) (x4 : Sl) (x5 : Sl) : spec_l2alloc x0 x1 x2 x3 x4 x5 =
  oite (decide (x0 < (1 : Int)))
    (spec_l2alloc_j2 x0 true x1 x2 x3 x4 x5)
    (oite (decide (x0 > (64 : Int)))
      (spec_l2alloc_j2 x0 true x1 x2 x3 x4 x5)
      (spec_l2alloc_j2 x0 (decide (x0 > (w64 ((w64 (x2 + x1)) - x3)))) x1 x2 x3 x4 x5)) := (evF_eq ..).trans (by kernel_rfl)
theorem spec_l2alloc_j2_eq (x0 : Int) (x1 : Bool) (x2 : Int) (x3 : Int) (x4 : Int) (x5 : Sl) (x6 : Sl) : spec_l2alloc_j2 x0 x1 x2 x3 x4 x5 x6 =
  oite x1
    (some ((.tup [(.d (.int .i64 (0 : Int))), (.d (.bool false))]), [(.box [(.own 1), (.d (.int .i64 x2)), (.d (.int .i64 x3)), (.d (.int .i64 x4)), (.own 2)]), (.row 1 x5.1 false false x5.2), (.row 3 x6.1 false false x6.2)]))
    (spec_l2alloc_j1 x0 x2 x3 x4 x5 x6) := (evI_eq ..).trans (by kernel_rfl)
theorem spec_l2alloc_j1_eq (x0 : Int) (x1 : Int) (x2 : Int) (x3 : Int) (x4 : Sl) (x5 : Sl) : spec_l2alloc_j1 x0 x1 x2 x3 x4 x5 =
  spec_l2alloc_j3 (0 : Int) x3 x0 x1 x2 x3 x4 x5 := (evI_eq ..).trans (by kernel_rfl)
-- a loop's head
theorem spec_l2alloc_j3_eq (x0 : Int) (x1 : Int) (x2 : Int) (x3 : Int) (x4 : Int) (x5 : Int) (x6 : Sl) (x7 : Sl) : spec_l2alloc_j3 x0 x1 x2 x3 x4 x5 x6 x7 =
  oite (decide (x0 < x2))
    (oguard (decide (((0 : Int) ≤ (w64 (x1 + x0))) ∧ ((w64 (x1 + x0)) < ((x6.1 : Nat) : Int)))) (
    olet (List.set x6.2 (Int.toNat (w64 (x1 + x0))) (putD (List.getD x6.2 (Int.toNat (w64 (x1 + x0))) []) 0 [(D.int .i64 (0 : Int))])) fun (e0 : (List (List D))) =>
    spec_l2alloc_j3 (w64 (x0 + (1 : Int))) x1 x2 x3 x4 x5 (x6.1, e0) x7))
    (some ((.tup [(.d (.int .i64 x1)), (.d (.bool true))]), [(.box [(.own 1), (.d (.int .i64 x3)), (.d (.int .i64 x4)), (.d (.int .i64 (w64 (x1 + x2)))), (.own 2)]), (.row 1 x6.1 false false x6.2), (.row 3 x7.1 false false x7.2)])) := (evI_eq ..).trans (by kernel_rfl)
noncomputable def impl_HeapOk_j1 (x0 : Bool) (x1 : Sl) (x2 : Sl) (x3 : Int) (x4 : Int) (x5 : Int) : Res := (fun (p : Env × Mem) => evI cx 35 2 1 p.1 p.2) ([(1, (.ptr 2 0)), (3, (.d (.bool x0)))], [(.row 1 x1.1 false false x1.2), (.row 3 x2.1 false false x2.2), (.box [(.own 0), (.d (.int .i64 x3)), (.d (.int .i64 x4)), (.d (.int .i64 x5)), (.own 1)])])
theorem impl_HeapOk_eq (x0 : Int) (x1 : Int) (x2 : Int) (x3 : Sl) (x4 : Sl) : impl_HeapOk x0 x1 x2 x3 x4 =
  ocall (.m (.one .bool)) [] (impl_within x0 (16 : Int) (4096 : Int)) fun (r0 : Bool) (m1 : Unit) =>
  oite r0
    (oite (((x3.1 : Nat) : Int) == (w64 ((2 : Int) * x0)))
      (impl_HeapOk_j1 (decide (((x4.1 : Nat) : Int) ≤ (4000 : Int))) x3 x4 x0 x1 x2)
      (impl_HeapOk_j1 false x3 x4 x0 x1 x2))
    (impl_HeapOk_j1 false x3 x4 x0 x1 x2) := (evF_eq ..).trans (by kernel_rfl)
theorem impl_HeapOk_j1_eq (x0 : Bool) (x1 : Sl) (x2 : Sl) (x3 : Int) (x4 : Int) (x5 : Int) : impl_HeapOk_j1 x0 x1 x2 x3 x4 x5 =
  oite x0
    (oite (x4 == (0 : Int))
      (ocall (.m (.one .bool)) [] (impl_within x5 x4 (w64 (x4 + x3))) fun (r2 : Bool) (m3 : Unit) =>
      some ((.d (.bool r2)), [(.row 1 x1.1 false false x1.2), (.row 3 x2.1 false false x2.2)]))
      (oite (x4 == x3)
        (ocall (.m (.one .bool)) [] (impl_within x5 x4 (w64 (x4 + x3))) fun (r4 : Bool) (m5 : Unit) =>
        some ((.d (.bool r4)), [(.row 1 x1.1 false false x1.2), (.row 3 x2.1 false false x2.2)]))
        (some ((.d (.bool false)), [(.row 1 x1.1 false false x1.2), (.row 3 x2.1 false false x2.2)]))))
    (some ((.d (.bool false)), [(.row 1 x1.1 false false x1.2), (.row 3 x2.1 false false x2.2)])) := (evI_eq ..).trans (by kernel_rfl)
theorem impl_cloneHeap_eq (x0 : Int) (x1 : Int) (x2 : Int) (x3 : Sl) (x4 : Sl) : impl_cloneHeap x0 x1 x2 x3 x4 =
  ocall (.m (.one (.own (0 + (List.length ((Ent.row 1 x3.1 false false x3.2) :: [])))))) [(.row 1 false false), (.row 1 false true)] (slices_Clone_int_int_o x3) fun (r0 : Unit) (m1 : (Sl × (Sl × Unit))) =>
  osame (α := Nat × List (List D)) (x3.1, x3.2) (m1.1.1, m1.1.2) (
  osame (α := Nat × List (List D)) (x4.1, x4.2) (x4.1, x4.2) (
  osame (α := List V) [(.own 0), (.d (.int .i64 x0)), (.d (.int .i64 x1)), (.d (.int .i64 x2)), (.own 1)] [(.own 0), (.d (.int .i64 x0)), (.d (.int .i64 x1)), (.d (.int .i64 x2)), (.own 1)] (
  osame (α := List V) [(.d (.sl true 1 0 [])), (.d (.int .i64 (0 : Int))), (.d (.int .i64 (0 : Int))), (.d (.int .i64 (0 : Int))), (.d (.sl true 3 0 []))] [(.d (.sl true 1 0 [])), (.d (.int .i64 (0 : Int))), (.d (.int .i64 (0 : Int))), (.d (.int .i64 (0 : Int))), (.d (.sl true 3 0 []))] (
  ocall (.m (.one (.own (0 + (List.length ((Ent.row 3 x4.1 false false x4.2) :: [])))))) [(.row 3 false false), (.row 3 false true)] (slices_Clone_impl_Access_impl_Access_o x4) fun (r2 : Unit) (m3 : (Sl × (Sl × Unit))) =>
  osame (α := Nat × List (List D)) (x3.1, x3.2) (x3.1, x3.2) (
  osame (α := Nat × List (List D)) (x4.1, x4.2) (m3.1.1, m3.1.2) (
  osame (α := List V) [(.own 0), (.d (.int .i64 x0)), (.d (.int .i64 x1)), (.d (.int .i64 x2)), (.own 1)] [(.own 0), (.d (.int .i64 x0)), (.d (.int .i64 x1)), (.d (.int .i64 x2)), (.own 1)] (
  osame (α := List V) [(.d (.sl true 1 0 [])), (.d (.int .i64 (0 : Int))), (.d (.int .i64 (0 : Int))), (.d (.int .i64 (0 : Int))), (.d (.sl true 3 0 []))] [(.d (.sl true 1 0 [])), (.d (.int .i64 (0 : Int))), (.d (.int .i64 (0 : Int))), (.d (.int .i64 (0 : Int))), (.d (.sl true 3 0 []))] (
  osame (α := Nat × List (List D)) (m1.2.1.1, m1.2.1.2) (m1.2.1.1, m1.2.1.2) (
  some ((.agg [(.own 2), (.d (.int .i64 x0)), (.d (.int .i64 x1)), (.d (.int .i64 x2)), (.own 3)]), [(.row 1 x3.1 false false x3.2), (.row 3 x4.1 false false x4.2), (.row 1 m1.2.1.1 false true m1.2.1.2), (.row 3 m3.2.1.1 false true m3.2.1.2)])))))))))) := (evF_eq ..).trans (by kernel_rfl)
noncomputable def impl_Heap_alloc_j2 (x0 : Int) (x1 : Bool) (x2 : Int) (x3 : Int) (x4 : Int) (x5 : Sl) (x6 : Sl) : Res := (fun (p : Env × Mem) => evI cx 84 3 2 p.1 p.2) ([(0, (.ptr 0 0)), (1, (.d (.int .i64 x0))), (15, (.d (.bool x1)))], [(.box [(.own 1), (.d (.int .i64 x2)), (.d (.int .i64 x3)), (.d (.int .i64 x4)), (.own 2)]), (.row 1 x5.1 false false x5.2), (.row 3 x6.1 false false x6.2)])
noncomputable def impl_Heap_alloc_j1 (x0 : Int) (x1 : Int) (x2 : Int) (x3 : Int) (x4 : Sl) (x5 : Sl) : Res := (fun (p : Env × Mem) => evI cx 84 3 1 p.1 p.2) ([(0, (.ptr 0 0)), (1, (.d (.int .i64 x0)))], [(.box [(.own 1), (.d (.int .i64 x1)), (.d (.int .i64 x2)), (.d (.int .i64 x3)), (.own 2)]), (.row 1 x4.1 false false x4.2), (.row 3 x5.1 false false x5.2)])
theorem impl_Heap_alloc_eq (x0 : Int) (x1 : Int) (x2 : Int) (x3 : Int) (x4 : Sl) (x5 : Sl) : impl_Heap_alloc x0 x1 x2 x3 x4 x5 =
  ocall (.m (.one .bool)) [] (impl_within x0 (1 : Int) (64 : Int)) fun (r0 : Bool) (m1 : Unit) =>
  oite (!r0)
    (impl_Heap_alloc_j2 x0 true x1 x2 x3 x4 x5)
    (ocall (.m (.one (.int .i64))) [(.box [(.own 1), (.int .i64), (.int .i64), (.int .i64), (.own 2)]), (.row 1 false false), (.row 3 false false)] (impl_Heap_room x1 x2 x3 x4 x5) fun (r2 : Int) (m3 : ((Unit × (Int × (Int × (Int × (Unit × Unit))))) × (Sl × (Sl × Unit)))) =>
    impl_Heap_alloc_j2 x0 (decide (x0 > r2)) m3.1.2.1 m3.1.2.2.1 m3.1.2.2.2.1 m3.2.1 m3.2.2.1) := (evF_eq ..).trans (by kernel_rfl)
theorem impl_Heap_alloc_j2_eq (x0 : Int) (x1 : Bool) (x2 : Int) (x3 : Int) (x4 : Int) (x5 : Sl) (x6 : Sl) : impl_Heap_alloc_j2 x0 x1 x2 x3 x4 x5 x6 =
  oite x1
    (some ((.tup [(.d (.int .i64 (0 : Int))), (.d (.bool false))]), [(.box [(.own 1), (.d (.int .i64 x2)), (.d (.int .i64 x3)), (.d (.int .i64 x4)), (.own 2)]), (.row 1 x5.1 false false x5.2), (.row 3 x6.1 false false x6.2)]))
    (impl_Heap_alloc_j1 x0 x2 x3 x4 x5 x6) := (evI_eq ..).trans (by kernel_rfl)
theorem impl_Heap_alloc_j1_eq (x0 : Int) (x1 : Int) (x2 : Int) (x3 : Int) (x4 : Sl) (x5 : Sl) : impl_Heap_alloc_j1 x0 x1 x2 x3 x4 x5 =
  oguard (decide (((0 : Int) ≤ x3) ∧ ((x3 ≤ (w64 (x3 + x0))) ∧ ((w64 (x3 + x0)) ≤ ((x4.1 : Nat) : Int))))) (
  olet ((List.take (Int.toNat x3) x4.2) ++ ((List.replicate ((Int.toNat (w64 (x3 + x0))) - (Int.toNat x3)) ((D.int .i64 (0 : Int)) :: [])) ++ (List.drop ((Int.toNat x3) + ((Int.toNat (w64 (x3 + x0))) - (Int.toNat x3))) x4.2))) fun (e4 : (List (List D))) =>
  some ((.tup [(.d (.int .i64 x3)), (.d (.bool true))]), [(.box [(.own 1), (.d (.int .i64 x1)), (.d (.int .i64 x2)), (.d (.int .i64 (w64 (x3 + x0)))), (.own 2)]), (.row 1 x4.1 false false e4), (.row 3 x5.1 false false x5.2)])) := (evI_eq ..).trans (by kernel_rfl)
noncomputable def laws_eqIntS_oo_j1 (x0 : Int) (x1 : Sl) (x2 : Sl) : Res := (fun (p : Env × Mem) => evI cx 85 2 1 p.1 p.2) ([(5, (.d (.int .i64 x0))), (1, (.own 1)), (0, (.own 0))], [(.row 1 x1.1 false false x1.2), (.row 1 x2.1 false false x2.2)])
theorem laws_eqIntS_oo_eq (x0 : Sl) (x1 : Sl) : laws_eqIntS_oo x0 x1 =
  oite (!(((x0.1 : Nat) : Int) == ((x1.1 : Nat) : Int)))
    (some ((.d (.bool false)), [(.row 1 x0.1 false false x0.2), (.row 1 x1.1 false false x1.2)]))
    (laws_eqIntS_oo_j1 (0 : Int) x0 x1) := (evF_eq ..).trans (by kernel_rfl)
-- a loop's head
theorem laws_eqIntS_oo_j1_eq (x0 : Int) (x1 : Sl) (x2 : Sl) : laws_eqIntS_oo_j1 x0 x1 x2 =
  oite (decide (x0 < ((x1.1 : Nat) : Int)))
    (oguard (decide (((0 : Int) ≤ x0) ∧ (x0 < ((x1.1 : Nat) : Int)))) (
    ocells [(.int .i64)] (List.take 1 (List.drop 0 (List.getD x1.2 (Int.toNat x0) []))) fun (t0 : (Int × Unit)) =>
    oguard (decide (((0 : Int) ≤ x0) ∧ (x0 < ((x2.1 : Nat) : Int)))) (
    ocells [(.int .i64)] (List.take 1 (List.drop 0 (List.getD x2.2 (Int.toNat x0) []))) fun (t1 : (Int × Unit)) =>
    oite (!(t0.1 == t1.1))
      (some ((.d (.bool false)), [(.row 1 x1.1 false false x1.2), (.row 1 x2.1 false false x2.2)]))
      (laws_eqIntS_oo_j1 (w64 (x0 + (1 : Int))) x1 x2))))
    (some ((.d (.bool true)), [(.row 1 x1.1 false false x1.2), (.row 1 x2.1 false false x2.2)])) := (evI_eq ..).trans (by kernel_rfl)
noncomputable def laws_eqAccessS_oo_j1 (x0 : Int) (x1 : Sl) (x2 : Sl) : Res := (fun (p : Env × Mem) => evI cx 86 2 1 p.1 p.2) ([(5, (.d (.int .i64 x0))), (1, (.own 1)), (0, (.own 0))], [(.row 3 x1.1 false false x1.2), (.row 3 x2.1 false false x2.2)])
theorem laws_eqAccessS_oo_eq (x0 : Sl) (x1 : Sl) : laws_eqAccessS_oo x0 x1 =
  oite (!(((x0.1 : Nat) : Int) == ((x1.1 : Nat) : Int)))
    (some ((.d (.bool false)), [(.row 3 x0.1 false false x0.2), (.row 3 x1.1 false false x1.2)]))
    (laws_eqAccessS_oo_j1 (0 : Int) x0 x1) := (evF_eq ..).trans (by kernel_rfl)
-- a loop's head
theorem laws_eqAccessS_oo_j1_eq (x0 : Int) (x1 : Sl) (x2 : Sl) : laws_eqAccessS_oo_j1 x0 x1 x2 =
  oite (decide (x0 < ((x1.1 : Nat) : Int)))
    (oguard (decide (((0 : Int) ≤ x0) ∧ (x0 < ((x1.1 : Nat) : Int)))) (
    ocells sh_Access (List.take 3 (List.drop 0 (List.getD x1.2 (Int.toNat x0) []))) fun (t0 : T_Access) =>
    oguard (decide (((0 : Int) ≤ x0) ∧ (x0 < ((x2.1 : Nat) : Int)))) (
    ocells sh_Access (List.take 3 (List.drop 0 (List.getD x2.2 (Int.toNat x0) []))) fun (t1 : T_Access) =>
    ocall (.m (.one .bool)) [] (laws_eqAccess t0 t1) fun (r2 : Bool) (m3 : Unit) =>
    oite (!r2)
      (some ((.d (.bool false)), [(.row 3 x1.1 false false x1.2), (.row 3 x2.1 false false x2.2)]))
      (laws_eqAccessS_oo_j1 (w64 (x0 + (1 : Int))) x1 x2))))
    (some ((.d (.bool true)), [(.row 3 x1.1 false false x1.2), (.row 3 x2.1 false false x2.2)])) := (evI_eq ..).trans (by kernel_rfl)
noncomputable def laws_markIntS_o_j1 (x0 : Int) (x1 : Int) (x2 : Sl) : Res := (fun (p : Env × Mem) => evI cx 87 1 1 p.1 p.2) ([(5, (.d (.int .i64 x0))), (1, (.d (.int .i64 x1))), (0, (.own 0))], [(.row 1 x2.1 false false x2.2)])
theorem laws_markIntS_o_eq (x0 : Int) (x1 : Sl) : laws_markIntS_o x0 x1 =
  laws_markIntS_o_j1 (0 : Int) x0 x1 := (evF_eq ..).trans (by kernel_rfl)
-- a loop's head
theorem laws_markIntS_o_j1_eq (x0 : Int) (x1 : Int) (x2 : Sl) : laws_markIntS_o_j1 x0 x1 x2 =
  oite (decide (x0 < ((x2.1 : Nat) : Int)))
    (oguard (decide (((0 : Int) ≤ x0) ∧ (x0 < ((x2.1 : Nat) : Int)))) (
    olet (List.set x2.2 (Int.toNat x0) (putD (List.getD x2.2 (Int.toNat x0) []) 0 [(D.int .i64 x1)])) fun (e0 : (List (List D))) =>
    laws_markIntS_o_j1 (w64 (x0 + (1 : Int))) (w64 (x1 + (1 : Int))) (x2.1, e0)))
    (some ((.d (.int .i64 x1)), [(.row 1 x2.1 false false x2.2)])) := (evI_eq ..).trans (by kernel_rfl)
noncomputable def laws_markAccessS_o_j1 (x0 : Int) (x1 : Int) (x2 : Sl) : Res := (fun (p : Env × Mem) => evI cx 88 1 1 p.1 p.2) ([(5, (.d (.int .i64 x0))), (0, (.own 0)), (1, (.d (.int .i64 x1)))], [(.row 3 x2.1 false false x2.2)])
theorem laws_markAccessS_o_eq (x0 : Int) (x1 : Sl) : laws_markAccessS_o x0 x1 =
  laws_markAccessS_o_j1 (0 : Int) x0 x1 := (evF_eq ..).trans (by kernel_rfl)
-- a loop's head
theorem laws_markAccessS_o_j1_eq (x0 : Int) (x1 : Int) (x2 : Sl) : laws_markAccessS_o_j1 x0 x1 x2 =
  oite (decide (x0 < ((x2.1 : Nat) : Int)))
    (oguard (decide (((0 : Int) ≤ x0) ∧ (x0 < ((x2.1 : Nat) : Int)))) (
    olet (List.set x2.2 (Int.toNat x0) (putD (List.getD x2.2 (Int.toNat x0) []) 0 [(D.int .i64 x1)])) fun (e0 : (List (List D))) =>
    oguard (decide (((0 : Int) ≤ x0) ∧ (x0 < ((x2.1 : Nat) : Int)))) (
    olet (List.set e0 (Int.toNat x0) (putD (List.getD e0 (Int.toNat x0) []) 1 [(D.int .i64 (w64 (x1 + (1 : Int))))])) fun (e1 : (List (List D))) =>
    oguard (decide (((0 : Int) ≤ x0) ∧ (x0 < ((x2.1 : Nat) : Int)))) (
    olet (List.set e1 (Int.toNat x0) (putD (List.getD e1 (Int.toNat x0) []) 2 [(D.int .i64 (w64 ((w64 (x1 + (1 : Int))) + (1 : Int))))])) fun (e2 : (List (List D))) =>
    laws_markAccessS_o_j1 (w64 (x0 + (1 : Int))) (w64 ((w64 ((w64 (x1 + (1 : Int))) + (1 : Int))) + (1 : Int))) (x2.1, e2)))))
    (some ((.d (.int .i64 x1)), [(.row 3 x2.1 false false x2.2)])) := (evI_eq ..).trans (by kernel_rfl)
noncomputable def laws_heldIntS_o_j1 (x0 : Int) (x1 : Int) (x2 : Sl) : Res := (fun (p : Env × Mem) => evI cx 89 1 1 p.1 p.2) ([(5, (.d (.int .i64 x0))), (1, (.d (.int .i64 x1))), (0, (.own 0))], [(.row 1 x2.1 false false x2.2)])
theorem laws_heldIntS_o_eq (x0 : Int) (x1 : Sl) : laws_heldIntS_o x0 x1 =
  laws_heldIntS_o_j1 (0 : Int) x0 x1 := (evF_eq ..).trans (by kernel_rfl)
-- a loop's head
theorem laws_heldIntS_o_j1_eq (x0 : Int) (x1 : Int) (x2 : Sl) : laws_heldIntS_o_j1 x0 x1 x2 =
  oite (decide (x0 < ((x2.1 : Nat) : Int)))
    (oguard (decide (((0 : Int) ≤ x0) ∧ (x0 < ((x2.1 : Nat) : Int)))) (
    ocells [(.int .i64)] (List.take 1 (List.drop 0 (List.getD x2.2 (Int.toNat x0) []))) fun (t0 : (Int × Unit)) =>
    oite (!(t0.1 == x1))
      (some ((.d (.int .i64 (-1 : Int))), [(.row 1 x2.1 false false x2.2)]))
      (laws_heldIntS_o_j1 (w64 (x0 + (1 : Int))) (w64 (x1 + (1 : Int))) x2)))
    (some ((.d (.int .i64 x1)), [(.row 1 x2.1 false false x2.2)])) := (evI_eq ..).trans (by kernel_rfl)
noncomputable def laws_heldAccessS_o_j1 (x0 : Int) (x1 : Int) (x2 : Sl) : Res := (fun (p : Env × Mem) => evI cx 90 1 1 p.1 p.2) ([(5, (.d (.int .i64 x0))), (0, (.own 0)), (1, (.d (.int .i64 x1)))], [(.row 3 x2.1 false false x2.2)])
theorem laws_heldAccessS_o_eq (x0 : Int) (x1 : Sl) : laws_heldAccessS_o x0 x1 =
  laws_heldAccessS_o_j1 (0 : Int) x0 x1 := (evF_eq ..).trans (by kernel_rfl)
-- a loop's head
theorem laws_heldAccessS_o_j1_eq (x0 : Int) (x1 : Int) (x2 : Sl) : laws_heldAccessS_o_j1 x0 x1 x2 =
  oite (decide (x0 < ((x2.1 : Nat) : Int)))
    (oguard (decide (((0 : Int) ≤ x0) ∧ (x0 < ((x2.1 : Nat) : Int)))) (
    ocells [(.int .i64)] (List.take 1 (List.drop 0 (List.getD x2.2 (Int.toNat x0) []))) fun (t0 : (Int × Unit)) =>
    oite (!(t0.1 == x1))
      (some ((.d (.int .i64 (-1 : Int))), [(.row 3 x2.1 false false x2.2)]))
      (oguard (decide (((0 : Int) ≤ x0) ∧ (x0 < ((x2.1 : Nat) : Int)))) (
      ocells [(.int .i64)] (List.take 1 (List.drop 1 (List.getD x2.2 (Int.toNat x0) []))) fun (t1 : (Int × Unit)) =>
      oite (!(t1.1 == (w64 (x1 + (1 : Int)))))
        (some ((.d (.int .i64 (-1 : Int))), [(.row 3 x2.1 false false x2.2)]))
        (oguard (decide (((0 : Int) ≤ x0) ∧ (x0 < ((x2.1 : Nat) : Int)))) (
        ocells [(.int .i64)] (List.take 1 (List.drop 2 (List.getD x2.2 (Int.toNat x0) []))) fun (t2 : (Int × Unit)) =>
        oite (!(t2.1 == (w64 ((w64 (x1 + (1 : Int))) + (1 : Int)))))
          (some ((.d (.int .i64 (-1 : Int))), [(.row 3 x2.1 false false x2.2)]))
          (laws_heldAccessS_o_j1 (w64 (x0 + (1 : Int))) (w64 ((w64 ((w64 (x1 + (1 : Int))) + (1 : Int))) + (1 : Int))) x2)))))))
    (some ((.d (.int .i64 x1)), [(.row 3 x2.1 false false x2.2)])) := (evI_eq ..).trans (by kernel_rfl)
theorem spec_l2load_eq (x0 : Int) (x1 : Int) (x2 : Int) (x3 : Int) (x4 : Int) (x5 : Sl) (x6 : Sl) : spec_l2load x0 x1 x2 x3 x4 x5 x6 =
  ocall (.m (.one .bool)) [(.box [(.own 1), (.int .i64), (.int .i64), (.int .i64), (.own 2)]), (.row 1 false false), (.row 3 false false)] (spec_l2in x0 x1 x2 x3 x4 x5 x6) fun (r0 : Bool) (m1 : ((Unit × (Int × (Int × (Int × (Unit × Unit))))) × (Sl × (Sl × Unit)))) =>
  oite (!r0)
    (some ((.tup [(.d (.int .i64 (0 : Int))), (.d (.bool false))]), [(.box [(.own 1), (.d (.int .i64 m1.1.2.1)), (.d (.int .i64 m1.1.2.2.1)), (.d (.int .i64 m1.1.2.2.2.1)), (.own 2)]), (.row 1 m1.2.1.1 false false m1.2.1.2), (.row 3 m1.2.2.1.1 false false m1.2.2.1.2)]))
    (ocall (.tup []) [(.box [(.own 1), (.int .i64), (.int .i64), (.int .i64), (.own 2)]), (.row 1 false false), (.row 3 false true)] (spec_l2log (w64 (x0 + x1)) m1.1.2.1 m1.1.2.2.1 m1.1.2.2.2.1 m1.2.1 m1.2.2.1) fun (r2 : Unit) (m3 : ((Unit × (Int × (Int × (Int × (Unit × Unit))))) × (Sl × (Sl × Unit)))) =>
    oguard (decide (((0 : Int) ≤ (w64 (x0 + x1))) ∧ ((w64 (x0 + x1)) < ((m3.2.1.1 : Nat) : Int)))) (
    ocells [(.int .i64)] (List.take 1 (List.drop 0 (List.getD m3.2.1.2 (Int.toNat (w64 (x0 + x1))) []))) fun (t4 : (Int × Unit)) =>
    some ((.tup [(.d (.int .i64 t4.1)), (.d (.bool true))]), [(.box [(.own 1), (.d (.int .i64 m3.1.2.1)), (.d (.int .i64 m3.1.2.2.1)), (.d (.int .i64 m3.1.2.2.2.1)), (.own 2)]), (.row 1 m3.2.1.1 false false m3.2.1.2), (.row 3 m3.2.2.1.1 false true m3.2.2.1.2)]))) := (evF_eq ..).trans (by kernel_rfl)
theorem impl_Heap_load_eq (x0 : Int) (x1 : Int) (x2 : Int) (x3 : Int) (x4 : Int) (x5 : Sl) (x6 : Sl) : impl_Heap_load x0 x1 x2 x3 x4 x5 x6 =
  ocall (.m (.one .bool)) [(.box [(.own 1), (.int .i64), (.int .i64), (.int .i64), (.own 2)]), (.row 1 false false), (.row 3 false true)] (impl_Heap_touch x0 x1 x2 x3 x4 x5 x6) fun (r0 : Bool) (m1 : ((Unit × (Int × (Int × (Int × (Unit × Unit))))) × (Sl × (Sl × Unit)))) =>
  oite (!r0)
    (some ((.tup [(.d (.int .i64 (0 : Int))), (.d (.bool false))]), [(.box [(.own 1), (.d (.int .i64 m1.1.2.1)), (.d (.int .i64 m1.1.2.2.1)), (.d (.int .i64 m1.1.2.2.2.1)), (.own 2)]), (.row 1 m1.2.1.1 false false m1.2.1.2), (.row 3 m1.2.2.1.1 false true m1.2.2.1.2)]))
    (oguard (decide (((0 : Int) ≤ (w64 (x0 + x1))) ∧ ((w64 (x0 + x1)) < ((m1.2.1.1 : Nat) : Int)))) (
    ocells [(.int .i64)] (List.take 1 (List.drop 0 (List.getD m1.2.1.2 (Int.toNat (w64 (x0 + x1))) []))) fun (t2 : (Int × Unit)) =>
    some ((.tup [(.d (.int .i64 t2.1)), (.d (.bool true))]), [(.box [(.own 1), (.d (.int .i64 m1.1.2.1)), (.d (.int .i64 m1.1.2.2.1)), (.d (.int .i64 m1.1.2.2.2.1)), (.own 2)]), (.row 1 m1.2.1.1 false false m1.2.1.2), (.row 3 m1.2.2.1.1 false true m1.2.2.1.2)]))) := (evF_eq ..).trans (by kernel_rfl)
theorem spec_l2store_eq (x0 : Int) (x1 : Int) (x2 : Int) (x3 : Int) (x4 : Int) (x5 : Int) (x6 : Sl) (x7 : Sl) : spec_l2store x0 x1 x2 x3 x4 x5 x6 x7 =
  ocall (.m (.one .bool)) [(.box [(.own 1), (.int .i64), (.int .i64), (.int .i64), (.own 2)]), (.row 1 false false), (.row 3 false false)] (spec_l2in x0 x1 x3 x4 x5 x6 x7) fun (r0 : Bool) (m1 : ((Unit × (Int × (Int × (Int × (Unit × Unit))))) × (Sl × (Sl × Unit)))) =>
  oite (!r0)
    (some ((.d (.bool false)), [(.box [(.own 1), (.d (.int .i64 m1.1.2.1)), (.d (.int .i64 m1.1.2.2.1)), (.d (.int .i64 m1.1.2.2.2.1)), (.own 2)]), (.row 1 m1.2.1.1 false false m1.2.1.2), (.row 3 m1.2.2.1.1 false false m1.2.2.1.2)]))
    (ocall (.tup []) [(.box [(.own 1), (.int .i64), (.int .i64), (.int .i64), (.own 2)]), (.row 1 false false), (.row 3 false true)] (spec_l2log (w64 (x0 + x1)) m1.1.2.1 m1.1.2.2.1 m1.1.2.2.2.1 m1.2.1 m1.2.2.1) fun (r2 : Unit) (m3 : ((Unit × (Int × (Int × (Int × (Unit × Unit))))) × (Sl × (Sl × Unit)))) =>
    oguard (decide (((0 : Int) ≤ (w64 (x0 + x1))) ∧ ((w64 (x0 + x1)) < ((m3.2.1.1 : Nat) : Int)))) (
    olet (List.set m3.2.1.2 (Int.toNat (w64 (x0 + x1))) (putD (List.getD m3.2.1.2 (Int.toNat (w64 (x0 + x1))) []) 0 [(D.int .i64 x2)])) fun (e4 : (List (List D))) =>
    some ((.d (.bool true)), [(.box [(.own 1), (.d (.int .i64 m3.1.2.1)), (.d (.int .i64 m3.1.2.2.1)), (.d (.int .i64 m3.1.2.2.2.1)), (.own 2)]), (.row 1 m3.2.1.1 false false e4), (.row 3 m3.2.2.1.1 false true m3.2.2.1.2)]))) := (evF_eq ..).trans (by kernel_rfl)
theorem impl_Heap_store_eq (x0 : Int) (x1 : Int) (x2 : Int) (x3 : Int) (x4 : Int) (x5 : Int) (x6 : Sl) (x7 : Sl) : impl_Heap_store x0 x1 x2 x3 x4 x5 x6 x7 =
  ocall (.m (.one .bool)) [(.box [(.own 1), (.int .i64), (.int .i64), (.int .i64), (.own 2)]), (.row 1 false false), (.row 3 false true)] (impl_Heap_touch x0 x1 x3 x4 x5 x6 x7) fun (r0 : Bool) (m1 : ((Unit × (Int × (Int × (Int × (Unit × Unit))))) × (Sl × (Sl × Unit)))) =>
  oite (!r0)
    (some ((.d (.bool false)), [(.box [(.own 1), (.d (.int .i64 m1.1.2.1)), (.d (.int .i64 m1.1.2.2.1)), (.d (.int .i64 m1.1.2.2.2.1)), (.own 2)]), (.row 1 m1.2.1.1 false false m1.2.1.2), (.row 3 m1.2.2.1.1 false true m1.2.2.1.2)]))
    (oguard (decide (((0 : Int) ≤ (w64 (x0 + x1))) ∧ ((w64 (x0 + x1)) < ((m1.2.1.1 : Nat) : Int)))) (
    olet (List.set m1.2.1.2 (Int.toNat (w64 (x0 + x1))) (putD (List.getD m1.2.1.2 (Int.toNat (w64 (x0 + x1))) []) 0 [(D.int .i64 x2)])) fun (e2 : (List (List D))) =>
    some ((.d (.bool true)), [(.box [(.own 1), (.d (.int .i64 m1.1.2.1)), (.d (.int .i64 m1.1.2.2.1)), (.d (.int .i64 m1.1.2.2.2.1)), (.own 2)]), (.row 1 m1.2.1.1 false false e2), (.row 3 m1.2.2.1.1 false true m1.2.2.1.2)]))) := (evF_eq ..).trans (by kernel_rfl)
theorem laws_toAccess_eq (x0 : T_Access) : laws_toAccess x0 =
  some ((.agg (LS.encs sh_Access x0)), []) := (evF_eq ..).trans (by kernel_rfl)
theorem impl_within_eq (x0 : Int) (x1 : Int) (x2 : Int) : impl_within x0 x1 x2 =
  oite (decide (x0 ≥ x1))
    (some ((.d (.bool (decide (x0 ≤ x2)))), []))
    (some ((.d (.bool false)), [])) := (evF_eq ..).trans (by kernel_rfl)
theorem slices_Clone_int_int_o_eq (x0 : Sl) : slices_Clone_int_int_o x0 =
  onil x0.1
    (some ((.own 1), [(.row 1 x0.1 false false x0.2), (.row 1 0 false false [])]))
    (oguard (decide ((x0.1 * 8) ≤ 140737488351232)) (
    some ((.own 1), [(.row 1 x0.1 false false x0.2), (.row 1 x0.1 false false x0.2)]))) := (evF_eq ..).trans (by kernel_rfl)
theorem slices_Clone_impl_Access_impl_Access_o_eq (x0 : Sl) : slices_Clone_impl_Access_impl_Access_o x0 =
  onil x0.1
    (some ((.own 1), [(.row 3 x0.1 false false x0.2), (.row 3 0 false false [])]))
    (oguard (decide ((x0.1 * 24) ≤ 140737488351232)) (
    some ((.own 1), [(.row 3 x0.1 false false x0.2), (.row 3 x0.1 false false x0.2)]))) := (evF_eq ..).trans (by kernel_rfl)
theorem impl_Heap_room_eq (x0 : Int) (x1 : Int) (x2 : Int) (x3 : Sl) (x4 : Sl) : impl_Heap_room x0 x1 x2 x3 x4 =
  some ((.d (.int .i64 (w64 ((w64 (x1 + x0)) - x2)))), [(.box [(.own 1), (.d (.int .i64 x0)), (.d (.int .i64 x1)), (.d (.int .i64 x2)), (.own 2)]), (.row 1 x3.1 false false x3.2), (.row 3 x4.1 false false x4.2)]) := (evF_eq ..).trans (by kernel_rfl)
theorem laws_eqAccess_eq (x0 : T_Access) (x1 : T_Access) : laws_eqAccess x0 x1 =
  oite (!(x0.1 == x1.1))
    (some ((.d (.bool false)), []))
    (oite (!(x0.2.1 == x1.2.1))
      (some ((.d (.bool false)), []))
      (oite (!(x0.2.2.1 == x1.2.2.1))
        (some ((.d (.bool false)), []))
        (some ((.d (.bool true)), [])))) := (evF_eq ..).trans (by kernel_rfl)
theorem spec_l2in_eq (x0 : Int) (x1 : Int) (x2 : Int) (x3 : Int) (x4 : Int) (x5 : Sl) (x6 : Sl) : spec_l2in x0 x1 x2 x3 x4 x5 x6 =
  oite (decide (x0 ≥ x3))
    (oite (decide (x0 < x4))
      (oite (decide (x1 ≥ (0 : Int)))
        (some ((.d (.bool (decide (x1 < (w64 (x4 - x0)))))), [(.box [(.own 1), (.d (.int .i64 x2)), (.d (.int .i64 x3)), (.d (.int .i64 x4)), (.own 2)]), (.row 1 x5.1 false false x5.2), (.row 3 x6.1 false false x6.2)]))
        (some ((.d (.bool false)), [(.box [(.own 1), (.d (.int .i64 x2)), (.d (.int .i64 x3)), (.d (.int .i64 x4)), (.own 2)]), (.row 1 x5.1 false false x5.2), (.row 3 x6.1 false false x6.2)])))
      (some ((.d (.bool false)), [(.box [(.own 1), (.d (.int .i64 x2)), (.d (.int .i64 x3)), (.d (.int .i64 x4)), (.own 2)]), (.row 1 x5.1 false false x5.2), (.row 3 x6.1 false false x6.2)])))
    (some ((.d (.bool false)), [(.box [(.own 1), (.d (.int .i64 x2)), (.d (.int .i64 x3)), (.d (.int .i64 x4)), (.own 2)]), (.row 1 x5.1 false false x5.2), (.row 3 x6.1 false false x6.2)])) := (evF_eq ..).trans (by kernel_rfl)
noncomputable def spec_l2log_j1 (x0 : Int) (x1 : Int) (x2 : Int) (x3 : Int) (x4 : Nat) (x5 : Nat) (x6 : Sl) (x7 : Sl) : Res := (fun (p : Env × Mem) => evI cx 141 3 1 p.1 p.2) ([(0, (.ptr 0 0)), (1, (.d (.int .i64 x0)))], [(.box [(.own 1), (.d (.int .i64 x1)), (.d (.int .i64 x2)), (.d (.int .i64 x3)), (.ref 2 x4 x5)]), (.row 1 x6.1 false false x6.2), (.row 3 x7.1 false false x7.2)])
noncomputable def spec_l2log_j1v1 (x0 : Int) (x1 : Int) (x2 : Int) (x3 : Int) (x4 : Sl) (x5 : Sl) : Res := (fun (p : Env × Mem) => evI cx 141 3 1 p.1 p.2) ([(0, (.ptr 0 0)), (1, (.d (.int .i64 x0)))], [(.box [(.own 1), (.d (.int .i64 x1)), (.d (.int .i64 x2)), (.d (.int .i64 x3)), (.own 2)]), (.row 1 x4.1 false false x4.2), (.row 3 x5.1 false false x5.2)])
theorem spec_l2log_eq (x0 : Int) (x1 : Int) (x2 : Int) (x3 : Int) (x4 : Sl) (x5 : Sl) : spec_l2log x0 x1 x2 x3 x4 x5 =
  oite (((x5.1 : Nat) : Int) == (4000 : Int))
    (oguard (decide (((0 : Int) ≤ (1 : Int)) ∧ ((1 : Int) ≤ ((x5.1 : Nat) : Int)))) (
    spec_l2log_j1 x0 x1 x2 x3 1 (x5.1 - 1) x4 x5))
    (spec_l2log_j1v1 x0 x1 x2 x3 x4 x5) := (evF_eq ..).trans (by kernel_rfl)
theorem spec_l2log_j1_eq (x0 : Int) (x1 : Int) (x2 : Int) (x3 : Int) (x4 : Nat) (x5 : Nat) (x6 : Sl) (x7 : Sl) : spec_l2log_j1 x0 x1 x2 x3 x4 x5 x6 x7 =
  oguard ((decide (((x5 + 1) * 24) ≤ 140737488351232)) && (true || (decide ((x4 + x5) = x7.1)))) (
  olet ((List.take x5 (List.drop x4 x7.2)) ++ ((vDs (LS.encs sh_Access (x0, x2, x3, ()))) :: [])) fun (e0 : (List (List D))) =>
  some ((.tup []), [(.box [(.own 1), (.d (.int .i64 x1)), (.d (.int .i64 x2)), (.d (.int .i64 x3)), (.own 2)]), (.row 1 x6.1 false false x6.2), (.row 3 (x5 + 1) false true e0)])) := (evI_eq ..).trans (by kernel_rfl)
theorem spec_l2log_j1v1_eq (x0 : Int) (x1 : Int) (x2 : Int) (x3 : Int) (x4 : Sl) (x5 : Sl) : spec_l2log_j1v1 x0 x1 x2 x3 x4 x5 =
  oguard (decide (((x5.1 + 1) * 24) ≤ 140737488351232)) (
  olet (x5.2 ++ ((vDs (LS.encs sh_Access (x0, x2, x3, ()))) :: [])) fun (e1 : (List (List D))) =>
  some ((.tup []), [(.box [(.own 1), (.d (.int .i64 x1)), (.d (.int .i64 x2)), (.d (.int .i64 x3)), (.own 2)]), (.row 1 x4.1 false false x4.2), (.row 3 (x5.1 + 1) false true e1)])) := (evI_eq ..).trans (by kernel_rfl)
noncomputable def impl_Heap_touch_j2 (x0 : Int) (x1 : Int) (x2 : Bool) (x3 : Int) (x4 : Int) (x5 : Int) (x6 : Sl) (x7 : Sl) : Res := (fun (p : Env × Mem) => evI cx 142 3 2 p.1 p.2) ([(0, (.ptr 0 0)), (2, (.d (.int .i64 x0))), (1, (.d (.int .i64 x1))), (24, (.d (.bool x2)))], [(.box [(.own 1), (.d (.int .i64 x3)), (.d (.int .i64 x4)), (.d (.int .i64 x5)), (.own 2)]), (.row 1 x6.1 false false x6.2), (.row 3 x7.1 false false x7.2)])
noncomputable def impl_Heap_touch_j1 (x0 : Int) (x1 : Int) (x2 : Int) (x3 : Int) (x4 : Int) (x5 : Sl) (x6 : Sl) : Res := (fun (p : Env × Mem) => evI cx 142 3 1 p.1 p.2) ([(0, (.ptr 0 0)), (2, (.d (.int .i64 x0))), (1, (.d (.int .i64 x1)))], [(.box [(.own 1), (.d (.int .i64 x2)), (.d (.int .i64 x3)), (.d (.int .i64 x4)), (.own 2)]), (.row 1 x5.1 false false x5.2), (.row 3 x6.1 false false x6.2)])
noncomputable def impl_Heap_touch_j3 (x0 : Int) (x1 : Int) (x2 : Int) (x3 : Int) (x4 : Int) (x5 : Nat) (x6 : Nat) (x7 : Sl) (x8 : Sl) : Res := (fun (p : Env × Mem) => evI cx 142 3 3 p.1 p.2) ([(0, (.ptr 0 0)), (2, (.d (.int .i64 x0))), (1, (.d (.int .i64 x1)))], [(.box [(.own 1), (.d (.int .i64 x2)), (.d (.int .i64 x3)), (.d (.int .i64 x4)), (.ref 2 x5 x6)]), (.row 1 x7.1 false false x7.2), (.row 3 x8.1 false false x8.2)])
noncomputable def impl_Heap_touch_j3v1 (x0 : Int) (x1 : Int) (x2 : Int) (x3 : Int) (x4 : Int) (x5 : Sl) (x6 : Sl) : Res := (fun (p : Env × Mem) => evI cx 142 3 3 p.1 p.2) ([(0, (.ptr 0 0)), (2, (.d (.int .i64 x0))), (1, (.d (.int .i64 x1)))], [(.box [(.own 1), (.d (.int .i64 x2)), (.d (.int .i64 x3)), (.d (.int .i64 x4)), (.own 2)]), (.row 1 x5.1 false false x5.2), (.row 3 x6.1 false false x6.2)])
theorem impl_Heap_touch_eq (x0 : Int) (x1 : Int) (x2 : Int) (x3 : Int) (x4 : Int) (x5 : Sl) (x6 : Sl) : impl_Heap_touch x0 x1 x2 x3 x4 x5 x6 =
  ocall (.m (.one .bool)) [(.box [(.own 1), (.int .i64), (.int .i64), (.int .i64), (.own 2)]), (.row 1 false false), (.row 3 false false)] (impl_Heap_taken x0 x2 x3 x4 x5 x6) fun (r0 : Bool) (m1 : ((Unit × (Int × (Int × (Int × (Unit × Unit))))) × (Sl × (Sl × Unit)))) =>
  oite (!r0)
    (impl_Heap_touch_j2 x1 x0 true m1.1.2.1 m1.1.2.2.1 m1.1.2.2.2.1 m1.2.1 m1.2.2.1)
    (oite (decide (x1 < (0 : Int)))
      (impl_Heap_touch_j2 x1 x0 true m1.1.2.1 m1.1.2.2.1 m1.1.2.2.2.1 m1.2.1 m1.2.2.1)
      (impl_Heap_touch_j2 x1 x0 (decide (x1 ≥ (w64 (m1.1.2.2.2.1 - x0)))) m1.1.2.1 m1.1.2.2.1 m1.1.2.2.2.1 m1.2.1 m1.2.2.1)) := (evF_eq ..).trans (by kernel_rfl)
theorem impl_Heap_touch_j2_eq (x0 : Int) (x1 : Int) (x2 : Bool) (x3 : Int) (x4 : Int) (x5 : Int) (x6 : Sl) (x7 : Sl) : impl_Heap_touch_j2 x0 x1 x2 x3 x4 x5 x6 x7 =
  oite x2
    (some ((.d (.bool false)), [(.box [(.own 1), (.d (.int .i64 x3)), (.d (.int .i64 x4)), (.d (.int .i64 x5)), (.own 2)]), (.row 1 x6.1 false false x6.2), (.row 3 x7.1 false false x7.2)]))
    (impl_Heap_touch_j1 x0 x1 x3 x4 x5 x6 x7) := (evI_eq ..).trans (by kernel_rfl)
theorem impl_Heap_touch_j1_eq (x0 : Int) (x1 : Int) (x2 : Int) (x3 : Int) (x4 : Int) (x5 : Sl) (x6 : Sl) : impl_Heap_touch_j1 x0 x1 x2 x3 x4 x5 x6 =
  oite (((x6.1 : Nat) : Int) == (4000 : Int))
    (oguard (decide (((0 : Int) ≤ (1 : Int)) ∧ ((1 : Int) ≤ ((x6.1 : Nat) : Int)))) (
    impl_Heap_touch_j3 x0 x1 x2 x3 x4 1 (x6.1 - 1) x5 x6))
    (impl_Heap_touch_j3v1 x0 x1 x2 x3 x4 x5 x6) := (evI_eq ..).trans (by kernel_rfl)
theorem impl_Heap_touch_j3_eq (x0 : Int) (x1 : Int) (x2 : Int) (x3 : Int) (x4 : Int) (x5 : Nat) (x6 : Nat) (x7 : Sl) (x8 : Sl) : impl_Heap_touch_j3 x0 x1 x2 x3 x4 x5 x6 x7 x8 =
  oguard ((decide (((x6 + 1) * 24) ≤ 140737488351232)) && (true || (decide ((x5 + x6) = x8.1)))) (
  olet ((List.take x6 (List.drop x5 x8.2)) ++ ((vDs (LS.encs sh_Access ((w64 (x1 + x0)), x3, x4, ()))) :: [])) fun (e2 : (List (List D))) =>
  some ((.d (.bool true)), [(.box [(.own 1), (.d (.int .i64 x2)), (.d (.int .i64 x3)), (.d (.int .i64 x4)), (.own 2)]), (.row 1 x7.1 false false x7.2), (.row 3 (x6 + 1) false true e2)])) := (evI_eq ..).trans (by kernel_rfl)
theorem impl_Heap_touch_j3v1_eq (x0 : Int) (x1 : Int) (x2 : Int) (x3 : Int) (x4 : Int) (x5 : Sl) (x6 : Sl) : impl_Heap_touch_j3v1 x0 x1 x2 x3 x4 x5 x6 =
  oguard (decide (((x6.1 + 1) * 24) ≤ 140737488351232)) (
  olet (x6.2 ++ ((vDs (LS.encs sh_Access ((w64 (x1 + x0)), x3, x4, ()))) :: [])) fun (e3 : (List (List D))) =>
  some ((.d (.bool true)), [(.box [(.own 1), (.d (.int .i64 x2)), (.d (.int .i64 x3)), (.d (.int .i64 x4)), (.own 2)]), (.row 1 x5.1 false false x5.2), (.row 3 (x6.1 + 1) false true e3)])) := (evI_eq ..).trans (by kernel_rfl)
theorem impl_Heap_taken_eq (x0 : Int) (x1 : Int) (x2 : Int) (x3 : Int) (x4 : Sl) (x5 : Sl) : impl_Heap_taken x0 x1 x2 x3 x4 x5 =
  ocall (.m (.one .bool)) [] (impl_within x0 x2 (w64 (x3 - (1 : Int)))) fun (r0 : Bool) (m1 : Unit) =>
  some ((.d (.bool r0)), [(.box [(.own 1), (.d (.int .i64 x1)), (.d (.int .i64 x2)), (.d (.int .i64 x3)), (.own 2)]), (.row 1 x4.1 false false x4.2), (.row 3 x5.1 false false x5.2)]) := (evF_eq ..).trans (by kernel_rfl)
theorem ty29 : TIok Try.prog 29 ⟨13, 184, true, (.st [(0, 3), (1, 3), (2, 3), (3, 3), (4, 22), (5, 25), (8, 25), (11, 26), (12, 27)]), [.d (.int .i64 0), .d (.int .i64 0), .d (.int .i64 0), .d (.int .i64 0), .d (.sl true 1 0 []), .d (.int .i64 0), .d (.int .i64 0), .d (.sl true 3 0 []), .d (.int .i64 0), .d (.int .i64 0), .d (.sl true 3 0 []), .d (.sl true 13 0 []), .d (.sl true 15 0 [])], [.int .i64, .int .i64, .int .i64, .int .i64, .sl 1, .int .i64, .int .i64, .sl 3, .int .i64, .int .i64, .sl 3, .sl 13, .sl 15]⟩ := ⟨Try.sizeOf29, Try.isAgg29, ⟨_, Try.runUnderlying29, rfl, f_cons Try.sizeOf3 (f_cons Try.sizeOf3 (f_cons Try.sizeOf3 (f_cons Try.sizeOf3 (f_cons Try.sizeOf22 (f_cons Try.sizeOf25 (f_cons Try.sizeOf25 (f_cons Try.sizeOf26 (f_cons Try.sizeOf27 (f_end)))))))))⟩, ⟨_, Try.typeInfo29, rfl⟩, by decide, by decide, ⟨_, Try.zeroValue29, rfl, fun w C ι => z_cons z_int (z_cons z_int (z_cons z_int (z_cons z_int (z_cons z_nil (z_cons z_int (z_cons z_int (z_cons z_nil (z_cons z_int (z_cons z_int (z_cons z_nil (z_cons z_nil (z_cons z_nil (z_end)))))))))))))⟩⟩
theorem ty3 : TIok Try.prog 3 ⟨1, 8, false, (.int .i64), [.d (.int .i64 0)], [.int .i64]⟩ := ⟨Try.sizeOf3, Try.isAgg3, Try.runUnderlying3, ⟨_, Try.typeInfo3, rfl⟩, by decide, by decide, ⟨_, Try.zeroValue3, rfl, fun w C ι => z_cons z_int (z_end)⟩⟩
theorem ty22 : TIok Try.prog 22 ⟨1, 24, false, (.sl 5), [.d (.sl true 1 0 [])], [.sl 1]⟩ := ⟨Try.sizeOf22, Try.isAgg22, Try.runUnderlying22, ⟨_, Try.typeInfo22, rfl⟩, by decide, by decide, ⟨_, Try.zeroValue22, rfl, fun w C ι => z_cons z_nil (z_end)⟩⟩
theorem ty5 : TIok Try.prog 5 ⟨1, 1, false, (.int .u8), [.d (.int .u8 0)], [.int .u8]⟩ := ⟨Try.sizeOf5, Try.isAgg5, Try.runUnderlying5, ⟨_, Try.typeInfo5, rfl⟩, by decide, by decide, ⟨_, Try.zeroValue5, rfl, fun w C ι => z_cons z_int (z_end)⟩⟩
theorem ty25 : TIok Try.prog 25 ⟨3, 40, true, (.st [(0, 3), (1, 3), (2, 23)]), [.d (.int .i64 0), .d (.int .i64 0), .d (.sl true 3 0 [])], [.int .i64, .int .i64, .sl 3]⟩ := ⟨Try.sizeOf25, Try.isAgg25, ⟨_, Try.runUnderlying25, rfl, f_cons Try.sizeOf3 (f_cons Try.sizeOf3 (f_cons Try.sizeOf23 (f_end)))⟩, ⟨_, Try.typeInfo25, rfl⟩, by decide, by decide, ⟨_, Try.zeroValue25, rfl, fun w C ι => z_cons z_int (z_cons z_int (z_cons z_nil (z_end)))⟩⟩
theorem ty23 : TIok Try.prog 23 ⟨1, 24, false, (.sl 25), [.d (.sl true 3 0 [])], [.sl 3]⟩ := ⟨Try.sizeOf23, Try.isAgg23, Try.runUnderlying23, ⟨_, Try.typeInfo23, rfl⟩, by decide, by decide, ⟨_, Try.zeroValue23, rfl, fun w C ι => z_cons z_nil (z_end)⟩⟩
theorem ty26 : TIok Try.prog 26 ⟨1, 24, false, (.sl 29), [.d (.sl true 13 0 [])], [.sl 13]⟩ := ⟨Try.sizeOf26, Try.isAgg26, Try.runUnderlying26, ⟨_, Try.typeInfo26, rfl⟩, by decide, by decide, ⟨_, Try.zeroValue26, rfl, fun w C ι => z_cons z_nil (z_end)⟩⟩
theorem ty27 : TIok Try.prog 27 ⟨1, 24, false, (.sl 165), [.d (.sl true 15 0 [])], [.sl 15]⟩ := ⟨Try.sizeOf27, Try.isAgg27, Try.runUnderlying27, ⟨_, Try.typeInfo27, rfl⟩, by decide, by decide, ⟨_, Try.zeroValue27, rfl, fun w C ι => z_cons z_nil (z_end)⟩⟩
theorem ty165 : TIok Try.prog 165 ⟨15, 216, true, (.st [(0, 3), (1, 42), (2, 29)]), [.d (.int .i64 0), .d (.sl true 1 0 []), .d (.int .i64 0), .d (.int .i64 0), .d (.int .i64 0), .d (.int .i64 0), .d (.sl true 1 0 []), .d (.int .i64 0), .d (.int .i64 0), .d (.sl true 3 0 []), .d (.int .i64 0), .d (.int .i64 0), .d (.sl true 3 0 []), .d (.sl true 13 0 []), .d (.sl true 15 0 [])], [.int .i64, .sl 1, .int .i64, .int .i64, .int .i64, .int .i64, .sl 1, .int .i64, .int .i64, .sl 3, .int .i64, .int .i64, .sl 3, .sl 13, .sl 15]⟩ := ⟨Try.sizeOf165, Try.isAgg165, ⟨_, Try.runUnderlying165, rfl, f_cons Try.sizeOf3 (f_cons Try.sizeOf42 (f_cons Try.sizeOf29 (f_end)))⟩, ⟨_, Try.typeInfo165, rfl⟩, by decide, by decide, ⟨_, Try.zeroValue165, rfl, fun w C ι => z_cons z_int (z_cons z_nil (z_cons z_int (z_cons z_int (z_cons z_int (z_cons z_int (z_cons z_nil (z_cons z_int (z_cons z_int (z_cons z_nil (z_cons z_int (z_cons z_int (z_cons z_nil (z_cons z_nil (z_cons z_nil (z_end)))))))))))))))⟩⟩
theorem ty42 : TIok Try.prog 42 ⟨1, 24, false, (.sl 3), [.d (.sl true 1 0 [])], [.sl 1]⟩ := ⟨Try.sizeOf42, Try.isAgg42, Try.runUnderlying42, ⟨_, Try.typeInfo42, rfl⟩, by decide, by decide, ⟨_, Try.zeroValue42, rfl, fun w C ι => z_cons z_nil (z_end)⟩⟩
theorem ty4 : TIok Try.prog 4 ⟨1, 1, false, .bool, [.d (.bool false)], [.bool]⟩ := ⟨Try.sizeOf4, Try.isAgg4, Try.runUnderlying4, ⟨_, Try.typeInfo4, rfl⟩, by decide, by decide, ⟨_, Try.zeroValue4, rfl, fun w C ι => z_cons z_bool (z_end)⟩⟩
theorem ty38 : TIok Try.prog 38 ⟨13, 184, true, (.st [(0, 3), (1, 3), (2, 3), (3, 3), (4, 22), (5, 34), (8, 34), (11, 35), (12, 36)]), [.d (.int .i64 0), .d (.int .i64 0), .d (.int .i64 0), .d (.int .i64 0), .d (.sl true 1 0 []), .d (.int .i64 0), .d (.int .i64 0), .d (.sl true 3 0 []), .d (.int .i64 0), .d (.int .i64 0), .d (.sl true 3 0 []), .d (.sl true 13 0 []), .d (.sl true 15 0 [])], [.int .i64, .int .i64, .int .i64, .int .i64, .sl 1, .int .i64, .int .i64, .sl 3, .int .i64, .int .i64, .sl 3, .sl 13, .sl 15]⟩ := ⟨Try.sizeOf38, Try.isAgg38, ⟨_, Try.runUnderlying38, rfl, f_cons Try.sizeOf3 (f_cons Try.sizeOf3 (f_cons Try.sizeOf3 (f_cons Try.sizeOf3 (f_cons Try.sizeOf22 (f_cons Try.sizeOf34 (f_cons Try.sizeOf34 (f_cons Try.sizeOf35 (f_cons Try.sizeOf36 (f_end)))))))))⟩, ⟨_, Try.typeInfo38, rfl⟩, by decide, by decide, ⟨_, Try.zeroValue38, rfl, fun w C ι => z_cons z_int (z_cons z_int (z_cons z_int (z_cons z_int (z_cons z_nil (z_cons z_int (z_cons z_int (z_cons z_nil (z_cons z_int (z_cons z_int (z_cons z_nil (z_cons z_nil (z_cons z_nil (z_end)))))))))))))⟩⟩
theorem ty34 : TIok Try.prog 34 ⟨3, 40, true, (.st [(0, 3), (1, 3), (2, 32)]), [.d (.int .i64 0), .d (.int .i64 0), .d (.sl true 3 0 [])], [.int .i64, .int .i64, .sl 3]⟩ := ⟨Try.sizeOf34, Try.isAgg34, ⟨_, Try.runUnderlying34, rfl, f_cons Try.sizeOf3 (f_cons Try.sizeOf3 (f_cons Try.sizeOf32 (f_end)))⟩, ⟨_, Try.typeInfo34, rfl⟩, by decide, by decide, ⟨_, Try.zeroValue34, rfl, fun w C ι => z_cons z_int (z_cons z_int (z_cons z_nil (z_end)))⟩⟩
theorem ty32 : TIok Try.prog 32 ⟨1, 24, false, (.sl 34), [.d (.sl true 3 0 [])], [.sl 3]⟩ := ⟨Try.sizeOf32, Try.isAgg32, Try.runUnderlying32, ⟨_, Try.typeInfo32, rfl⟩, by decide, by decide, ⟨_, Try.zeroValue32, rfl, fun w C ι => z_cons z_nil (z_end)⟩⟩
theorem ty35 : TIok Try.prog 35 ⟨1, 24, false, (.sl 38), [.d (.sl true 13 0 [])], [.sl 13]⟩ := ⟨Try.sizeOf35, Try.isAgg35, Try.runUnderlying35, ⟨_, Try.typeInfo35, rfl⟩, by decide, by decide, ⟨_, Try.zeroValue35, rfl, fun w C ι => z_cons z_nil (z_end)⟩⟩
theorem ty36 : TIok Try.prog 36 ⟨1, 24, false, (.sl 169), [.d (.sl true 15 0 [])], [.sl 15]⟩ := ⟨Try.sizeOf36, Try.isAgg36, Try.runUnderlying36, ⟨_, Try.typeInfo36, rfl⟩, by decide, by decide, ⟨_, Try.zeroValue36, rfl, fun w C ι => z_cons z_nil (z_end)⟩⟩
theorem ty169 : TIok Try.prog 169 ⟨15, 216, true, (.st [(0, 3), (1, 42), (2, 38)]), [.d (.int .i64 0), .d (.sl true 1 0 []), .d (.int .i64 0), .d (.int .i64 0), .d (.int .i64 0), .d (.int .i64 0), .d (.sl true 1 0 []), .d (.int .i64 0), .d (.int .i64 0), .d (.sl true 3 0 []), .d (.int .i64 0), .d (.int .i64 0), .d (.sl true 3 0 []), .d (.sl true 13 0 []), .d (.sl true 15 0 [])], [.int .i64, .sl 1, .int .i64, .int .i64, .int .i64, .int .i64, .sl 1, .int .i64, .int .i64, .sl 3, .int .i64, .int .i64, .sl 3, .sl 13, .sl 15]⟩ := ⟨Try.sizeOf169, Try.isAgg169, ⟨_, Try.runUnderlying169, rfl, f_cons Try.sizeOf3 (f_cons Try.sizeOf42 (f_cons Try.sizeOf38 (f_end)))⟩, ⟨_, Try.typeInfo169, rfl⟩, by decide, by decide, ⟨_, Try.zeroValue169, rfl, fun w C ι => z_cons z_int (z_cons z_nil (z_cons z_int (z_cons z_int (z_cons z_int (z_cons z_int (z_cons z_nil (z_cons z_int (z_cons z_int (z_cons z_nil (z_cons z_int (z_cons z_int (z_cons z_nil (z_cons z_nil (z_cons z_nil (z_end)))))))))))))))⟩⟩
theorem ty45 : TIok Try.prog 45 ⟨5, 72, true, (.st [(0, 42), (1, 3), (2, 3), (3, 3), (4, 43)]), [.d (.sl true 1 0 []), .d (.int .i64 0), .d (.int .i64 0), .d (.int .i64 0), .d (.sl true 3 0 [])], [.sl 1, .int .i64, .int .i64, .int .i64, .sl 3]⟩ := ⟨Try.sizeOf45, Try.isAgg45, ⟨_, Try.runUnderlying45, rfl, f_cons Try.sizeOf42 (f_cons Try.sizeOf3 (f_cons Try.sizeOf3 (f_cons Try.sizeOf3 (f_cons Try.sizeOf43 (f_end)))))⟩, ⟨_, Try.typeInfo45, rfl⟩, by decide, by decide, ⟨_, Try.zeroValue45, rfl, fun w C ι => z_cons z_nil (z_cons z_int (z_cons z_int (z_cons z_int (z_cons z_nil (z_end)))))⟩⟩
theorem ty43 : TIok Try.prog 43 ⟨1, 24, false, (.sl 175), [.d (.sl true 3 0 [])], [.sl 3]⟩ := ⟨Try.sizeOf43, Try.isAgg43, Try.runUnderlying43, ⟨_, Try.typeInfo43, rfl⟩, by decide, by decide, ⟨_, Try.zeroValue43, rfl, fun w C ι => z_cons z_nil (z_end)⟩⟩
theorem ty175 : TIok Try.prog 175 ⟨3, 24, true, (.st [(0, 3), (1, 3), (2, 3)]), [.d (.int .i64 0), .d (.int .i64 0), .d (.int .i64 0)], [.int .i64, .int .i64, .int .i64]⟩ := ⟨Try.sizeOf175, Try.isAgg175, ⟨_, Try.runUnderlying175, rfl, f_cons Try.sizeOf3 (f_cons Try.sizeOf3 (f_cons Try.sizeOf3 (f_end)))⟩, ⟨_, Try.typeInfo175, rfl⟩, by decide, by decide, ⟨_, Try.zeroValue175, rfl, fun w C ι => z_cons z_int (z_cons z_int (z_cons z_int (z_end)))⟩⟩
theorem ty49 : TIok Try.prog 49 ⟨5, 72, true, (.st [(0, 42), (1, 3), (2, 3), (3, 3), (4, 47)]), [.d (.sl true 1 0 []), .d (.int .i64 0), .d (.int .i64 0), .d (.int .i64 0), .d (.sl true 3 0 [])], [.sl 1, .int .i64, .int .i64, .int .i64, .sl 3]⟩ := ⟨Try.sizeOf49, Try.isAgg49, ⟨_, Try.runUnderlying49, rfl, f_cons Try.sizeOf42 (f_cons Try.sizeOf3 (f_cons Try.sizeOf3 (f_cons Try.sizeOf3 (f_cons Try.sizeOf47 (f_end)))))⟩, ⟨_, Try.typeInfo49, rfl⟩, by decide, by decide, ⟨_, Try.zeroValue49, rfl, fun w C ι => z_cons z_nil (z_cons z_int (z_cons z_int (z_cons z_int (z_cons z_nil (z_end)))))⟩⟩
theorem ty47 : TIok Try.prog 47 ⟨1, 24, false, (.sl 173), [.d (.sl true 3 0 [])], [.sl 3]⟩ := ⟨Try.sizeOf47, Try.isAgg47, Try.runUnderlying47, ⟨_, Try.typeInfo47, rfl⟩, by decide, by decide, ⟨_, Try.zeroValue47, rfl, fun w C ι => z_cons z_nil (z_end)⟩⟩
theorem ty173 : TIok Try.prog 173 ⟨3, 24, true, (.st [(0, 3), (1, 3), (2, 3)]), [.d (.int .i64 0), .d (.int .i64 0), .d (.int .i64 0)], [.int .i64, .int .i64, .int .i64]⟩ := ⟨Try.sizeOf173, Try.isAgg173, ⟨_, Try.runUnderlying173, rfl, f_cons Try.sizeOf3 (f_cons Try.sizeOf3 (f_cons Try.sizeOf3 (f_end)))⟩, ⟨_, Try.typeInfo173, rfl⟩, by decide, by decide, ⟨_, Try.zeroValue173, rfl, fun w C ι => z_cons z_int (z_cons z_int (z_cons z_int (z_end)))⟩⟩
theorem ty78 : TIok Try.prog 78 ⟨1, 24, false, (.sl 139), [.d (.sl true 4 0 [])], [.sl 4]⟩ := ⟨Try.sizeOf78, Try.isAgg78, Try.runUnderlying78, ⟨_, Try.typeInfo78, rfl⟩, by decide, by decide, ⟨_, Try.zeroValue78, rfl, fun w C ι => z_cons z_nil (z_end)⟩⟩
theorem ty139 : TIok Try.prog 139 ⟨4, 48, true, (.st [(0, 3), (1, 25)]), [.d (.int .i64 0), .d (.int .i64 0), .d (.int .i64 0), .d (.sl true 3 0 [])], [.int .i64, .int .i64, .int .i64, .sl 3]⟩ := ⟨Try.sizeOf139, Try.isAgg139, ⟨_, Try.runUnderlying139, rfl, f_cons Try.sizeOf3 (f_cons Try.sizeOf25 (f_end))⟩, ⟨_, Try.typeInfo139, rfl⟩, by decide, by decide, ⟨_, Try.zeroValue139, rfl, fun w C ι => z_cons z_int (z_cons z_int (z_cons z_int (z_cons z_nil (z_end))))⟩⟩
theorem ty81 : TIok Try.prog 81 ⟨1, 24, false, (.sl 99), [.d (.sl true 4 0 [])], [.sl 4]⟩ := ⟨Try.sizeOf81, Try.isAgg81, Try.runUnderlying81, ⟨_, Try.typeInfo81, rfl⟩, by decide, by decide, ⟨_, Try.zeroValue81, rfl, fun w C ι => z_cons z_nil (z_end)⟩⟩
theorem ty99 : TIok Try.prog 99 ⟨4, 48, true, (.st [(0, 3), (1, 34)]), [.d (.int .i64 0), .d (.int .i64 0), .d (.int .i64 0), .d (.sl true 3 0 [])], [.int .i64, .int .i64, .int .i64, .sl 3]⟩ := ⟨Try.sizeOf99, Try.isAgg99, ⟨_, Try.runUnderlying99, rfl, f_cons Try.sizeOf3 (f_cons Try.sizeOf34 (f_end))⟩, ⟨_, Try.typeInfo99, rfl⟩, by decide, by decide, ⟨_, Try.zeroValue99, rfl, fun w C ι => z_cons z_int (z_cons z_int (z_cons z_int (z_cons z_nil (z_end))))⟩⟩
theorem ty106 : TIok Try.prog 106 ⟨1, 8, false, .other, [.undef], [.undef]⟩ := ⟨Try.sizeOf106, Try.isAgg106, trivial, ⟨_, Try.typeInfo106, rfl⟩, by decide, by decide, ⟨_, Try.zeroValue106, rfl, fun w C ι => z_cons z_un (z_end)⟩⟩
theorem ty115 : TIok Try.prog 115 ⟨1, 8, false, .other, [.undef], [.undef]⟩ := ⟨Try.sizeOf115, Try.isAgg115, trivial, ⟨_, Try.typeInfo115, rfl⟩, by decide, by decide, ⟨_, Try.zeroValue115, rfl, fun w C ι => z_cons z_un (z_end)⟩⟩
theorem ty126 : TIok Try.prog 126 ⟨1, 8, false, .other, [.undef], [.undef]⟩ := ⟨Try.sizeOf126, Try.isAgg126, trivial, ⟨_, Try.typeInfo126, rfl⟩, by decide, by decide, ⟨_, Try.zeroValue126, rfl, fun w C ι => z_cons z_un (z_end)⟩⟩
theorem ty182 : TIok Try.prog 182 ⟨3, 40, true, (.st [(0, 22), (1, 3), (2, 3)]), [.d (.sl true 1 0 []), .d (.int .i64 0), .d (.int .i64 0)], [.sl 1, .int .i64, .int .i64]⟩ := ⟨Try.sizeOf182, Try.isAgg182, ⟨_, Try.runUnderlying182, rfl, f_cons Try.sizeOf22 (f_cons Try.sizeOf3 (f_cons Try.sizeOf3 (f_end)))⟩, ⟨_, Try.typeInfo182, rfl⟩, by decide, by decide, ⟨_, Try.zeroValue182, rfl, fun w C ι => z_cons z_nil (z_cons z_int (z_cons z_int (z_end)))⟩⟩
theorem ty135 : TIok Try.prog 135 ⟨1, 8, false, .other, [.undef], [.undef]⟩ := ⟨Try.sizeOf135, Try.isAgg135, trivial, ⟨_, Try.typeInfo135, rfl⟩, by decide, by decide, ⟨_, Try.zeroValue135, rfl, fun w C ι => z_cons z_un (z_end)⟩⟩
theorem ty143 : TIok Try.prog 143 ⟨1, 8, false, .other, [.undef], [.undef]⟩ := ⟨Try.sizeOf143, Try.isAgg143, trivial, ⟨_, Try.typeInfo143, rfl⟩, by decide, by decide, ⟨_, Try.zeroValue143, rfl, fun w C ι => z_cons z_un (z_end)⟩⟩
theorem ty150 : TIok Try.prog 150 ⟨2, 32, true, (.st [(0, 81), (1, 148)]), [.d (.sl true 4 0 []), .undef], [.sl 4, .undef]⟩ := ⟨Try.sizeOf150, Try.isAgg150, ⟨_, Try.runUnderlying150, rfl, f_cons Try.sizeOf81 (f_cons Try.sizeOf148 (f_end))⟩, ⟨_, Try.typeInfo150, rfl⟩, by decide, by decide, ⟨_, Try.zeroValue150, rfl, fun w C ι => z_cons z_nil (z_cons z_un (z_end))⟩⟩
theorem ty148 : TIok Try.prog 148 ⟨1, 8, false, .other, [.undef], [.undef]⟩ := ⟨Try.sizeOf148, Try.isAgg148, trivial, ⟨_, Try.typeInfo148, rfl⟩, by decide, by decide, ⟨_, Try.zeroValue148, rfl, fun w C ι => z_cons z_un (z_end)⟩⟩
theorem ty156 : TIok Try.prog 156 ⟨1, 8, false, .other, [.undef], [.undef]⟩ := ⟨Try.sizeOf156, Try.isAgg156, trivial, ⟨_, Try.typeInfo156, rfl⟩, by decide, by decide, ⟨_, Try.zeroValue156, rfl, fun w C ι => z_cons z_un (z_end)⟩⟩
theorem ty162 : TIok Try.prog 162 ⟨1, 8, false, .other, [.undef], [.undef]⟩ := ⟨Try.sizeOf162, Try.isAgg162, trivial, ⟨_, Try.typeInfo162, rfl⟩, by decide, by decide, ⟨_, Try.zeroValue162, rfl, fun w C ι => z_cons z_un (z_end)⟩⟩
theorem ty167 : TIok Try.prog 167 ⟨1, 8, false, .other, [.undef], [.undef]⟩ := ⟨Try.sizeOf167, Try.isAgg167, trivial, ⟨_, Try.typeInfo167, rfl⟩, by decide, by decide, ⟨_, Try.zeroValue167, rfl, fun w C ι => z_cons z_un (z_end)⟩⟩
theorem ty91 : TIok Try.prog 91 ⟨1, 8, false, .other, [.undef], [.undef]⟩ := ⟨Try.sizeOf91, Try.isAgg91, trivial, ⟨_, Try.typeInfo91, rfl⟩, by decide, by decide, ⟨_, Try.zeroValue91, rfl, fun w C ι => z_cons z_un (z_end)⟩⟩
theorem ty193 : TIok Try.prog 193 ⟨1, 8, false, (.int .u64), [.d (.int .u64 0)], [.int .u64]⟩ := ⟨Try.sizeOf193, Try.isAgg193, Try.runUnderlying193, ⟨_, Try.typeInfo193, rfl⟩, by decide, by decide, ⟨_, Try.zeroValue193, rfl, fun w C ι => z_cons z_int (z_end)⟩⟩
theorem ty198 : TIok Try.prog 198 ⟨1, 8, false, (.int .i64), [.d (.int .i64 0)], [.int .i64]⟩ := ⟨Try.sizeOf198, Try.isAgg198, Try.runUnderlying198, ⟨_, Try.typeInfo198, rfl⟩, by decide, by decide, ⟨_, Try.zeroValue198, rfl, fun w C ι => z_cons z_int (z_end)⟩⟩
theorem ty205 : TIok Try.prog 205 ⟨1, 4, false, (.int .u32), [.d (.int .u32 0)], [.int .u32]⟩ := ⟨Try.sizeOf205, Try.isAgg205, Try.runUnderlying205, ⟨_, Try.typeInfo205, rfl⟩, by decide, by decide, ⟨_, Try.zeroValue205, rfl, fun w C ι => z_cons z_int (z_end)⟩⟩
theorem ty207 : TIok Try.prog 207 ⟨1, 8, false, (.int .u64), [.d (.int .u64 0)], [.int .u64]⟩ := ⟨Try.sizeOf207, Try.isAgg207, Try.runUnderlying207, ⟨_, Try.typeInfo207, rfl⟩, by decide, by decide, ⟨_, Try.zeroValue207, rfl, fun w C ι => z_cons z_int (z_end)⟩⟩
theorem ty208 : TIok Try.prog 208 ⟨1, 8, false, (.int .u64), [.d (.int .u64 0)], [.int .u64]⟩ := ⟨Try.sizeOf208, Try.isAgg208, Try.runUnderlying208, ⟨_, Try.typeInfo208, rfl⟩, by decide, by decide, ⟨_, Try.zeroValue208, rfl, fun w C ι => z_cons z_int (z_end)⟩⟩
theorem ty9 : TIok Try.prog 9 ⟨1, 16, false, .str, [.d (.str ⟨#[]⟩)], [.str]⟩ := ⟨Try.sizeOf9, Try.isAgg9, Try.runUnderlying9, ⟨_, Try.typeInfo9, rfl⟩, by decide, by decide, ⟨_, Try.zeroValue9, rfl, fun w C ι => z_cons z_str (z_end)⟩⟩
theorem ty213 : TIok Try.prog 213 ⟨1, 8, false, .other, [.undef], [.undef]⟩ := ⟨Try.sizeOf213, Try.isAgg213, trivial, ⟨_, Try.typeInfo213, rfl⟩, by decide, by decide, ⟨_, Try.zeroValue213, rfl, fun w C ι => z_cons z_un (z_end)⟩⟩
theorem ty8 : TIok Try.prog 8 ⟨4, 24, true, (.st [(0, 2), (1, 3), (2, 4), (3, 6)]), [.d (.int .i64 0), .d (.int .i64 0), .d (.bool false), .d (.int .u8 0)], [.int .i64, .int .i64, .bool, .int .u8]⟩ := ⟨Try.sizeOf8, Try.isAgg8, ⟨_, Try.runUnderlying8, rfl, f_cons Try.sizeOf2 (f_cons Try.sizeOf3 (f_cons Try.sizeOf4 (f_cons Try.sizeOf6 (f_end))))⟩, ⟨_, Try.typeInfo8, rfl⟩, by decide, by decide, ⟨_, Try.zeroValue8, rfl, fun w C ι => z_cons z_int (z_cons z_int (z_cons z_bool (z_cons z_int (z_end))))⟩⟩
theorem ty2 : TIok Try.prog 2 ⟨1, 8, false, (.int .i64), [.d (.int .i64 0)], [.int .i64]⟩ := ⟨Try.sizeOf2, Try.isAgg2, Try.runUnderlying2, ⟨_, Try.typeInfo2, rfl⟩, by decide, by decide, ⟨_, Try.zeroValue2, rfl, fun w C ι => z_cons z_int (z_end)⟩⟩
theorem ty6 : TIok Try.prog 6 ⟨1, 1, false, (.int .u8), [.d (.int .u8 0)], [.int .u8]⟩ := ⟨Try.sizeOf6, Try.isAgg6, Try.runUnderlying6, ⟨_, Try.typeInfo6, rfl⟩, by decide, by decide, ⟨_, Try.zeroValue6, rfl, fun w C ι => z_cons z_int (z_end)⟩⟩
theorem ty10 : TIok Try.prog 10 ⟨1, 16, false, .str, [.d (.str ⟨#[]⟩)], [.str]⟩ := ⟨Try.sizeOf10, Try.isAgg10, Try.runUnderlying10, ⟨_, Try.typeInfo10, rfl⟩, by decide, by decide, ⟨_, Try.zeroValue10, rfl, fun w C ι => z_cons z_str (z_end)⟩⟩
theorem ty11 : TIok Try.prog 11 ⟨1, 16, false, .str, [.d (.str ⟨#[]⟩)], [.str]⟩ := ⟨Try.sizeOf11, Try.isAgg11, Try.runUnderlying11, ⟨_, Try.typeInfo11, rfl⟩, by decide, by decide, ⟨_, Try.zeroValue11, rfl, fun w C ι => z_cons z_str (z_end)⟩⟩
theorem ty14 : TIok Try.prog 14 ⟨2, 24, true, (.st [(0, 9), (1, 12)]), [.d (.str ⟨#[]⟩), .d (.int .u64 0)], [.str, .int .u64]⟩ := ⟨Try.sizeOf14, Try.isAgg14, ⟨_, Try.runUnderlying14, rfl, f_cons Try.sizeOf9 (f_cons Try.sizeOf12 (f_end))⟩, ⟨_, Try.typeInfo14, rfl⟩, by decide, by decide, ⟨_, Try.zeroValue14, rfl, fun w C ι => z_cons z_str (z_cons z_int (z_end))⟩⟩
theorem ty12 : TIok Try.prog 12 ⟨1, 8, false, (.int .u64), [.d (.int .u64 0)], [.int .u64]⟩ := ⟨Try.sizeOf12, Try.isAgg12, Try.runUnderlying12, ⟨_, Try.typeInfo12, rfl⟩, by decide, by decide, ⟨_, Try.zeroValue12, rfl, fun w C ι => z_cons z_int (z_end)⟩⟩
theorem ty15 : TIok Try.prog 15 ⟨1, 8, false, .other, [.undef], [.undef]⟩ := ⟨Try.sizeOf15, Try.isAgg15, trivial, ⟨_, Try.typeInfo15, rfl⟩, by decide, by decide, ⟨_, Try.zeroValue15, rfl, fun w C ι => z_cons z_un (z_end)⟩⟩
theorem ty218 : TIok Try.prog 218 ⟨4, 40, true, (.st [(0, 17), (1, 17), (2, 17), (3, 9)]), [.undef, .undef, .undef, .d (.str ⟨#[]⟩)], [.undef, .undef, .undef, .str]⟩ := ⟨Try.sizeOf218, Try.isAgg218, ⟨_, Try.runUnderlying218, rfl, f_cons Try.sizeOf17 (f_cons Try.sizeOf17 (f_cons Try.sizeOf17 (f_cons Try.sizeOf9 (f_end))))⟩, ⟨_, Try.typeInfo218, rfl⟩, by decide, by decide, ⟨_, Try.zeroValue218, rfl, fun w C ι => z_cons z_un (z_cons z_un (z_cons z_un (z_cons z_str (z_end))))⟩⟩
theorem ty17 : TIok Try.prog 17 ⟨1, 8, false, .other, [.undef], [.undef]⟩ := ⟨Try.sizeOf17, Try.isAgg17, trivial, ⟨_, Try.typeInfo17, rfl⟩, by decide, by decide, ⟨_, Try.zeroValue17, rfl, fun w C ι => z_cons z_un (z_end)⟩⟩
theorem ty229 : TIok Try.prog 229 ⟨11, 48, true, (.st [(0, 12), (1, 12), (2, 205), (3, 222), (4, 5), (5, 5), (6, 223), (7, 224), (8, 225), (9, 226), (10, 227)]), [.d (.int .u64 0), .d (.int .u64 0), .d (.int .u32 0), .d (.int .u8 0), .d (.int .u8 0), .d (.int .u8 0), .d (.int .u8 0), .undef, .undef, .d (.int .i32 0), .d (.int .i32 0)], [.int .u64, .int .u64, .int .u32, .int .u8, .int .u8, .int .u8, .int .u8, .undef, .undef, .int .i32, .int .i32]⟩ := ⟨Try.sizeOf229, Try.isAgg229, ⟨_, Try.runUnderlying229, rfl, f_cons Try.sizeOf12 (f_cons Try.sizeOf12 (f_cons Try.sizeOf205 (f_cons Try.sizeOf222 (f_cons Try.sizeOf5 (f_cons Try.sizeOf5 (f_cons Try.sizeOf223 (f_cons Try.sizeOf224 (f_cons Try.sizeOf225 (f_cons Try.sizeOf226 (f_cons Try.sizeOf227 (f_end)))))))))))⟩, ⟨_, Try.typeInfo229, rfl⟩, by decide, by decide, ⟨_, Try.zeroValue229, rfl, fun w C ι => z_cons z_int (z_cons z_int (z_cons z_int (z_cons z_int (z_cons z_int (z_cons z_int (z_cons z_int (z_cons z_un (z_cons z_un (z_cons z_int (z_cons z_int (z_end)))))))))))⟩⟩
theorem ty222 : TIok Try.prog 222 ⟨1, 1, false, (.int .u8), [.d (.int .u8 0)], [.int .u8]⟩ := ⟨Try.sizeOf222, Try.isAgg222, Try.runUnderlying222, ⟨_, Try.typeInfo222, rfl⟩, by decide, by decide, ⟨_, Try.zeroValue222, rfl, fun w C ι => z_cons z_int (z_end)⟩⟩
theorem ty223 : TIok Try.prog 223 ⟨1, 1, false, (.int .u8), [.d (.int .u8 0)], [.int .u8]⟩ := ⟨Try.sizeOf223, Try.isAgg223, Try.runUnderlying223, ⟨_, Try.typeInfo223, rfl⟩, by decide, by decide, ⟨_, Try.zeroValue223, rfl, fun w C ι => z_cons z_int (z_end)⟩⟩
theorem ty224 : TIok Try.prog 224 ⟨1, 8, false, .other, [.undef], [.undef]⟩ := ⟨Try.sizeOf224, Try.isAgg224, trivial, ⟨_, Try.typeInfo224, rfl⟩, by decide, by decide, ⟨_, Try.zeroValue224, rfl, fun w C ι => z_cons z_un (z_end)⟩⟩
theorem ty225 : TIok Try.prog 225 ⟨1, 8, false, .other, [.undef], [.undef]⟩ := ⟨Try.sizeOf225, Try.isAgg225, trivial, ⟨_, Try.typeInfo225, rfl⟩, by decide, by decide, ⟨_, Try.zeroValue225, rfl, fun w C ι => z_cons z_un (z_end)⟩⟩
theorem ty226 : TIok Try.prog 226 ⟨1, 4, false, (.int .i32), [.d (.int .i32 0)], [.int .i32]⟩ := ⟨Try.sizeOf226, Try.isAgg226, Try.runUnderlying226, ⟨_, Try.typeInfo226, rfl⟩, by decide, by decide, ⟨_, Try.zeroValue226, rfl, fun w C ι => z_cons z_int (z_end)⟩⟩
theorem ty227 : TIok Try.prog 227 ⟨1, 4, false, (.int .i32), [.d (.int .i32 0)], [.int .i32]⟩ := ⟨Try.sizeOf227, Try.isAgg227, Try.runUnderlying227, ⟨_, Try.typeInfo227, rfl⟩, by decide, by decide, ⟨_, Try.zeroValue227, rfl, fun w C ι => z_cons z_int (z_end)⟩⟩
theorem ty16 : TIok Try.prog 16 ⟨1, 8, false, .other, [.undef], [.undef]⟩ := ⟨Try.sizeOf16, Try.isAgg16, trivial, ⟨_, Try.typeInfo16, rfl⟩, by decide, by decide, ⟨_, Try.zeroValue16, rfl, fun w C ι => z_cons z_un (z_end)⟩⟩
theorem ty19 : TIok Try.prog 19 ⟨1, 8, true, (.st [(0, 17)]), [.undef], [.undef]⟩ := ⟨Try.sizeOf19, Try.isAgg19, ⟨_, Try.runUnderlying19, rfl, f_cons Try.sizeOf17 (f_end)⟩, ⟨_, Try.typeInfo19, rfl⟩, by decide, by decide, ⟨_, Try.zeroValue19, rfl, fun w C ι => z_cons z_un (z_end)⟩⟩
theorem ty232 : TIok Try.prog 232 ⟨1, 8, false, .other, [.undef], [.undef]⟩ := ⟨Try.sizeOf232, Try.isAgg232, trivial, ⟨_, Try.typeInfo232, rfl⟩, by decide, by decide, ⟨_, Try.zeroValue232, rfl, fun w C ι => z_cons z_un (z_end)⟩⟩
theorem fn4 : FnOk Try.prog 4 I4 := ⟨Try.call4, Try.func4, by kernel_rfl, by kernel_rfl, by kernel_rfl⟩
theorem fn5 : FnOk Try.prog 5 I5 := ⟨Try.call5, Try.func5, by kernel_rfl, by kernel_rfl, by kernel_rfl⟩
theorem fn6 : FnOk Try.prog 6 I6 := ⟨Try.call6, Try.func6, by kernel_rfl, by kernel_rfl, by kernel_rfl⟩
theorem fn19 : FnOk Try.prog 19 I19 := ⟨Try.call19, Try.func19, by kernel_rfl, by kernel_rfl, by kernel_rfl⟩
theorem fn20 : FnOk Try.prog 20 I20 := ⟨Try.call20, Try.func20, by kernel_rfl, by kernel_rfl, by kernel_rfl⟩
theorem fn21 : FnOk Try.prog 21 I21 := ⟨Try.call21, Try.func21, by kernel_rfl, by kernel_rfl, by kernel_rfl⟩
theorem fn22 : FnOk Try.prog 22 I22 := ⟨Try.call22, Try.func22, by kernel_rfl, by kernel_rfl, by kernel_rfl⟩
theorem fn23 : FnOk Try.prog 23 I23 := ⟨Try.call23, Try.func23, by kernel_rfl, by kernel_rfl, by kernel_rfl⟩
theorem fn24 : FnOk Try.prog 24 I24 := ⟨Try.call24, Try.func24, by kernel_rfl, by kernel_rfl, by kernel_rfl⟩
theorem fn25 : FnOk Try.prog 25 I25 := ⟨Try.call25, Try.func25, by kernel_rfl, by kernel_rfl, by kernel_rfl⟩
theorem fn26 : FnOk Try.prog 26 I26 := ⟨Try.call26, Try.func26, by kernel_rfl, by kernel_rfl, by kernel_rfl⟩
theorem fn27 : FnOk Try.prog 27 I27 := ⟨Try.call27, Try.func27, by kernel_rfl, by kernel_rfl, by kernel_rfl⟩
theorem fn28 : FnOk Try.prog 28 I28 := ⟨Try.call28, Try.func28, by kernel_rfl, by kernel_rfl, by kernel_rfl⟩
theorem fn29 : FnOk Try.prog 29 I29 := ⟨Try.call29, Try.func29, by kernel_rfl, by kernel_rfl, by kernel_rfl⟩
theorem fn32 : FnOk Try.prog 32 I32 := ⟨Try.call32, Try.func32, by kernel_rfl, by kernel_rfl, by kernel_rfl⟩
theorem fn35 : FnOk Try.prog 35 I35 := ⟨Try.call35, Try.func35, by kernel_rfl, by kernel_rfl, by kernel_rfl⟩
theorem fn77 : FnOk Try.prog 77 I77 := ⟨Try.call77, Try.func77, by kernel_rfl, by kernel_rfl, by kernel_rfl⟩
theorem fn78 : FnOk Try.prog 78 I78 := ⟨Try.call78, Try.func78, by kernel_rfl, by kernel_rfl, by kernel_rfl⟩
theorem fn79 : FnOk Try.prog 79 I79 := ⟨Try.call79, Try.func79, by kernel_rfl, by kernel_rfl, by kernel_rfl⟩
theorem fn80 : FnOk Try.prog 80 I80 := ⟨Try.call80, Try.func80, by kernel_rfl, by kernel_rfl, by kernel_rfl⟩
theorem fn81 : FnOk Try.prog 81 I81 := ⟨Try.call81, Try.func81, by kernel_rfl, by kernel_rfl, by kernel_rfl⟩
theorem fn82 : FnOk Try.prog 82 I82 := ⟨Try.call82, Try.func82, by kernel_rfl, by kernel_rfl, by kernel_rfl⟩
theorem fn83 : FnOk Try.prog 83 I83 := ⟨Try.call83, Try.func83, by kernel_rfl, by kernel_rfl, by kernel_rfl⟩
theorem fn84 : FnOk Try.prog 84 I84 := ⟨Try.call84, Try.func84, by kernel_rfl, by kernel_rfl, by kernel_rfl⟩
theorem fn85 : FnOk Try.prog 85 I85 := ⟨Try.call85, Try.func85, by kernel_rfl, by kernel_rfl, by kernel_rfl⟩
theorem fn86 : FnOk Try.prog 86 I86 := ⟨Try.call86, Try.func86, by kernel_rfl, by kernel_rfl, by kernel_rfl⟩
theorem fn87 : FnOk Try.prog 87 I87 := ⟨Try.call87, Try.func87, by kernel_rfl, by kernel_rfl, by kernel_rfl⟩
theorem fn88 : FnOk Try.prog 88 I88 := ⟨Try.call88, Try.func88, by kernel_rfl, by kernel_rfl, by kernel_rfl⟩
theorem fn89 : FnOk Try.prog 89 I89 := ⟨Try.call89, Try.func89, by kernel_rfl, by kernel_rfl, by kernel_rfl⟩
theorem fn90 : FnOk Try.prog 90 I90 := ⟨Try.call90, Try.func90, by kernel_rfl, by kernel_rfl, by kernel_rfl⟩
theorem fn91 : FnOk Try.prog 91 I91 := ⟨Try.call91, Try.func91, by kernel_rfl, by kernel_rfl, by kernel_rfl⟩
theorem fn92 : FnOk Try.prog 92 I92 := ⟨Try.call92, Try.func92, by kernel_rfl, by kernel_rfl, by kernel_rfl⟩
theorem fn93 : FnOk Try.prog 93 I93 := ⟨Try.call93, Try.func93, by kernel_rfl, by kernel_rfl, by kernel_rfl⟩
theorem fn94 : FnOk Try.prog 94 I94 := ⟨Try.call94, Try.func94, by kernel_rfl, by kernel_rfl, by kernel_rfl⟩
theorem fn98 : FnOk Try.prog 98 I98 := ⟨Try.call98, Try.func98, by kernel_rfl, by kernel_rfl, by kernel_rfl⟩
theorem fn99 : FnOk Try.prog 99 I99 := ⟨Try.call99, Try.func99, by kernel_rfl, by kernel_rfl, by kernel_rfl⟩
theorem fn136 : FnOk Try.prog 136 I136 := ⟨Try.call136, Try.func136, by kernel_rfl, by kernel_rfl, by kernel_rfl⟩
theorem fn137 : FnOk Try.prog 137 I137 := ⟨Try.call137, Try.func137, by kernel_rfl, by kernel_rfl, by kernel_rfl⟩
theorem fn138 : FnOk Try.prog 138 I138 := ⟨Try.call138, Try.func138, by kernel_rfl, by kernel_rfl, by kernel_rfl⟩
theorem fn139 : FnOk Try.prog 139 I139 := ⟨Try.call139, Try.func139, by kernel_rfl, by kernel_rfl, by kernel_rfl⟩
theorem fn140 : FnOk Try.prog 140 I140 := ⟨Try.call140, Try.func140, by kernel_rfl, by kernel_rfl, by kernel_rfl⟩
theorem fn141 : FnOk Try.prog 141 I141 := ⟨Try.call141, Try.func141, by kernel_rfl, by kernel_rfl, by kernel_rfl⟩
theorem fn142 : FnOk Try.prog 142 I142 := ⟨Try.call142, Try.func142, by kernel_rfl, by kernel_rfl, by kernel_rfl⟩
theorem fn159 : FnOk Try.prog 159 I159 := ⟨Try.call159, Try.func159, by kernel_rfl, by kernel_rfl, by kernel_rfl⟩
theorem cxOk : CxOk Try.prog cx := cxOk_of ⟨ty29, ty3, ty22, ty5, ty25, ty23, ty26, ty27, ty165, ty42, ty4, ty38, ty34, ty32, ty35, ty36, ty169, ty45, ty43, ty175, ty49, ty47, ty173, ty78, ty139, ty81, ty99, ty106, ty115, ty126, ty182, ty135, ty143, ty150, ty148, ty156, ty162, ty167, ty91, ty193, ty198, ty205, ty207, ty208, ty9, ty213, ty8, ty2, ty6, ty10, ty11, ty14, ty12, ty15, ty218, ty17, ty229, ty222, ty223, ty224, ty225, ty226, ty227, ty16, ty19, ty232, trivial⟩ ⟨fn4, fn5, fn6, fn19, fn20, fn21, fn22, fn23, fn24, fn25, fn26, fn27, fn28, fn29, fn32, fn35, fn77, fn78, fn79, fn80, fn81, fn82, fn83, fn84, fn85, fn86, fn87, fn88, fn89, fn90, fn91, fn92, fn93, fn94, fn98, fn99, fn136, fn137, fn138, fn139, fn140, fn141, fn142, fn159, trivial⟩ (by kernel_rfl)
end Go.Ev.Q
